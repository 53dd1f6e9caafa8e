/- Texts of the proof, put together: part 4. No condition. -/
import Derived.Test.YthdgllldpfeelaaGreatDoorT3
/- Operations that only look: all of them. No condition. -/
set_option linter.unusedVariables false
set_option linter.unusedSimpArgs false
namespace Go.Proofs.YthdgllldpfeelaaGreatDoor
open Go
section
variable {P : Program} {g : Env} {γ : Ghost} {S : St} {n : Nat} {a : Act} {w0 w : World} {D A : Nat → Prop} {ρ : Operand → Value}
theorem Tells.looks (F : Fit g γ S n a) {op : Op} {q : Qt} (h : Tells P a.eval g S op q) : Looks P g γ S n a op q g := by
  obtain ⟨p, dp, news, v⟩ := q
  obtain ⟨⟨h1, h2, h3⟩, h4⟩ := h
  simp only at h1
  subst h1
  exact looks0 F h2 h3 h4
theorem r_aslice {t : TypeId} {X : Operand} {b off m sz : Nat} (hx : ρ X = .pointer (some ⟨b, off, none⟩)) (ht : arrAt? P t = some (m, sz)) (w : World) :
    Runs P ρ (.slice t X none none none) w (.slice (some ⟨b, off, none⟩) m m) w := by
  intro o ho
  unfold arrAt? at ht
  split at ht
  · rename_i mm e hu
    obtain ⟨q, hq, hs⟩ := Option.map_eq_some_iff.1 ht
    cases hs
    simp [execOp, ho, Instr.sliceAt, run_underlying hu, hx, Instr.sureAddr, Instr.sliceBounds, sizeOf, typeInfo, hq, Addr.add]
  · cases ht
theorem cutS_spec (F : Fit g γ S n a) {t : TypeId} {X : Operand} {Lo Hi Mx : Option Operand} {x : SV} {lo hi mx : Option SV} {q : Qt}
    (hx : a.eval X = encS g x) (hl : opO S Lo = some lo) (hh : opO S Hi = some hi) (hm : opO S Mx = some mx) (hr : ∀ o ∈ refS x, o < S.obs.length) (h : cutS P S t x lo hi mx = some q) (hp : q.p) :
    ∃ g', Looks P g γ S n a (.slice t X Lo Hi Mx) q g' := by
  have noO : ∀ {Y : Option Operand} {y : Option SV}, opO S Y = some y → numO y = some none → Y = none := by
    intro Y y hy ny
    cases Y with
    | none => rfl
    | some _ =>
      simp only [opO, Option.map_eq_some_iff] at hy
      obtain ⟨v, _, rfl⟩ := hy
      unfold numO at ny
      split at ny <;> simp at ny
      rename_i he
      cases he
  unfold cutS at h
  split at h
  · rename_i s l h' nl nh nm
    split at h
    · rename_i ht
      cases h
      have hp' : 0 ≤ l.getD 0 ∧ l.getD 0 ≤ h'.getD (s.size : Int) ∧ h'.getD (s.size : Int) ≤ (s.size : Int) := hp
      obtain rfl := noO hm nm
      refine ⟨g, looks0 F trivial (fun o ho => by cases ho) (fun _ _ _ w _ => ?_)⟩
      refine r_scut hx (by simp [ht]) ?_ ?_
      · rw [opO_spec F hh]; exact numO_hi nh (by omega) (by omega)
      · rw [opO_spec F hl]; exact numO_lo nl (by omega) (by omega)
    · cases h
  · rename_i o l h' m nl nh nm
    split at h
    · rename_i e u xs md fu ho
      split at h
      · cases h
      · rename_i hmd
        split at h
        · rename_i hc
          cases h
          exact cut_row F ho hmd hx hl hh hm nl nh nm hc.1 hc.2 hp
        · cases h
    · cases h
  · rename_i b off nl nh nm
    split at h
    · rename_i T ls hb
      split at h
      · rename_i m u vec rest hs
        split at h
        · rename_i hc
          cases h
          obtain rfl := noO hl nl
          obtain rfl := noO hh nh
          obtain rfl := noO hm nm
          exact ⟨g, looks0 F trivial hr (fun _ _ _ w _ => r_aslice hx hc.1 w)⟩
        · cases h
      · cases h
    · cases h
  · cases h
/-- A variable's array may be read as a slice. -/
theorem asl_rds (C : Cx g S w0 D A w) {b T off m : Nat} {ls : List At} {u : Ty} {vec : Vector u.den m} {rest : List At} (hb : S.ob b = .box T ls) (hs : skipL ls off = some (.fl (.arr m u) vec :: rest)) (hm : m ≤ 9223372036854775807) :
    Rds (.slice (some ⟨(g b).b, off, none⟩) m m) m u.sz ((flatT (.arr m u)).cells vec) w := by
  obtain ⟨pre, e, hps⟩ := skipL_spec _ _ _ hs
  have hbx := box_ok C hb
  have hc := seg_cells g (pre := pre) (seg := [.fl (.arr m u) vec]) (post := rest) (n := m * u.sz) hps (by simp [sizeL, At.sz, Ty.sz])
  rw [show pre ++ ([.fl (.arr m u) vec] ++ rest) = ls from e.symm] at hc
  have hc' : ((encL g ls).drop off).take (m * u.sz) = (flatT (.arr m u)).cells vec := by rw [hc]; simp [encL, encA]
  refine ⟨by rw [(flatT _).len, flatT_sz]; rfl, some ⟨(g b).b, off, none⟩, m, rfl, Nat.le_refl _, hm, (fun h => by cases h), fun j y hy => ⟨_, rfl, ?_⟩⟩
  have hj : j < m * u.sz := by
    have := (List.getElem?_eq_some_iff.1 hy).1
    rw [(flatT _).len, flatT_sz] at this
    exact this
  rw [add_plain, cell_of_row w (g b).b (off + j) _ T (0, 0) hbx]
  rw [← hc', List.getElem?_take, if_pos hj, List.getElem?_drop] at hy
  simpa using hy
theorem numsS_spec {u : Ty} {xs : List u.den} {l : List Int} (h : numsS u xs = some l) : ∃ e : u = .int .u8, cast (congrArg (fun t : Ty => List t.den) e) xs = l := by
  unfold numsS at h
  obtain ⟨e, he⟩ := castT_spec h
  have : u = .int .u8 := by injection e
  subst this
  exact ⟨rfl, he⟩
theorem convS_spec (F : Fit g γ S n a) {s d : TypeId} {X : Operand} {x : SV} {q : Qt} (hx : a.eval X = encS g x) (h : convS P S s d x = some q) : Tells P a.eval g S (.convert s d X) q := by
  unfold convS at h
  split at h
  · rename_i k i
    split at h
    · rename_i h1 h2
      cases h
      have hx : a.eval X = .int k i := hx
      exact ⟨⟨rfl, trivial, fun o h => by cases h⟩, fun _ _ _ w _ => runs_pure (by simp only [pureV, h1, h2, hx]; rfl) w⟩
    · cases h
  · rename_i o
    split at h
    · rename_i e u xs m fu ho
      split at h
      · rename_i ht
        obtain ⟨l, hl, rfl⟩ := Option.map_eq_some_iff.1 h
        obtain ⟨e', he'⟩ := numsS_spec hl
        subst e'
        simp only [cast_eq] at he'
        subst he'
        refine ⟨⟨rfl, trivial, fun o h => by cases h⟩, fun _ _ _ w C => ?_⟩
        have hob := F.ob o
        rw [ho] at hob
        have hf := ((RepL_flat (.int .u8) rfl _ _ _).1 hob.1).1
        have hrd := row_rds C ho
        rw [hf] at hrd
        exact r_b2s hrd rfl hx ht
      · cases h
    · cases h
  · split at h
    · rename_i ht
      cases h
      exact ⟨⟨rfl, trivial, fun o h => by cases h⟩, fun _ _ _ w C => r_b2s (l := []) (rds_nil 1 w) rfl hx ht⟩
    · cases h
  · rename_i b off m
    split at h
    · rename_i T ls hb
      split at h
      · rename_i m' u vec rest hs
        split at h
        · rename_i hc
          obtain ⟨ht, rfl, hm⟩ := hc
          obtain ⟨l, hl, rfl⟩ := Option.map_eq_some_iff.1 h
          obtain ⟨e, he⟩ := numsS_spec hl
          subst e
          simp only [cast_eq] at he
          subst he
          refine ⟨⟨rfl, trivial, fun o h => by cases h⟩, fun _ _ _ w C => ?_⟩
          have hrd := asl_rds C hb hs hm
          rw [vec_cells] at hrd
          exact r_b2s hrd (by simp) hx ht
        · cases h
      · cases h
    · cases h
  · cases h
theorem ats_spec : ∀ {vs : List SV} {ls : List At}, ats vs = some ls → vs.map (encS g) = ls.map (val1 g) ∧ ls.flatMap refA = vs.flatMap refS
  | [], ls, h => by simp [ats] at h; subst h; exact ⟨rfl, rfl⟩
  | .v (.a x) :: r, ls, h => by
    simp only [ats, Option.map_eq_some_iff] at h
    obtain ⟨ls', h', rfl⟩ := h
    obtain ⟨h1, h2⟩ := ats_spec h'
    exact ⟨by simp only [List.map_cons, h1]; rfl, by simp only [List.flatMap_cons, h2]; rfl⟩
  | .v (.elp _ _ _ _) :: r, ls, h => by simp [ats] at h
  | .v (.arp _ _ _ _ _) :: r, ls, h => by simp [ats] at h
  | .v (.fn _ _ _) :: r, ls, h => by simp [ats] at h
  | .v (.st _) :: r, ls, h => by simp [ats] at h
  | .tup _ :: r, ls, h => by simp [ats] at h
theorem opAs_spec (F : Fit g γ S n a) : ∀ {xs : List Operand} {vs : List SV}, opAs S xs = some vs → xs.map a.eval = vs.map (encS g) ∧ ∀ o ∈ vs.flatMap refS, o < S.obs.length
  | [], vs, h => by simp [opAs] at h; subst h; exact ⟨rfl, by simp⟩
  | x :: xs, vs, h => by
    simp only [opAs, List.mapM_cons, Option.bind_eq_bind, Option.bind_eq_some_iff, Option.pure_def, Option.some.injEq] at h
    obtain ⟨v, hv, vs', h', rfl⟩ := h
    obtain ⟨h1, h2⟩ := opAs_spec F (vs := vs') h'
    obtain ⟨e1, _, e2⟩ := opA_spec F hv
    refine ⟨by simp [e1, h1], fun o ho => ?_⟩
    simp only [List.flatMap_cons, List.mem_append] at ho
    rcases ho with ho | ho
    · exact e2 o ho
    · exact h2 o ho
theorem placesV_get : ∀ {fs : List Field} {ps : List (Nat × Nat)} {j : Nat} {fd : Field} {m : Nat}, placesV P fs = some ps → fs[j]? = some fd → cellsOf P fd.type = some m → ps[j]? = some (fd.offset, m)
  | [], ps, j, fd, m, h, hj, _ => by simp at hj
  | f :: fs, ps, j, fd, m, h, hj, hm => by
    simp only [placesV] at h
    split at h
    · rename_i i qs hi hq
      cases h
      match j with
      | 0 =>
        simp only [List.getElem?_cons_zero, Option.some.injEq] at hj
        subst hj
        simp only [cellsOf, hi, Option.map_some, Option.some.injEq] at hm
        simp [hm]
      | j + 1 => simpa using placesV_get hq (by simpa using hj) hm
    · cases h
theorem fillL_spec {t : TypeId} {fs : Array Field} {ps : List (Nat × Nat)} (hu : P.underlying t = some (.struct fs)) (hp : placesV P fs.toList = some ps) : ∀ (vs : List (Nat × SV)) (zs ls : List At), fillL P t zs vs = some ls →
    Instr.fill (fun j => ps.toArray[j]?) (encL g zs).toArray (vs.map fun p => (p.1, encS g p.2)) = some (encL g ls).toArray ∧ ∀ o ∈ ls.flatMap refA, o ∈ zs.flatMap refA ∨ o ∈ vs.flatMap (fun p => refS p.2)
  | [], zs, ls, h => by simp only [fillL, Option.some.injEq] at h; subst h; exact ⟨rfl, fun o ho => .inl ho⟩
  | (j, v) :: vs, zs, ls, h => by
    simp only [fillL] at h
    split at h
    · rename_i ft off hf
      split at h
      · rename_i us hus
        split at h
        · rename_i hm
          obtain ⟨zs', hz, h⟩ := Option.bind_eq_some_iff.1 h
          obtain ⟨h1, h2, h3⟩ := leafsT_spec hus
          obtain ⟨pre, old, post, q1, q2, q3, q4⟩ := splL_spec hz
          obtain ⟨c1, c2⟩ := spl_cells g (pre := pre) (old := old) (post := post) (us := us) q2 q3
          rw [← q1, ← q4] at c1
          rw [← q1] at c2
          obtain ⟨ih1, ih2⟩ := fillL_spec hu hp vs zs' ls h
          unfold fieldOff at hf
          rw [hu] at hf
          obtain ⟨fd, hfd, he⟩ := Option.map_eq_some_iff.1 hf
          cases he
          have hpl := placesV_get hp (j := j) (by simpa using hfd) hm
          refine ⟨?_, fun o ho => ?_⟩
          · rw [List.map_cons, fill_cons (us := encL g us) (off := fd.offset) (by rw [encL_len]; simpa using hpl) (h1 g) c2]
            have : (encL g zs).take fd.offset ++ encL g us ++ (encL g zs).drop (fd.offset + (encL g us).length) = encL g zs' := c1
            rw [this]; exact ih1
          · rcases ih2 o ho with ho | ho
            · rw [q4] at ho
              simp only [List.flatMap_append, List.mem_append] at ho
              rcases ho with (ho | ho) | ho
              · exact .inl (by rw [q1]; simp only [List.flatMap_append, List.mem_append]; exact .inl ho)
              · exact .inr (by simp only [List.flatMap_cons, List.mem_append]; rw [← h3]; exact .inl ho)
              · exact .inl (by rw [q1]; simp only [List.flatMap_append, List.mem_append]; exact .inr (.inr ho))
            · exact .inr (by simp only [List.flatMap_cons, List.mem_append]; exact .inr ho)
        · cases h
      · cases h
    · cases h
theorem castT_cells {t u : Ty} {x : t.den} {y : u.den} (h : castT (a := t) (b := u) x = some y) : (val1 g (.fl t x)).cells.toList = (flatT u).cells y := by
  obtain ⟨q, hq⟩ := castT_spec h
  subst q
  subst hq
  rw [val1_cells g _ rfl]; rfl
theorem fillA_spec {u : Ty} {place : Nat → Option (Nat × Nat)} (hp : ∀ j, place j = some (j * u.sz, u.sz)) : ∀ (vs : List (Nat × SV)) (xs ys : List u.den), fillA u xs vs = some ys →
    Instr.fill place (xs.flatMap (flatT u).cells).toArray (vs.map fun p => (p.1, encS g p.2)) = some (ys.flatMap (flatT u).cells).toArray
  | [], xs, ys, h => by simp only [fillA, Option.some.injEq] at h; subst h; rfl
  | (j, .v (.a (.fl w x))) :: vs, xs, ys, h => by
      simp only [fillA] at h
      split at h
      · rename_i y hy
        split at h
        · rename_i hlt
          have hcc := castT_cells (g := g) hy
          have ih := fillA_spec hp vs _ ys h
          have hlen : (xs.flatMap (flatT u).cells).length = xs.length * u.sz := by rw [flat_len, flatT_sz]
          have hle : j * u.sz + u.sz ≤ xs.length * u.sz := by
            have : (j + 1) * u.sz ≤ xs.length * u.sz := Nat.mul_le_mul_right _ hlt
            rwa [Nat.add_mul, Nat.one_mul] at this
          have hfc := fill_cons (cs := xs.flatMap (flatT u).cells) (us := (flatT u).cells y) (j := j) (off := j * u.sz) (v := encS g (.v (.a (.fl w x)))) (rest := vs.map fun p => (p.1, encS g p.2)) (place := place) (by rw [(flatT u).len, flatT_sz]; exact hp j) hcc
            (by have h1 : ((flatT u).cells y).length = u.sz := by rw [(flatT u).len, flatT_sz]
                rw [h1, hlen]; exact hle)
          rw [List.map_cons]
          show Instr.fill place _ ((j, encS g (.v (.a (.fl w x)))) :: _) = _
          rw [hfc]
          rw [(flatT u).len]
          have hs := flat_set (flatT u) xs j y hlt
          rw [flatT_sz] at hs ⊢
          rw [← hs]
          exact ih
        · cases h
      · cases h
  | (j, .v (.a (.lit _))) :: vs, xs, ys, h => by simp [fillA] at h
  | (j, .v (.a (.sl _))) :: vs, xs, ys, h => by simp [fillA] at h
  | (j, .v (.a (.nils _ _))) :: vs, xs, ys, h => by simp [fillA] at h
  | (j, .v (.a .nil0)) :: vs, xs, ys, h => by simp [fillA] at h
  | (j, .v (.a (.ptr _ _))) :: vs, xs, ys, h => by simp [fillA] at h
  | (j, .v (.a (.asl _ _ _))) :: vs, xs, ys, h => by simp [fillA] at h
  | (j, .v (.a .nilp)) :: vs, xs, ys, h => by simp [fillA] at h
  | (j, .v (.a .nilf)) :: vs, xs, ys, h => by simp [fillA] at h
  | (j, .v (.a .nili)) :: vs, xs, ys, h => by simp [fillA] at h
  | (j, .v (.a .un)) :: vs, xs, ys, h => by simp [fillA] at h
  | (j, .v (.elp _ _ _ _)) :: vs, xs, ys, h => by simp [fillA] at h
  | (j, .v (.arp _ _ _ _ _)) :: vs, xs, ys, h => by simp [fillA] at h
  | (j, .v (.fn _ _ _)) :: vs, xs, ys, h => by simp [fillA] at h
  | (j, .v (.st _)) :: vs, xs, ys, h => by simp [fillA] at h
  | (j, .tup _) :: vs, xs, ys, h => by simp [fillA] at h
theorem buildS_spec (F : Fit g γ S n a) {t : TypeId} {ps : Array (Nat × Operand)} {vs : List (Nat × SV)} {q : Qt} (hv : parts S ps.toList = some vs) (h : buildS P t vs = some q) : Tells P a.eval g S (.build t ps) q := by
  obtain ⟨e1, e2⟩ := parts_spec F hv
  have harr : (ps.map fun (i, x) => (i, a.eval x)).toList = vs.map fun p => (p.1, encS g p.2) := by
    rw [Array.toList_map]; exact e1
  unfold buildS at h
  split at h
  · split at h
    · rename_i zs hz
      split at h
      · rename_i hpl
        obtain ⟨ls, hls, rfl⟩ := Option.map_eq_some_iff.1 h
        obtain ⟨z1, z2, z3⟩ := zeroK_spec hz g
        unfold hasPlaces at hpl
        split at hpl
        · rename_i fs hu
          obtain ⟨pl, hpl⟩ := Option.isSome_iff_exists.1 hpl
          obtain ⟨f1, f2⟩ := fillL_spec (g := g) hu hpl vs zs ls hls
          refine ⟨⟨rfl, trivial, fun o ho => ?_⟩, fun _ _ _ w _ => r_build ?_⟩
          · rcases f2 o ho with h | h
            · rw [z3] at h; cases h
            · obtain ⟨p, hp, ho⟩ := List.mem_flatMap.1 h
              exact (e2 p hp).2 o ho
          · rw [harr]
            unfold zeroC at z1
            obtain ⟨i, hi, hz2⟩ := Option.bind_eq_some_iff.1 z1
            obtain ⟨z, hz3, hz4⟩ := Option.map_eq_some_iff.1 hz2
            have hzc : z.cells = (encL g zs).toArray := by rw [← hz4]
            simp only [builtV, hi, hu, hz3, hpl, hzc, f1, Option.map_some]
            rfl
        · cases hpl
      · cases h
    · cases h
  · split at h
    · rename_i m u hty
      split at h
      · rename_i xs hxs
        split at hxs
        · rename_i hc
          split at h
          · rename_i hlen
            cases h
            simp only [Bool.and_eq_true, beq_iff_eq] at hc
            obtain ⟨⟨hzd, hat⟩, hfl⟩ := hc
            unfold zeroD at hzd
            split at hzd
            · rename_i cs hcs
              have hcs' := sameVs_spec hzd
              unfold arrAt? at hat
              split at hat
              · rename_i m' e hu
                obtain ⟨qi, hqi, he⟩ := Option.map_eq_some_iff.1 hat
                simp only [Prod.mk.injEq] at he
                obtain ⟨he1, hsz⟩ := he
                subst he1
                refine ⟨⟨rfl, trivial, fun o ho => by cases ho⟩, fun _ _ _ w _ => r_build ?_⟩
                rw [harr]
                unfold zeroC at hcs
                obtain ⟨i, hi, hz2⟩ := Option.bind_eq_some_iff.1 hcs
                obtain ⟨z, hz3, hz4⟩ := Option.map_eq_some_iff.1 hz2
                have hzc : z.cells = ((List.replicate m' u.dflt).flatMap (flatT u).cells).toArray := by
                  apply Array.toList_inj.1
                  rw [hz4, hcs', vec_cells]
                  simp [Ty.dflt]
                have hfa := fillA_spec (g := g) (u := u) (place := fun j => some (j * qi.size, qi.size)) (fun j => by rw [hsz]) vs _ xs hxs
                simp only [builtV, hi, hu, hz3, hqi, hzc, hfa, Option.map_some]
                show _ = some (val1 g (.fl (.arr m' u) _))
                simp only [val1, vec_cells]
                simp
              · cases hat
            · cases hzd
          · cases h
        · cases hxs
      · cases h
    · cases h
  · cases h
/-- All that only look. -/
theorem quiet_spec (F : Fit g γ S n a) {ty : TypeId} {op : Op} {q : Qt} (h : quiet P S ty op = some q) (hp : q.p) : ∃ g', Looks P g γ S n a op q g' := by
  unfold quiet at h
  split at h
  · rename_i x
    obtain ⟨v, hv, rfl⟩ := Option.map_eq_some_iff.1 h
    obtain ⟨e1, e2, e3⟩ := opA_spec F hv
    obtain ⟨t1, t2, t3⟩ := typedV_enc (P := P) (g := g) (S := S) ty v
    exact ⟨g, looks0 F (t3 e2) (by rw [t2]; exact e3) (fun _ _ _ w _ => by rw [t1, ← e1]; exact runs_pure rfl w)⟩
  · rename_i x
    obtain ⟨v, hv, rfl⟩ := Option.map_eq_some_iff.1 h
    obtain ⟨e1, e2, e3⟩ := opA_spec F hv
    obtain ⟨t1, t2, t3⟩ := typedV_enc (P := P) (g := g) (S := S) ty v
    exact ⟨g, looks0 F (t3 e2) (by rw [t2]; exact e3) (fun _ _ _ w _ => by rw [t1, ← e1]; exact runs_pure rfl w)⟩
  · rename_i c x y
    split at h
    · rename_i b hc
      obtain ⟨v, hv, rfl⟩ := Option.map_eq_some_iff.1 h
      obtain ⟨c1, _, _⟩ := opA_spec F hc
      have c1 : a.eval c = .bool b := c1
      obtain ⟨e1, e2, e3⟩ := opA_spec F hv
      obtain ⟨t1, t2, t3⟩ := typedV_enc (P := P) (g := g) (S := S) ty v
      refine ⟨g, looks0 F (t3 e2) (by rw [t2]; exact e3) (fun _ _ _ w _ => ?_)⟩
      rw [t1, ← e1]
      cases b <;> exact runs_pure (by simp only [pureV, c1]; rfl) w
    · cases h
  · rename_i x
    split at h <;> first
      | (cases h; done)
      | (rename_i hv
         cases h
         obtain ⟨e1, e2, e3⟩ := opA_spec F hv
         exact ⟨g, looks0 F e2 e3 (fun _ _ _ w _ => runs_pure (by simp only [pureV, e1, encS, encV, val1]) w)⟩)
  · split at h
    · rename_i x y t' u v hx hy
      exact ⟨g, (binS_spec (opA_spec F hx).1 (opA_spec F hy).1 h hp).looks F⟩
    · cases h
  · obtain ⟨v, hv, h⟩ := Option.bind_eq_some_iff.1 h
    exact ⟨g, (unS_spec (opA_spec F hv).1 h).looks F⟩
  · rename_i x i
    split at h
    · rename_i vs hv
      obtain ⟨v, hi, rfl⟩ := Option.map_eq_some_iff.1 h
      obtain ⟨e1, e2, e3⟩ := opA_spec F hv
      have hmem := List.mem_of_getElem? hi
      refine ⟨g, looks0 F (e2 v hmem) (fun o ho => e3 o (List.mem_flatMap.2 ⟨v, hmem, ho⟩)) (fun _ _ _ w _ => runs_pure ?_ w)⟩
      simp only [pureV, e1, encS]
      simp [hi]
    · cases h
  · obtain ⟨v, hv, h⟩ := Option.bind_eq_some_iff.1 h
    obtain ⟨e1, e2, e3⟩ := opA_spec F hv
    exact ⟨g, (fieldS_spec e1 e3 h).looks F⟩
  · obtain ⟨v, hv, h⟩ := Option.bind_eq_some_iff.1 h
    obtain ⟨e1, e2, e3⟩ := opA_spec F hv
    exact ⟨g, (fieldA_spec e1 e2 e3 h).looks F⟩
  · split at h
    · rename_i x y hx hy
      obtain ⟨e1, e2, e3⟩ := opA_spec F hx
      exact ⟨g, (idxA_spec F.ob e1 (opA_spec F hy).1 e3 h hp).looks F⟩
    · cases h
  · split at h
    · rename_i x y hx hy
      exact ⟨g, (idx_spec (opA_spec F hx).1 (opA_spec F hy).1 h hp).looks F⟩
    · cases h
  · obtain ⟨v, hv, h⟩ := Option.bind_eq_some_iff.1 h
    obtain ⟨e1, e2, e3⟩ := opA_spec F hv
    exact ldS_spec F e1 e2 e3 h
  · obtain ⟨vs, hv, h⟩ := Option.bind_eq_some_iff.1 h
    exact ⟨g, (buildS_spec F hv h).looks F⟩
  · rename_i f fs cs
    split at h
    · rename_i x y hx hy
      cases h
      obtain ⟨us, hus, hx⟩ := Option.bind_eq_some_iff.1 hx
      obtain ⟨vs, hvs, hy⟩ := Option.bind_eq_some_iff.1 hy
      obtain ⟨a1, a2⟩ := opAs_spec F hus
      obtain ⟨b1, b2⟩ := opAs_spec F hvs
      obtain ⟨c1, c2⟩ := ats_spec (g := g) hx
      obtain ⟨d1, d2⟩ := ats_spec (g := g) hy
      refine ⟨g, looks0 F trivial (fun o ho => ?_) (fun _ _ _ w _ => runs_pure ?_ w)⟩
      · simp only [refS, refV, List.mem_append, c2, d2] at ho
        rcases ho with ho | ho
        · exact a2 o ho
        · exact b2 o ho
      · simp only [pureV, encS, encV, Option.some.injEq, Value.func.injEq, true_and]
        exact ⟨Array.toList_inj.1 (by simp [a1, c1]), Array.toList_inj.1 (by simp [b1, d1])⟩
    · cases h
  · split at h
    · rename_i x l hh m hx hl hhh hm
      obtain ⟨e1, e2, e3⟩ := opA_spec F hx
      exact cutS_spec F e1 hl hhh hm e3 h hp
    · cases h
  · obtain ⟨v, hv, h⟩ := Option.bind_eq_some_iff.1 h
    exact ⟨g, (convS_spec F (opA_spec F hv).1 h).looks F⟩
  · rename_i Xs ts
    split at h
    · rename_i x t hx ht
      obtain ⟨v, hv, h⟩ := Option.bind_eq_some_iff.1 h
      obtain rfl := arr_of_list hx
      obtain rfl := arr_of_list ht
      exact ⟨g, (lenS_spec (opA_spec F hv).1 h).looks F⟩
    · cases h
  · obtain ⟨vs, hv, h⟩ := Option.bind_eq_some_iff.1 h
    exact ⟨g, (minS_spec (big := false) (opAs_spec F hv).1 h).looks F⟩
  · obtain ⟨vs, hv, h⟩ := Option.bind_eq_some_iff.1 h
    exact ⟨g, (minS_spec (big := true) (opAs_spec F hv).1 h).looks F⟩
  · cases h
end
end Go.Proofs.YthdgllldpfeelaaGreatDoor
/- Contexts behind what acts. No condition. -/
set_option linter.unusedVariables false
set_option linter.unusedSimpArgs false
namespace Go.Proofs.YthdgllldpfeelaaGreatDoor
open Go
section
variable {w0 w w' : World} {D A : Nat → Prop} {L R L' R' : Nat → Ent}
/-- The entries anew; what is read may come out of several ones. -/
theorem cf_remap2 (C : CtxF w0 D A L R w) (σ : Nat → Nat)
    (hL : ∀ i, (L' i).ok w ∧ ∀ b, (L' i).dom b → (L (σ i)).dom b)
    (hinj : ∀ i j, i ≠ j → (∃ b, (L' i).dom b) → (∃ b, (L' j).dom b) → σ i ≠ σ j)
    (hR : ∀ i, (R' i).ok w ∧ ∀ b, (R' i).dom b → (∃ j, (R j).dom b ∧ ((R' i).lent = false → (R j).lent = false)) ∨ (∃ j, (L j).dom b ∧ ∀ k, (∃ b, (L' k).dom b) → σ k ≠ j)) :
    CtxF w0 D A L' R' w := by
  refine ⟨C.fr, fun i => (hL i).1, fun i => (hR i).1, fun i b hb => C.mine _ b ((hL i).2 b hb), fun i j hij b hb hb' => C.sepL _ _ (hinj i j hij ⟨b, hb⟩ ⟨b, hb'⟩) b ((hL i).2 b hb) ((hL j).2 b hb'), ?_, ?_⟩
  · intro i j b hb hb'
    rcases (hR j).2 b hb' with ⟨k, h, _⟩ | ⟨k, h, hk⟩
    · exact C.sepR _ k b ((hL i).2 b hb) h
    · exact C.sepL _ k (hk i ⟨b, hb⟩) b ((hL i).2 b hb) h
  · intro i hl b hb
    rcases (hR i).2 b hb with ⟨k, h, hf⟩ | ⟨k, h, hk⟩
    · exact C.src k (hf hl) b h
    · exact .inr (C.mine k b h)
end
/-- What stays of a state. -/
structure Kp (g : Env) (S : St) (d : Nat → Prop) (g' : Env) (S' : St) : Prop where
  len : S.obs.length ≤ S'.obs.length
  vb : ∀ i, i < S.obs.length → (g' i).v = (g i).v ∧ (g' i).b = (g i).b
  same : ∀ i, i < S.obs.length → i ∉ S'.mods → S'.ob i = S.ob i ∧ g' i = g i
  mods : ∀ i ∈ S.mods, i ∈ S'.mods
  slots : ∀ t, ¬ d t → lookS S'.slots t = lookS S.slots t
  rows : ∀ i, i < S.obs.length → ∀ e t xs m fu, S'.ob i = .row e t xs m fu → ∃ e0 xs0 m0 fu0, S.ob i = .row e0 t xs0 m0 fu0 ∧ xs0.length = xs.length
def noD : Nat → Prop := fun _ => False
theorem Kp.refl (g : Env) (S : St) (d : Nat → Prop) : Kp g S d g S := ⟨Nat.le_refl _, fun _ _ => ⟨rfl, rfl⟩, fun _ _ _ => ⟨rfl, rfl⟩, fun _ h => h, fun _ _ => rfl, fun i _ e t xs m fu h => ⟨e, xs, m, fu, h, rfl⟩⟩
theorem Kp.trans {g g1 g2 : Env} {S S1 S2 : St} {d d1 d2 : Nat → Prop} (h : Kp g S d1 g1 S1) (k : Kp g1 S1 d2 g2 S2) (h1 : ∀ t, d1 t → d t) (h2 : ∀ t, d2 t → d t) : Kp g S d g2 S2 :=
  ⟨Nat.le_trans h.len k.len, fun i hi => ⟨((k.vb i (Nat.lt_of_lt_of_le hi h.len)).1).trans (h.vb i hi).1, ((k.vb i (Nat.lt_of_lt_of_le hi h.len)).2).trans (h.vb i hi).2⟩,
   fun i hi hm => ⟨(k.same i (Nat.lt_of_lt_of_le hi h.len) hm).1.trans (h.same i hi (fun hx => hm (k.mods i hx))).1, (k.same i (Nat.lt_of_lt_of_le hi h.len) hm).2.trans (h.same i hi (fun hx => hm (k.mods i hx))).2⟩,
   fun i hi => k.mods i (h.mods i hi), fun t ht => (k.slots t (fun x => ht (h2 t x))).trans (h.slots t (fun x => ht (h1 t x))),
   fun i hi e t xs m fu he => by
     obtain ⟨e1, x1, m1, f1, q1, q2⟩ := k.rows i (Nat.lt_of_lt_of_le hi h.len) e t xs m fu he
     obtain ⟨e2, x2, m2, f2, q3, q4⟩ := h.rows i hi e1 t x1 m1 f1 q1
     exact ⟨e2, x2, m2, f2, q3, q4.trans q2⟩⟩
theorem Kp.mono {g g' : Env} {S S' : St} {d d' : Nat → Prop} (h : Kp g S d g' S') (hd : ∀ t, d t → d' t) : Kp g S d' g' S' :=
  ⟨h.len, h.vb, h.same, h.mods, fun t ht => h.slots t (fun x => ht (hd t x)), h.rows⟩
theorem Kp.add {g g' : Env} {S : St} {news : List Ob} (d : Nat → Prop) (hx : Ext g g' S.obs.length) : Kp g S d g' (S.add news) :=
  ⟨by simp [St.add], fun i hi => by rw [hx i hi]; exact ⟨rfl, rfl⟩, fun i hi _ => ⟨ob_add_lt hi, hx i hi⟩, fun _ h => h, fun _ _ => rfl, fun i hi e t xs m fu h => ⟨e, xs, m, fu, by rwa [ob_add_lt hi] at h, rfl⟩⟩
theorem look_putS (m : List (Nat × SV)) (d : Option Nat) (v : SV) (t : Nat) : lookS (putS m d v) t = if d = some t then some v else lookS m t := by
  have hd : ∀ (m : List (Nat × SV)) (d t : Nat), lookS (delS m d) t = if d = t then none else lookS m t := by
    intro m d t
    induction m with
    | nil => simp [delS, lookS]
    | cons p m ih =>
      obtain ⟨i, u⟩ := p
      simp only [delS, lookS]
      by_cases e : i = d
      · subst e
        rw [if_pos (by simp), ih]
        by_cases e' : i = t
        · simp [e']
        · simp [e']
      · rw [if_neg (by simpa using e)]
        simp only [lookS, ih]
        by_cases e' : i = t
        · subst e'; simp [Ne.symm e]
        · simp [e']
  cases d with
  | none => simp [putS]
  | some d =>
    simp only [putS, lookS, hd]
    by_cases e : d = t
    · simp [e]
    · simp [e]
section
variable {P : Program} {g g' : Env} {γ : Ghost} {S : St} {n : Nat} {a : Act} {w0 w w' : World} {D A : Nat → Prop}
theorem ob_set {i j : Nat} {o : Ob} : ({ S with obs := S.obs.set i o } : St).ob j = if i = j ∧ i < S.obs.length then o else S.ob j := by
  simp only [St.ob, List.getD_eq_getElem?_getD, List.getElem?_set]
  by_cases h : i = j
  · subst h
    by_cases h2 : i < S.obs.length
    · simp [h2]
    · simp [h2]
  · simp [h]
theorem ob_setOb {i j : Nat} {o : Ob} : (S.setOb i o).ob j = if i = j ∧ i < S.obs.length then o else S.ob j := ob_set
theorem fit_to (F : Fit g γ S n a) (p : Plan) : Fit g γ (S.to p) n a :=
  ⟨F.size, F.lo, F.defers, F.sl, F.ob, fun t sv h => by have := F.ok t sv h; cases sv <;> exact this, F.rs, F.rb⟩
theorem fit_put (F : Fit g γ S n a) {d : Option Nat} {v : SV} (hd : ∀ t, d = some t → t < n) (h1 : okS S v) (h2 : ∀ o ∈ refS v, o < S.obs.length) : Fit g γ (S.put d v) n (a.put d (encS g v)) := by
  refine ⟨?_, F.lo, ?_, ?_, F.ob, ?_, ?_, F.rb⟩
  · cases d <;> simpa [Act.put] using F.size
  · cases d <;> exact F.defers
  · intro t sv h
    simp only [St.put, look_putS] at h
    by_cases e : d = some t
    · subst e
      simp only [if_true, Option.some.injEq] at h
      subst h
      have ht := hd t rfl
      rw [if_pos (Nat.lt_of_lt_of_le ht F.lo)]
      have : t < a.tmps.size := by rw [F.size]; exact ht
      simp [Act.put, this]
    · rw [if_neg e] at h
      have := F.sl t sv h
      split
      · rename_i ht
        rw [if_pos ht] at this
        cases d with
        | none => exact this
        | some d =>
          simp only [Act.put]
          rw [Array.getElem?_setIfInBounds_ne (fun x => e (by rw [x]))]
          exact this
      · rename_i ht
        rwa [if_neg ht] at this
  · intro t sv h
    simp only [St.put, look_putS] at h
    split at h
    · cases h; exact (show okS S _ from h1)
    · exact F.ok t sv h
  · intro t sv h
    simp only [St.put, look_putS] at h
    split at h
    · cases h; exact h2
    · exact F.rs t sv h
theorem kp_to {g g' : Env} {S S' : St} {d : Nat → Prop} (K : Kp g S d g' S') (p : Plan) : Kp g S d g' (S'.to p) := ⟨K.len, K.vb, K.same, K.mods, K.slots, K.rows⟩
theorem kp_put (g : Env) (S : St) (d : Option Nat) (v : SV) : Kp g S (fun t => d = some t) g (S.put d v) :=
  ⟨Nat.le_refl _, fun _ _ => ⟨rfl, rfl⟩, fun _ _ _ => ⟨rfl, rfl⟩, fun _ h => h, fun t ht => by simp only [St.put, look_putS, if_neg ht], fun i _ e t xs m fu h => ⟨e, xs, m, fu, h, rfl⟩⟩
/-- One object more, new. -/
theorem cx_new (F : Fit g γ S n a) (C : Cx g S w0 D A w) {ob : Ob} (hf : Fr nob w w') (hx : Ext g g' S.obs.length)
    (hL : (entL g' S.obs.length ob).ok w' ∧ ∀ b, (entL g' S.obs.length ob).dom b → w.heap.size ≤ b)
    (hR : (entR g' S.obs.length ob).ok w' ∧ ∀ b, (entR g' S.obs.length ob).dom b → ∃ j, (entR g j (S.ob j)).dom b ∧ ((entR g' S.obs.length ob).lent = false → (entR g j (S.ob j)).lent = false)) :
    Cx g' (S.add [ob]) w0 D A w' := by
  have hlt : ∀ i, i ≠ S.obs.length → entL g' i ((S.add [ob]).ob i) = entL g i (S.ob i) ∧ entR g' i ((S.add [ob]).ob i) = entR g i (S.ob i) := fun i hi => by
    rcases Nat.lt_trichotomy i S.obs.length with h | h | h
    · rw [ob_add_lt h]
      exact ⟨entL_ext (hx i h) (fun T ls e x hm => hx x (F.rb i T ls e x hm)), entR_ext (hx i h)⟩
    · exact absurd h hi
    · rw [ob_add_ge (Nat.le_of_lt h), ob_ge (Nat.le_of_lt h)]
      have : i - S.obs.length = (i - S.obs.length - 1) + 1 := by omega
      rw [this]
      exact ⟨rfl, rfl⟩
  have hnew : (S.add [ob]).ob S.obs.length = ob := by rw [ob_add_ge (Nat.le_refl _)]; simp
  have hn : entL g S.obs.length (S.ob S.obs.length) = Ent.nil := by rw [ob_ge (Nat.le_refl _)]; rfl
  have C1 : CtxF w0 D A (fun i => entL g' i ((S.add [ob]).ob i)) (fun i => entR g i (S.ob i)) w' :=
    cf_set S.obs.length (E' := entL g' S.obs.length ob) C (by simp only [hn]; exact hf) hL.1 (fun b hb => .inr (hL.2 b hb)) (fun j hj => (hlt j hj).1) (by simp only [hnew])
  refine cf_remap2 C1 id (fun i => ⟨C1.okL i, fun _ => id⟩) (fun i j hij _ _ => hij) (fun i => ?_)
  by_cases hi : i = S.obs.length
  · subst hi
    simp only [hnew]
    exact ⟨hR.1, fun b hb => .inl (hR.2 b hb)⟩
  · simp only [(hlt i hi).2]
    exact ⟨C1.okR i, fun b hb => .inl ⟨i, hb, id⟩⟩
theorem ctx0 (w : World) : Ctx w nob nob [] [] w := ⟨Fr.refl _ _, by simp, by simp, by simp, by simp, by simp, by simp⟩
end
end Go.Proofs.YthdgllldpfeelaaGreatDoor
/- What acts on memory, one by one. No condition. -/
set_option linter.unusedVariables false
set_option linter.unusedSimpArgs false
namespace Go.Proofs.YthdgllldpfeelaaGreatDoor
open Go
section
variable {P : Program} {g g' : Env} {γ : Ghost} {S : St} {n : Nat} {a : Act} {w0 w w' : World} {D A : Nat → Prop}
/-- What an act leaves. -/
def Post {α : Type} (g : Env) (γ : Ghost) (S : St) (n : Nat) (a : Act) (w0 : World) (D A : Nat → Prop) (K : St → SV → Option α) (out : α) (v : Value) (w' : World) : Prop :=
  ∃ g' S' sv, K S' sv = some out ∧ v = encS g' sv ∧ Fit g' γ S' n a ∧ Cx g' S' w0 D A w' ∧ okS S' sv ∧ (∀ o ∈ refS sv, o < S'.obs.length) ∧ Kp g S noD g' S'
/-- A variable more. -/
theorem post_box {α : Type} {K : St → SV → Option α} {out : α} (F : Fit g γ S n a) (C : Cx g S w0 D A w) {T : Nat} {ls : List At} (hst : ls.all stor = true) (hr : ∀ o ∈ ls.flatMap refA, o < S.obs.length)
    (hK : K (S.add [.box T ls]) (.v (.a (.ptr S.obs.length 0))) = some out) {op : Op} {cs : List Value} (hcs : ∀ g' : Env, Ext g g' S.obs.length → encL g' ls = cs)
    (he : Eff P a.eval op w (fun v w' => ∃ b, v = .pointer (some ⟨b, 0, none⟩) ∧ Ctx w nob nob ([] ++ [boxE false b T cs]) [] w')) : Eff P a.eval op w (Post g γ S n a w0 D A K out) := by
  intro o a' next Q' ho hev k
  refine he o a' next Q' ho hev ?_
  rintro v w' ⟨b, rfl, C'⟩
  refine k _ _ ?_
  obtain ⟨g', hg'⟩ : ∃ g' : Env, g' = fun i => if i < S.obs.length then g i else ⟨.nilFunc, rfl, b, [], []⟩ := ⟨_, rfl⟩
  have hext : Ext g g' S.obs.length := fun i hi => by simp [hg', hi]
  have hnew : (g' S.obs.length).b = b := by simp [hg']
  have hbx : (boxE false b T cs).ok w' := C'.okL 0 _ rfl
  refine ⟨g', _, _, hK, by simp [encS, encV, val1, hnew], ?_, ?_, trivial, ?_, Kp.add _ hext⟩
  · refine fit_add F hext (fun j ob hj => ?_) (fun j T' ls' hj => ?_)
    · match j with
      | 0 => simp only [List.getElem?_cons_zero, Option.some.injEq] at hj; subst hj; exact hst
      | j + 1 => simp at hj
    · match j with
      | 0 => simp only [List.getElem?_cons_zero, Option.some.injEq, Ob.box.injEq] at hj; obtain ⟨_, rfl⟩ := hj; exact fun o ho => Nat.lt_of_lt_of_le (hr o ho) (Nat.le_add_right _ _)
      | j + 1 => simp at hj
  · refine cx_new F C C'.fr hext ⟨?_, fun x hx => ?_⟩ ⟨trivial, fun b h => h.elim⟩
    · show (boxE false (g' S.obs.length).b T (encL g' ls)).ok w'
      rw [hnew, hcs g' hext]; exact hbx
    · have : x = b := by simpa [entL, boxT, boxE, hnew] using hx
      subst this
      exact (C'.mine 0 _ rfl x rfl).elim (fun h => h.elim) id
  · intro o ho
    simp only [refS, refV, refA, List.mem_singleton] at ho
    simp [St.add, ho]
/-- A row more, of one's own. -/
theorem post_row {α : Type} {K : St → SV → Option α} {out : α} (F : Fit g γ S n a) (C : Cx g S w0 D A w) {e : Nat} {u : Ty} {xs : List u.den} {cs : List Value} {fs : List Fact}
    (hK : K (S.add [.row e u xs .own false]) (.v (.a (.sl S.obs.length))) = some out) {op : Op} (hrep : RepL (RepP u) xs cs fs)
    (hfs : ∀ f ∈ fs, (∀ w', Rds f.v f.n f.sz f.cs w') ∧ f.cs = [] ∨ ∃ j, (entR g j (S.ob j)).lent = false ∧ (∀ w', (entR g j (S.ob j)).ok w' → Rds f.v f.n f.sz f.cs w') ∧ ∀ b, f.cs ≠ [] → addrOf f.v = some b → (entR g j (S.ob j)).dom b)
    (he : Eff P a.eval op w (fun v w' => SlV v xs.length ∧ Ctx w nob nob ([] ++ [ownE v e u.sz xs.length cs]) [] w')) : Eff P a.eval op w (Post g γ S n a w0 D A K out) := by
  intro o a' next Q' ho hev k
  refine he o a' next Q' ho hev ?_
  rintro v w' ⟨hsl, C'⟩
  refine k _ _ ?_
  obtain ⟨g', hg'⟩ : ∃ g' : Env, g' = fun i => if i < S.obs.length then g i else ⟨v, hsl.one, 0, cs, fs⟩ := ⟨_, rfl⟩
  have hext : Ext g g' S.obs.length := fun i hi => by simp [hg', hi]
  have hnew : g' S.obs.length = ⟨v, hsl.one, 0, cs, fs⟩ := by simp [hg']
  have hok : (ownE v e u.sz xs.length cs).ok w' := C'.okL 0 _ rfl
  have C1 : Cx g S w0 D A w' := cf_still C C'.fr
  refine ⟨g', _, _, hK, by simp [encS, encV, val1, hnew], ?_, ?_, trivial, ?_, Kp.add _ hext⟩
  · refine fit_add F hext (fun j ob hj => ?_) (fun j T' ls' hj => ?_)
    · match j with
      | 0 => simp only [List.getElem?_cons_zero, Option.some.injEq] at hj; subst hj; rw [Nat.add_zero]; exact ⟨by rw [hnew]; exact hrep, by rw [hnew]; exact hsl, fun h => by cases h⟩
      | j + 1 => simp at hj
    · match j with
      | 0 => simp at hj
      | j + 1 => simp at hj
  · refine cx_new F C C'.fr hext ⟨?_, fun x hx => ?_⟩ ⟨?_, fun b hb => ?_⟩
    · simp only [entL, hnew]; exact hok
    · simp only [entL, hnew] at hx
      exact (C'.mine 0 _ rfl x hx).elim (fun h => h.elim) id
    · simp only [entR, hnew]
      intro f hf
      rcases hfs f hf with ⟨h, _⟩ | ⟨j, _, h, _⟩
      · exact h w'
      · exact h w' (C1.okR j)
    · simp only [entR, hnew] at hb
      obtain ⟨f, hf, h1, h2⟩ := hb
      rcases hfs f hf with ⟨_, h⟩ | ⟨j, hl, _, h⟩
      · exact absurd h h1
      · exact ⟨j, h b h1 h2, fun _ => hl⟩
  · intro o ho
    simp only [refS, refV, refA, List.mem_singleton] at ho
    simp [St.add, ho]
/-- Another content of an object of one's own, which stands where it stood. -/
theorem post_set {α : Type} {K : St → SV → Option α} {out : α} (F : Fit g γ S n a) (C : Cx g S w0 D A w) {b : Nat} {ob : Ob} {sv : SV} {v : Value} (hb : b < S.obs.length)
    (hvb : (g' b).v = (g b).v ∧ (g' b).b = (g b).b) (hx : ∀ i, i ≠ b → g' i = g i) (hK : K (S.setOb b ob) sv = some out)
    (hf : Fr (entL g b (S.ob b)).dom w w') (hok : (entL g' b ob).ok w') (hd : ∀ x, (entL g' b ob).dom x → (entL g b (S.ob b)).dom x) (hR : entR g' b ob = entR g b (S.ob b))
    (hob : obP g' b ob) (hbr : ∀ T ls, ob = .box T ls → ∀ o ∈ ls.flatMap refA, o < S.obs.length) (hkind : (∀ e t xs m fu, ob = .row e t xs m fu → ∃ e' xs' m' fu', S.ob b = .row e' t xs' m' fu' ∧ xs'.length = xs.length))
    (hv : v = encS g' sv) (h1 : okS (S.setOb b ob) sv) (h2 : ∀ o ∈ refS sv, o < S.obs.length) : Post g γ S n a w0 D A K out v w' := by
  have hvb' : ∀ i, (g' i).v = (g i).v ∧ (g' i).b = (g i).b := fun i => by
    by_cases e : i = b
    · subst e; exact hvb
    · rw [hx i e]; exact ⟨rfl, rfl⟩
  have encA' : ∀ x, encA g' x = encA g x := fun x => by cases x <;> simp [encA, hvb']
  have val1' : ∀ x, val1 g' x = val1 g x := fun x => by
    cases x with
    | fl t x => cases t <;> rfl
    | sl o => exact (hvb' o).1
    | ptr c off => simp only [val1, (hvb' c).2]
    | asl c off m => simp only [val1, (hvb' c).2]
    | _ => rfl
  have encL' : ∀ ls, encL g' ls = encL g ls := fun ls => by simp only [encL, show encA g' = encA g from funext encA']
  have encV' : ∀ x, encV g' x = encV g x := fun x => by
    cases x with
    | a x => exact val1' x
    | fn f fs cs => simp only [encV, show val1 g' = val1 g from funext val1']
    | elp o sz i off => simp only [encV, (hvb' o).1]
    | arp c off t m i => simp only [encV, (hvb' c).2]
    | st ls => simp only [encV, encL']
  have encS' : ∀ x, encS g' x = encS g x := fun x => by
    cases x with
    | v x => exact encV' x
    | tup xs => simp only [encS, show encV g' = encV g from funext encV']
  have obE : ∀ i, i ≠ b → (S.setOb b ob).ob i = S.ob i := fun i hi => by rw [ob_setOb, if_neg (fun h => hi h.1.symm)]
  have obB : (S.setOb b ob).ob b = ob := by rw [ob_setOb, if_pos ⟨rfl, hb⟩]
  have entLE : ∀ i o, i ≠ b → entL g' i o = entL g i o := fun i o hi => by
    cases o with
    | box T ls => simp only [entL, boxT, hx i hi, encL']
    | row e t xs m fu => cases m <;> simp only [entL, hx i hi]
    | gone => rfl
  have okE : ∀ v : V1, okV S v → okV (S.setOb b ob) v := fun v h => by
    cases v with
    | elp o sz i off =>
      intro e t xs m fu he
      by_cases eo : o = b
      · subst eo
        rw [obB] at he
        obtain ⟨e', xs', m', fu', h3, h4⟩ := hkind e t xs m fu he
        have := h e' t xs' m' fu' h3
        rw [← h4]; exact this
      · rw [obE o eo] at he; exact h e t xs m fu he
    | arp b off t n i => exact h
    | _ => trivial
  have hlen : (S.setOb b ob).obs.length = S.obs.length := by simp [St.setOb]
  refine ⟨g', _, sv, hK, hv, ?_, ?_, h1, by rw [hlen]; exact h2, ?_⟩
  · refine ⟨F.size, F.lo, F.defers, ?_, ?_, ?_, ?_, ?_⟩
    · intro t s h; have := F.sl t s h; rwa [encS' s]
    · intro i
      by_cases e : i = b
      · subst e; rw [obB]; exact hob
      · rw [obE i e]; exact obP_ext (hx i e) (F.ob i)
    · intro t s h
      have := F.ok t s h
      cases s with
      | v x => exact okE x this
      | tup xs => exact fun x hx => okE x (this x hx)
    · intro t s h; rw [hlen]; exact F.rs t s h
    · intro i T ls h
      rw [hlen]
      by_cases e : i = b
      · subst e; rw [obB] at h; exact hbr T ls h
      · rw [obE i e] at h; exact F.rb i T ls h
  · have hRf : (fun i => entR g' i ((S.setOb b ob).ob i)) = fun i => entR g i (S.ob i) := by
      funext i
      by_cases e : i = b
      · subst e; rw [obB]; exact hR
      · rw [obE i e]; exact entR_ext (hx i e)
    unfold Cx
    rw [hRf]
    exact cf_set b (E' := entL g' b ob) C hf hok (fun x hx => .inl (hd x hx)) (fun j hj => by simp only [obE j hj]; exact entLE j _ hj) (by simp only [obB])
  · exact ⟨by rw [hlen]; exact Nat.le_refl _, fun i _ => hvb' i, fun i _ hm => by
      have : i ≠ b := fun e => hm (by simp [St.setOb, e])
      exact ⟨obE i this, hx i this⟩, fun i hi => by simp [St.setOb, hi], fun _ _ => rfl, fun i hi e t xs m fu h => by
        by_cases e' : i = b
        · subst e'; rw [obB] at h; exact hkind e t xs m fu h
        · rw [obE i e'] at h; exact ⟨e, xs, m, fu, h, rfl⟩⟩
end
end Go.Proofs.YthdgllldpfeelaaGreatDoor
/- Acts: variables made and written, rows made and lengthened. No condition. -/
set_option linter.unusedVariables false
set_option linter.unusedSimpArgs false
namespace Go.Proofs.YthdgllldpfeelaaGreatDoor
open Go
/-! ### leaves as data -/
theorem castL {e e' : Nat} {u t : Ty} {xs : List u.den} {ys : List t.den} (h : castT (a := .sl e u) (b := .sl e' t) xs = some ys) : ∃ q : u = t, cast (congrArg (fun t : Ty => List t.den) q) xs = ys := by
  obtain ⟨q, hq⟩ := castT_spec h
  have : u = t := by injection q
  subst this
  have : e = e' := by injection q
  subst this
  exact ⟨rfl, hq⟩
section
variable {P : Program} {g g' : Env} {γ : Ghost} {S : St} {n : Nat} {a : Act} {w0 w w' : World} {D A : Nat → Prop}
/-- Where the facts of leaves come from: rows that are read, and not lent. -/
def FromR (g : Env) (S : St) (fs : List Fact) : Prop :=
  ∀ f ∈ fs, ((∀ w', Rds f.v f.n f.sz f.cs w') ∧ f.cs = []) ∨ ∃ j, (entR g j (S.ob j)).lent = false ∧ (∀ w', (entR g j (S.ob j)).ok w' → Rds f.v f.n f.sz f.cs w') ∧ ∀ b, f.cs ≠ [] → addrOf f.v = some b → (entR g j (S.ob j)).dom b
theorem FromR.app {fs gs : List Fact} (h : FromR g S fs) (k : FromR g S gs) : FromR g S (fs ++ gs) := fun f hf => (List.mem_append.1 hf).elim (h f) (k f)
theorem FromR.nil : FromR g S [] := fun _ h => by cases h
theorem FromR.row {o e : Nat} {t : Ty} {xs : List t.den} {fu : Bool} (h : S.ob o = .row e t xs .rd fu) : FromR g S (⟨(g o).v, xs.length, t.sz, (g o).cs⟩ :: (g o).fs) := fun f hf =>
  .inr ⟨o, by rw [h]; rfl, fun w' hk => by rw [h] at hk; exact hk f hf, fun b h1 h2 => by rw [h]; exact ⟨f, hf, h1, h2⟩⟩
theorem FromR.inner {o e : Nat} {t : Ty} {xs : List t.den} {m : Md} {fu : Bool} (h : S.ob o = .row e t xs m fu) (hm : m ≠ .lent) : FromR g S (g o).fs := fun f hf =>
  .inr ⟨o, by rw [h]; cases m <;> first | rfl | exact absurd rfl hm,
    fun w' hk => by rw [h] at hk; cases m <;> first | exact hk f hf | exact hk f (List.mem_cons_of_mem _ hf) | exact absurd rfl hm,
    fun b h1 h2 => by rw [h]; cases m <;> first | exact ⟨f, hf, h1, h2⟩ | exact ⟨f, List.mem_cons_of_mem _ hf, h1, h2⟩ | exact absurd rfl hm⟩
/-- Leaves that are packed lie as their data do. -/
theorem pack_spec (hob : ∀ i, obP g i (S.ob i)) : ∀ (t : Ty) (ls r : List At) (x : t.den), pack S t ls = some (x, r) → ∃ pre fs, ls = pre ++ r ∧ RepP t x (encL g pre) fs ∧ FromR g S fs ∧ (t.flat = true → fs = [])
  | .pair p q, ls, r, x, h => by
    simp only [pack, Option.bind_eq_some_iff, Option.map_eq_some_iff] at h
    obtain ⟨⟨y, r1⟩, h1, ⟨z, r2⟩, h2, he⟩ := h
    simp only [Prod.mk.injEq] at he
    obtain ⟨rfl, rfl⟩ := he
    obtain ⟨p1, f1, e1, k1, m1, n1⟩ := pack_spec hob p ls r1 y h1
    obtain ⟨p2, f2, e2, k2, m2, n2⟩ := pack_spec hob q r1 r2 z h2
    refine ⟨p1 ++ p2, f1 ++ f2, by rw [e1, e2, List.append_assoc], ⟨_, _, _, _, encL_app g p1 p2, rfl, k1, k2⟩, m1.app m2, fun hf => ?_⟩
    simp only [Ty.flat, Bool.and_eq_true] at hf
    rw [n1 hf.1, n2 hf.2]; rfl
  | .unit, ls, r, x, h => by
    simp only [pack, Option.some.injEq, Prod.mk.injEq] at h
    obtain ⟨_, rfl⟩ := h
    exact ⟨[], [], rfl, ⟨rfl, rfl⟩, .nil, fun _ => rfl⟩
  | .sl e t, [], r, x, h => by simp [pack] at h
  | .sl e t, y :: ls, r, x, h => by
    simp only [pack, Option.map_eq_some_iff, Prod.mk.injEq] at h
    obtain ⟨ys, hy, rfl, rfl⟩ := h
    refine ⟨[y], ?_⟩
    unfold packSl at hy
    split at hy
    · rename_i o
      split at hy
      · rename_i e' u xs fu ho
        split at hy
        · obtain ⟨q, hq⟩ := castL hy
          subst q
          simp only [cast_eq] at hq
          subst hq
          have hb := hob o
          rw [ho] at hb
          exact ⟨_, rfl, ⟨(g o).v, (g o).cs, (g o).fs, by simp [encL, encA], hb.2.1, rfl, hb.1⟩, FromR.row ho, fun hf => by simp [Ty.flat] at hf⟩
        · cases hy
      · cases hy
    · cases hy
      refine ⟨_, rfl, ⟨.slice none 0 0, [], [], by simp [encL, encA], ⟨none, 0, rfl, fun _ => rfl⟩, rfl, ⟨rfl, rfl⟩⟩, fun f hf => ?_, fun hf => by simp [Ty.flat] at hf⟩
      simp only [List.mem_singleton] at hf
      subst hf
      exact .inl ⟨fun w' => rds_nil _ w', rfl⟩
    · cases hy
  | .bool, [], r, x, h => by simp [pack] at h
  | .bool, y :: ls, r, x, h => by
    simp only [pack, Option.map_eq_some_iff, Prod.mk.injEq] at h
    obtain ⟨b, hy, rfl, rfl⟩ := h
    refine ⟨[y], [], rfl, ?_, .nil, fun _ => rfl⟩
    unfold packB at hy
    split at hy
    · cases hy; exact ⟨rfl, rfl⟩
    · obtain ⟨q, hq⟩ := castT_spec hy
      subst q; subst hq; exact ⟨by simp [encL, encA], rfl⟩
    · cases hy
  | .int k, [], r, x, h => by simp [pack] at h
  | .int k, y :: ls, r, x, h => by
    simp only [pack, Option.map_eq_some_iff, Prod.mk.injEq] at h
    obtain ⟨b, hy, rfl, rfl⟩ := h
    refine ⟨[y], [], rfl, ?_, .nil, fun _ => rfl⟩
    unfold packF at hy
    split at hy
    · obtain ⟨q, hq⟩ := castT_spec hy
      subst q; subst hq; exact ⟨by simp [encL, encA], rfl⟩
    · cases hy
  | .str, [], r, x, h => by simp [pack] at h
  | .str, y :: ls, r, x, h => by
    simp only [pack, Option.map_eq_some_iff, Prod.mk.injEq] at h
    obtain ⟨b, hy, rfl, rfl⟩ := h
    refine ⟨[y], [], rfl, ?_, .nil, fun _ => rfl⟩
    unfold packF at hy
    split at hy
    · obtain ⟨q, hq⟩ := castT_spec hy
      subst q; subst hq; exact ⟨by simp [encL, encA], rfl⟩
    · cases hy
  | .arr m t, [], r, x, h => by simp [pack] at h
  | .arr m t, y :: ls, r, x, h => by
    simp only [pack, Option.map_eq_some_iff, Prod.mk.injEq] at h
    obtain ⟨b, hy, rfl, rfl⟩ := h
    refine ⟨[y], [], rfl, ?_, .nil, fun _ => rfl⟩
    unfold packF at hy
    split at hy
    · obtain ⟨q, hq⟩ := castT_spec hy
      subst q; subst hq; exact ⟨by simp [encL, encA], rfl⟩
    · cases hy
end
end Go.Proofs.YthdgllldpfeelaaGreatDoor
/- Acts, one by one. No condition. -/
set_option linter.unusedVariables false
set_option linter.unusedSimpArgs false
namespace Go.Proofs.YthdgllldpfeelaaGreatDoor
open Go
section
variable {P : Program} {g g' : Env} {γ : Ghost} {S : St} {n : Nat} {a : Act} {w0 w w' : World} {D A : Nat → Prop} {α : Type} {K : St → SV → Option α} {out : α}
theorem Eff.mono {ρ : Operand → Value} {op : Op} {K K' : Value → World → Prop} (h : Eff P ρ op w K) (hk : ∀ v w', K v w' → K' v w') : Eff P ρ op w K' :=
  fun o a next Q' ho he k => h o a next Q' ho he (fun v w' x => k v w' (hk v w' x))
/-- What only looks, done. -/
theorem quiet_eff (F : Fit g γ S n a) (C : Cx g S w0 D A w) {ty : TypeId} {op : Op} {q : Qt} (h : quiet P S ty op = some q) (hk : (optA α).guard q.p q.dp (K (S.add q.news) q.v) = some out) :
    Eff P a.eval op w (Post g γ S n a w0 D A K out) := by
  have hp : q.p ∧ K (S.add q.news) q.v = some out := by
    simp only [optA] at hk
    split at hk
    · rename_i hp; exact ⟨hp, hk⟩
    · cases hk
  obtain ⟨g', L⟩ := quiet_spec F h hp.1
  obtain ⟨N', hr⟩ := L.run w0 D A w C
  have C' := cx_add F L.ext N' C
  exact eff_runs hr ⟨g', _, _, hp.2, rfl, L.fit, C', L.ok, L.rs, Kp.add _ L.ext⟩
theorem alloc_spec (F : Fit g γ S n a) (C : Cx g S w0 D A w) {t : TypeId} {ls : List At} (h : zeroK P t = some ls) (hK : K (S.add [.box t ls]) (.v (.a (.ptr S.obs.length 0))) = some out) :
    Eff P a.eval (.alloc t) w (Post g γ S n a w0 D A K out) := by
  obtain ⟨h1, h2, h3⟩ := zeroK_spec h g
  exact post_box F C h2 (by rw [h3]; intro o ho; cases ho) hK (fun g' _ => encL_ext ls (by rw [h3]; intro o ho; cases ho)) (eff_alloc (ctx0 w) h1)
theorem box_spec (F : Fit g γ S n a) (C : Cx g S w0 D A w) {t : TypeId} {x : Operand} {v : SV} {ls : List At} (hx : opA S x = some v) (h : leafs (typedV P t v) = some ls) (hK : K (S.add [.box t ls]) (.v (.a (.ptr S.obs.length 0))) = some out) :
    Eff P a.eval (.box t x) w (Post g γ S n a w0 D A K out) := by
  obtain ⟨e1, e2, e3⟩ := opA_spec F hx
  obtain ⟨h1, h2, h3⟩ := leafsT_spec h
  have hr : ∀ o ∈ ls.flatMap refA, o < S.obs.length := by rw [h3]; exact e3
  refine post_box F C h2 hr hK (fun g' hg => encL_ext ls (fun o ho => hg o (hr o ho))) (eff_box (cs := encL g ls) (ctx0 w) (by rw [e1]; exact h1 g))
theorem sizeIs_of {t : TypeId} {m : Nat} (h : cellsOf P t = some m) : sizeIs P t m = true := by
  unfold cellsOf at h
  simp [sizeIs, h]
theorem unpk_flat (m : Md) : ∀ (t : Ty), t.flat = true → ∀ (x : t.den) (n : Nat), (unpk m t x n).1.flatMap refA = []
  | .pair p q, h, x, n => by
    simp only [Ty.flat, Bool.and_eq_true] at h
    simp only [unpk, List.flatMap_append, unpk_flat m p h.1, unpk_flat m q h.2, List.append_nil]
  | .sl e t, h, x, n => by simp [Ty.flat] at h
  | .unit, _, _, _ => rfl
  | .int _, _, _, _ => rfl
  | .bool, _, _, _ => rfl
  | .str, _, _, _ => rfl
  | .arr _ _, _, _, _ => rfl
theorem box_set (F : Fit g γ S n a) (C : Cx g S w0 D A w) {b T : Nat} {ls ls' pre old us post : List At} (hb : S.ob b = .box T ls) (hblt : b < S.obs.length) (h2 : us.all stor = true) (h3 : ∀ o ∈ us.flatMap refA, o < S.obs.length)
    (q1 : ls = pre ++ (old ++ post)) (q4 : ls' = pre ++ us ++ post) (h : K (S.setOb b (.box T ls')) (.v (.a .un)) = some out) (hf : Fr (boxE false (g b).b T (encL g ls)).dom w w') (hok : (boxE false (g b).b T (encL g ls')).ok w') :
    Post g γ S n a w0 D A K out undef w' := by
  have hbe : entL g b (S.ob b) = boxE false (g b).b T (encL g ls) := by rw [hb]; rfl
  have hst := F.ob b
  rw [hb] at hst
  have hst : ls.all stor = true := hst
  have hrb := F.rb b T ls hb
  refine post_set (g' := g) F C hblt ⟨rfl, rfl⟩ (fun _ _ => rfl) h (by rw [hbe]; exact hf) hok (fun x hx => by rw [hbe]; exact hx) (by rw [hb]; rfl) ?_ (fun T' ls'' he => ?_) (fun e t xs m fu he => by cases he) rfl trivial (fun o ho => by cases ho)
  · show ls'.all stor = true
    rw [q1] at hst; rw [q4]
    simp only [List.all_append, Bool.and_eq_true] at hst ⊢
    exact ⟨⟨hst.1, h2⟩, hst.2.2⟩
  · cases he
    intro o ho
    rw [q4] at ho
    simp only [List.flatMap_append, List.mem_append] at ho
    rcases ho with (ho | ho) | ho
    · exact hrb o (by rw [q1]; simp only [List.flatMap_append, List.mem_append]; exact .inl ho)
    · exact h3 o ho
    · exact hrb o (by rw [q1]; simp only [List.flatMap_append, List.mem_append]; exact .inr (.inr ho))
theorem row_set (F : Fit g γ S n a) (C : Cx g S w0 D A w) {o e : Nat} {u : Ty} {xs ys : List u.den} {fu : Bool} (ho : S.ob o = .row e u xs .own fu) (holt : o < S.obs.length) (hfl : u.flat = true) (hfs : (g o).fs = []) (hcs : (g o).cs = xs.flatMap (flatT u).cells)
    (hsl : SlV (g o).v xs.length) (h : K (S.setOb o (.row e u ys .own false)) (.v (.a .un)) = some out) (hlen : ys.length = xs.length) (hf : Fr (ownE (g o).v e (flatT u).sz xs.length (xs.flatMap (flatT u).cells)).dom w w')
    (hok : (ownE (g o).v e u.sz ys.length (ys.flatMap (flatT u).cells)).ok w') : Post g γ S n a w0 D A K out undef w' := by
  obtain ⟨g', hg'⟩ : ∃ g' : Env, g' = fun i => if i = o then ⟨(g o).v, (g o).one, (g o).b, ys.flatMap (flatT u).cells, []⟩ else g i := ⟨_, rfl⟩
  have hnew : g' o = ⟨(g o).v, (g o).one, (g o).b, ys.flatMap (flatT u).cells, []⟩ := by simp [hg']
  refine post_set (g' := g') F C holt (by rw [hnew]; exact ⟨rfl, rfl⟩) (fun i hi => by simp [hg', hi]) h ?_ ?_ (fun x hx => ?_) ?_ ?_ (fun T ls he => by cases he) (fun e' t zs m fu' he => ?_) rfl trivial (fun o' ho' => by cases ho')
  · rw [ho]; simp only [entL]
    exact hf
  · simp only [entL, hnew]; exact hok
  · simp only [entL, hnew] at hx
    rw [ho]
    simp only [entL]
    exact hx
  · rw [ho]; simp only [entR, hnew, hfs]
  · exact ⟨by rw [hnew]; exact (RepL_flat u hfl _ _ _).2 ⟨rfl, rfl⟩, by rw [hnew, hlen]; exact hsl, fun h => by cases h⟩
  · cases he
    exact ⟨e, xs, .own, fu, ho, hlen.symm⟩
/-- A store into an element of a row behind which a mark lies. -/
theorem eff_stoM {ρ : Operand → Value} {β : Type} {F : Flat β} {l : List β} {e off : Nat} {i : Int} {t : TypeId} {v : Value} {us : List Value} {x y : Operand} {x' : β} (hown : OwnM w e F.sz v l.length (l.flatMap F.cells))
    (hx : ρ x = .pointer (some ((elemA v (i.toNat * F.sz)).add off))) (h0 : 0 ≤ i) (h1 : i < l.length)
    (hy : (ρ y).cells.toList = us) (h2 : us.all (·.oneCell') = true) (ho' : Nat.ble (off + us.length) F.sz = true) (hs : sizeIs P t us.length = true) (hc : splice (F.cells (l.getD i.toNat F.dflt)) off us = F.cells x') :
    Eff P ρ (.store t x y) w (fun v' w' => v' = undef ∧ Fr (fun b => v.ownBlock = some b) w w' ∧ OwnM w' e F.sz v (l.set i.toNat x').length ((l.set i.toNat x').flatMap F.cells)) := by
  have ho : off + us.length ≤ F.sz := Nat.le_of_ble_eq_true ho'
  have hi : i.toNat < l.length := by omega
  rcases hown.2 with ⟨rfl, h⟩ | ⟨g, cap, cur, fz, rfl, hg, hfz, hnc, hcm, hcs, htk⟩
  · omega
  · have hz : (ρ y).cells.size = us.length := by rw [← hy]; simp
    have hsz : i.toNat * F.sz + F.sz ≤ l.length * F.sz := by
      have : (i.toNat + 1) * F.sz ≤ l.length * F.sz := Nat.mul_le_mul_right _ hi
      rw [Nat.add_mul] at this; omega
    have hcap : l.length * F.sz ≤ cur.size := by rw [hcs]; exact Nat.mul_le_mul_right _ hnc
    have ha : (elemA (.slice (some ⟨g, 0, none⟩) l.length cap) (i.toNat * F.sz)).add off = ⟨g, i.toNat * F.sz + off, none⟩ := by
      simp only [elemA]; rw [add_plain, add_plain, Nat.zero_add]
    -- cells stored one by one
    have hst : ∀ (vs : List Value) (k : Nat) (cur : Array Value) (w : World), w.heap[g]? = some (.cells cur e fz) → i.toNat * F.sz + off + k + vs.length ≤ cur.size → cur.size ≤ fz.1 → (∀ v ∈ vs, v.oneCell' = true) →
        (storeCells ⟨g, i.toNat * F.sz + off, none⟩ vs k).run P w = .ok () (w.setRow g (cur.toList.take (i.toNat * F.sz + off + k) ++ vs ++ cur.toList.drop (i.toNat * F.sz + off + k + vs.length)).toArray) := by
      intro vs
      induction vs with
      | nil =>
        intro k cur w hg _ _ _
        simp only [storeCells, List.append_nil, List.length_nil, Nat.add_zero, List.take_append_drop, Array.toArray_toList]
        rw [setRow_self w g cur e fz hg]
        rfl
      | cons v rest ih =>
        intro k cur w hg hl hf h1
        have hi : i.toNat * F.sz + off + k < cur.size := by simp at hl; omega
        have hadd : (⟨g, i.toNat * F.sz + off, none⟩ : Addr).add k = ⟨g, i.toNat * F.sz + off + k, none⟩ := by rw [add_plain]
        have hcell : w.cell? ⟨g, i.toNat * F.sz + off + k, none⟩ = some cur[i.toNat * F.sz + off + k] := by simp [World.cell?, hg, hi]
        have hfro : w.frozen? ⟨g, i.toNat * F.sz + off + k, none⟩ = false := by
          obtain ⟨lo, hi'⟩ := fz
          simp only [World.frozen?, hg, Bool.and_eq_false_iff, decide_eq_false_iff_not]
          left
          simp only at hf
          omega
        have hst : (store ((⟨g, i.toNat * F.sz + off, none⟩ : Addr).add k) v).run P w = .ok () (w.setRow g (cur.setIfInBounds (i.toNat * F.sz + off + k) v)) := by
          rw [hadd, run_store P w _ v _ (h1 v (by simp)), hcell]
          simp [hfro, setCell_eq_setRow w g (i.toNat * F.sz + off + k) cur e fz v hg]
        have ih' := ih (k + 1) (cur.setIfInBounds (i.toNat * F.sz + off + k) v) (w.setRow g (cur.setIfInBounds (i.toNat * F.sz + off + k) v)) (setRow_heap w g cur _ e _ hg) (by simp at hl ⊢; omega) (by simpa using hf) (fun x hx => h1 x (by simp [hx]))
        simp only [storeCells, Sem.run_bind, hst, Result.andThen_ok, ih', setRow_setRow]
        congr 3
        simp only [Array.toList_setIfInBounds, List.length_cons]
        rw [show i.toNat * F.sz + off + (k + 1) = i.toNat * F.sz + off + k + 1 by omega, List.take_set, List.drop_set]
        rw [if_pos (by omega), show i.toNat * F.sz + off + k + 1 + rest.length = i.toNat * F.sz + off + k + (rest.length + 1) by omega, List.take_succ_eq_append_getElem (by simpa using hi), List.set_append_right _ _ (by simp; omega)]
        have e3 : i.toNat * F.sz + off + k - (cur.toList.take (i.toNat * F.sz + off + k)).length = 0 := by simp; omega
        rw [e3]
        simp
    have hst := hst us 0 cur w hg (by omega) hfz (by simpa using h2)
    have hwhole : cur.toList.take (i.toNat * F.sz + off) ++ us ++ cur.toList.drop (i.toNat * F.sz + off + us.length) =
        (cur.toList.take (i.toNat * F.sz) ++ F.cells x' ++ cur.toList.drop (i.toNat * F.sz + F.sz)) := by
      have hel : F.cells (l.getD i.toNat F.dflt) = (cur.toList.drop (i.toNat * F.sz)).take F.sz := by
        have h3 : (l.drop i.toNat).flatMap F.cells = (cur.toList.take (l.length * F.sz)).drop (i.toNat * F.sz) := by rw [htk, flat_drop]
        have h4 : l.drop i.toNat = l.getD i.toNat F.dflt :: l.drop (i.toNat + 1) := by
          rw [List.drop_eq_getElem_cons hi]; congr 1; simp [List.getD, hi]
        rw [h4, List.flatMap_cons] at h3
        have h5 := congrArg (List.take F.sz) h3
        rw [List.take_append_of_le_length (by rw [F.len]; exact Nat.le_refl _), List.take_of_length_le (by rw [F.len]; exact Nat.le_refl _)] at h5
        rw [h5, List.drop_take, List.take_take]
        congr 1
        omega
      rw [← hc, hel]
      unfold splice
      rw [List.take_take, Nat.min_eq_left (by omega), List.drop_take, List.drop_drop]
      have e1 : cur.toList.take (i.toNat * F.sz + off) = cur.toList.take (i.toNat * F.sz) ++ (cur.toList.drop (i.toNat * F.sz)).take off := by
        rw [List.take_add]
      have e2 : cur.toList.drop (i.toNat * F.sz + off + us.length) = (cur.toList.drop (i.toNat * F.sz + (off + us.length))).take (F.sz - (off + us.length)) ++ cur.toList.drop (i.toNat * F.sz + F.sz) := by
        conv => lhs; rw [show i.toNat * F.sz + off + us.length = i.toNat * F.sz + (off + us.length) by omega, ← List.take_append_drop (F.sz - (off + us.length)) (cur.toList.drop (i.toNat * F.sz + (off + us.length)))]
        rw [List.drop_drop]
        congr 2
        omega
      rw [e1, e2]
      simp only [List.append_assoc]
    refine eff_skip (w' := w.setRow g (cur.toList.take (i.toNat * F.sz) ++ F.cells x' ++ cur.toList.drop (i.toNat * F.sz + F.sz)).toArray) ?_ ?_
    · intro o ho'
      unfold sizeIs at hs
      cases hq : P.info? t with
      | none => simp [hq] at hs
      | some q =>
        have hs' : q.size = us.length := by simpa [hq] using hs
        simp only [Nat.add_zero] at hst
        rw [ha] at hx
        rw [← hwhole]
        simp [execOp, ho', Instr.storeAt, hx, Instr.sureAddr, storeVar, sizeOf, typeInfo, hq, hs', hz, hy, hst]
    · refine ⟨rfl, (fr_setRow w g _).mono (fun x hx => by subst hx; rfl), ?_⟩
      have hl : (l.set i.toNat x').length = l.length := by simp
      rw [hl]
      refine ⟨by rw [flat_len, hl], .inr ⟨g, cap, _, fz, rfl, setRow_heap w g cur _ e _ hg, ?_, hnc, hcm, ?_, ?_⟩⟩
      · simp only [List.size_toArray, List.length_append, List.length_take, List.length_drop, Array.length_toList, F.len]
        omega
      · simp only [List.size_toArray, List.length_append, List.length_take, List.length_drop, Array.length_toList, F.len]
        omega
      · rw [flat_set F l i.toNat x' hi, ← htk]
        simp only [List.toList_toArray, List.append_assoc]
        have e1 : (cur.toList.take (i.toNat * F.sz)).take (l.length * F.sz) = cur.toList.take (i.toNat * F.sz) := by rw [List.take_take, Nat.min_eq_right (by omega)]
        have e2 : (cur.toList.take (l.length * F.sz)).take (i.toNat * F.sz) = cur.toList.take (i.toNat * F.sz) := by rw [List.take_take, Nat.min_eq_left (by omega)]
        have e3 : (F.cells x').take (l.length * F.sz - i.toNat * F.sz) = F.cells x' := List.take_of_length_le (by rw [F.len]; omega)
        rw [List.take_append, e1, e2, List.length_take, Nat.min_eq_left (by simp; omega), List.take_append, F.len, e3, List.drop_take, Nat.sub_sub]
theorem store_spec (F : Fit g γ S n a) (C : Cx g S w0 D A w) {t : TypeId} {x y : Operand} {u v : SV} (hx : opA S x = some u) (hy : opA S y = some v) (h : storeS (optA α) P S t u v K = some out) :
    Eff P a.eval (.store t x y) w (Post g γ S n a w0 D A K out) := by
  obtain ⟨e1, e2, e3⟩ := opA_spec F hx
  obtain ⟨f1, f2, f3⟩ := opA_spec F hy
  unfold storeS at h
  split at h
  · simp [optA] at h
  · rename_i us hus
    obtain ⟨h1, h2, h3⟩ := leafsT_spec hus
    have hyc : (a.eval y).cells.toList = encL g us := by rw [f1]; exact h1 g
    split at h
    · rename_i hsz
      split at h
      · rename_i b off
        split at h
        · rename_i T ls hb
          split at h
          · rename_i ls' hls
            obtain ⟨pre, old, post, q1, q2, q3, q4⟩ := splL_spec hls
            obtain ⟨c1, c2⟩ := spl_cells g (pre := pre) (old := old) (post := post) (us := us) q2 q3
            rw [← q1, ← q4] at c1
            rw [← q1] at c2
            have hblt : b < S.obs.length := e3 b (by simp [refS, refV, refA])
            have Cc : Ctx w _ nob [boxE false (g b).b T (encL g ls)] [] w := ctx1 (E := boxE false (g b).b T (encL g ls)) (box_ok C hb)
            refine (eff_stb (li := 0) (us := encL g us) Cc rfl e1 hyc (by simp only [List.all_eq_true]; exact encL_one g us h2) c2 (by rw [encL_len]; exact sizeIs_of hsz) c1).mono ?_
            rintro v' w' ⟨rfl, C'⟩
            exact box_set F C hb hblt h2 (by rw [h3]; exact f3) q1 q4 h (by simpa using C'.fr) (C'.okL 0 _ rfl)
          · simp [optA] at h
        · simp [optA] at h
      · rename_i o sz i off
        split at h
        · rename_i e u' xs fu ho
          split at h
          · rename_i ls' hls
            split at h
            · rename_i x' hpk
              split at h
              · rename_i hfl
                obtain ⟨hi0, hi1, rfl⟩ := e2 e u' xs .own fu ho
                have holt : o < S.obs.length := e3 o (by simp [refS, refV])
                have hob := F.ob o
                rw [ho] at hob
                obtain ⟨hrep, hsl, _⟩ := hob
                obtain ⟨hcs, hfs⟩ := (RepL_flat u' hfl _ _ _).1 hrep
                have hrow : OwnR w e u'.sz (g o).v xs.length (g o).cs := by have := C.okL o; simp only [ho, entL] at this; exact this
                obtain ⟨pre, old, post, q1, q2, q3, q4⟩ := splL_spec hls
                obtain ⟨c1, c2⟩ := spl_cells g (pre := pre) (old := old) (post := post) (us := us) q2 q3
                rw [← q1, ← q4] at c1
                rw [← q1] at c2
                -- the element's leaves are its cells
                have hflat : encL g (unpk .rd u' (at_ u' xs i) 0).1 = (flatT u').cells (at_ u' xs i) := by
                  obtain ⟨g2, _, hq, _, hr, _⟩ := unpk_spec .rd (by simp) u' (at_ u' xs i) 0 g _ [] ((RepP_flat u' hfl _ _ _).2 ⟨rfl, rfl⟩)
                  rw [← hq]
                  refine (encL_ext _ (fun o' ho' => ?_)).symm
                  rw [unpk_flat _ u' hfl] at ho'
                  cases ho'
                rw [hflat] at c1 c2
                obtain ⟨pre', fs', e', hrp, _, hfn⟩ := pack_spec F.ob u' ls' [] x' hpk
                have hx' : encL g ls' = (flatT u').cells x' := by
                  have := ((RepP_flat u' hfl _ _ _).1 hrp).1
                  rw [e', List.append_nil]; exact this
                rw [hx'] at c1
                rw [encL_len] at c2
                have hat : at_ u' xs i = xs.getD i.toNat (flatT u').dflt := by rw [flatT_dflt]; rfl
                rw [hat] at c1
                have hfit : Nat.ble (off + (encL g us).length) (flatT u').sz = true := by rw [encL_len]; rw [(flatT u').len] at c2; simpa using c2
                rw [hcs, ← flatT_sz] at hrow
                by_cases hm : e < mB
                · unfold OwnR at hrow
                  rw [if_pos hm] at hrow
                  have Cc : Ctx w (rowE (g o).v e (flatT u').sz xs.length (xs.flatMap (flatT u').cells)).dom nob [rowE (g o).v e (flatT u').sz xs.length (xs.flatMap (flatT u').cells)] [] w := ctx1 hrow
                  refine (eff_sto (li := 0) (F := flatT u') (l := xs) (off := off) (i := i) (us := encL g us) (x' := x') Cc rfl rfl (by rw [flatT_sz]; exact e1) hi0 hi1 hyc (by simp only [List.all_eq_true]; exact encL_one g us h2)
                    hfit (by rw [encL_len]; exact sizeIs_of hsz) c1).mono ?_
                  rintro v' w' ⟨rfl, C'⟩
                  exact row_set F C ho holt hfl hfs hcs hsl h (by simp) (by rw [ownE_dom]; simpa using C'.fr) ((ownE_lt hm).2 (by simpa [flatT_sz] using C'.okL 0 _ rfl))
                · unfold OwnR at hrow
                  rw [if_neg hm] at hrow
                  refine (eff_stoM (F := flatT u') (l := xs) (off := off) (i := i) (us := encL g us) (x' := x') hrow (by rw [flatT_sz]; exact e1) hi0 hi1 hyc (by simp only [List.all_eq_true]; exact encL_one g us h2)
                    hfit (by rw [encL_len]; exact sizeIs_of hsz) c1).mono ?_
                  rintro v' w' ⟨rfl, hfr, hok⟩
                  refine row_set F C ho holt hfl hfs hcs hsl h (by simp) (by rw [ownE_dom]; exact hfr) ?_
                  show OwnR w' e u'.sz (g o).v _ _
                  unfold OwnR
                  rw [if_neg hm, ← flatT_sz]
                  exact hok
              · simp [optA] at h
            · simp [optA] at h
          · simp [optA] at h
        · simp [optA] at h
      · rename_i b off u' m i
        split at h
        · rename_i T ls hb
          split at h
          · rename_i m' u'' vec rest hs
            split at h
            · rename_i hc
              obtain ⟨rfl, rfl, hfl, hsz0⟩ := hc
              split at h
              · rename_i x' hpk
                split at h
                · rename_i ls' hls
                  obtain ⟨pre, old, post, q1, q2, q3, q4⟩ := splL_spec hls
                  obtain ⟨c1, c2⟩ := spl_cells g (pre := pre) (old := old) (post := post) (us := [.fl (.arr m' u'') (vSet vec i x')]) q2 q3
                  rw [← q1, ← q4] at c1
                  have hblt : b < S.obs.length := e3 b (by simp [refS, refV])
                  have Cc : Ctx w _ nob [boxE false (g b).b T (encL g ls)] [] w := ctx1 (E := boxE false (g b).b T (encL g ls)) (box_ok C hb)
                  have hok' : 0 ≤ i ∧ i < m' := e2
                  obtain ⟨pre2, e', hps⟩ := skipL_spec _ _ _ hs
                  have hcc := seg_cells g (pre := pre2) (seg := [.fl (.arr m' u'') vec]) (post := rest) (n := m' * (flatT u'').sz) hps (by simp [sizeL, At.sz, Ty.sz, flatT_sz])
                  rw [show pre2 ++ ([.fl (.arr m' u'') vec] ++ rest) = ls from e'.symm] at hcc
                  obtain ⟨pre', fs', e5, hrp, _, hfn⟩ := pack_spec F.ob u'' us [] x' hpk
                  have hx' : encL g us = (flatT u'').cells x' := by
                    have := ((RepP_flat u'' hfl _ _ _).1 hrp).1
                    rw [e5, List.append_nil]; exact this
                  have hsz' : sizeIs P t (flatT u'').sz = true := by
                    have := sizeIs_of hsz
                    rwa [← encL_len g us, hx', (flatT u'').len] at this
                  have hpos : 0 < (flatT u'').sz := by rw [flatT_sz]; exact hsz0
                  refine (eff_sta (F := flatT u'') (n := m') (vec := vec) (i := i) (li := 0) (off := off) (x' := x') (cs' := encL g ls') Cc rfl ?_ (by rw [flatT_sz]; exact e1) hok'.1 hok'.2 (by rw [hyc]; exact hx') hsz' ?_ hpos).mono ?_
                  · rw [hcc]; simp [encL, encA, flatT]
                  · rw [← c1]
                    simp only [splice, encL, List.flatMap_cons, List.flatMap_nil, List.append_nil, encA, List.append_assoc]
                    rw [(flatT (.arr m' u'')).len]
                    rfl
                  · rintro v' w' ⟨rfl, C'⟩
                    exact box_set F C hb hblt rfl (fun o ho => by cases ho) q1 q4 h (by simpa using C'.fr) (C'.okL 0 _ rfl)
                · simp [optA] at h
              · simp [optA] at h
            · simp [optA] at h
          · simp [optA] at h
        · simp [optA] at h
      · simp [optA] at h
    · simp [optA] at h
end
end Go.Proofs.YthdgllldpfeelaaGreatDoor
/- Acts on rows: made, lengthened, cut. No condition. -/
set_option linter.unusedVariables false
set_option linter.unusedSimpArgs false
namespace Go.Proofs.YthdgllldpfeelaaGreatDoor
open Go
section
variable {P : Program} {g g' : Env} {γ : Ghost} {S : St} {n : Nat} {a : Act} {w0 w w' : World} {D A : Nat → Prop} {α : Type} {K : St → SV → Option α} {out : α}
/-- A row of one's own that is longer now, and stands elsewhere. -/
theorem post_app (F : Fit g γ S n a) (C : Cx g S w0 D A w) {o e : Nat} {u : Ty} {xs zs : List u.den} {fu : Bool} {cs : List Value} {fs : List Fact} {v : Value} (ho : S.ob o = .row e u xs .own fu) (holt : o < S.obs.length)
    (hK : K (({ S with mods := o :: S.mods, obs := S.obs.set o .gone } : St).add [.row e u zs .own false]) (.v (.a (.sl S.obs.length))) = some out) (hrep : RepL (RepP u) zs cs fs) (hfs : FromR g S fs) (hsl : SlV v zs.length)
    (hf : Fr (ownE (g o).v e u.sz xs.length (g o).cs).dom w w') (hok : (ownE v e u.sz zs.length cs).ok w') (hd : ∀ b, (ownE v e u.sz zs.length cs).dom b → (ownE (g o).v e u.sz xs.length (g o).cs).dom b ∨ w.heap.size ≤ b) :
    Post g γ S n a w0 D A K out v w' := by
  obtain ⟨S1, hS1⟩ : ∃ S1 : St, S1 = { S with mods := o :: S.mods, obs := S.obs.set o .gone } := ⟨_, rfl⟩
  rw [← hS1] at hK
  have hl1 : S1.obs.length = S.obs.length := by rw [hS1]; simp
  have ob1 : ∀ i, S1.ob i = if o = i then .gone else S.ob i := fun i => by
    have : S1.ob i = ({ S with obs := S.obs.set o .gone } : St).ob i := by rw [hS1]; rfl
    rw [this, ob_set]
    by_cases h : o = i
    · subst h; simp only [holt, and_self, if_true]
    · simp only [h, false_and, if_false]
  obtain ⟨g', hg'⟩ : ∃ g' : Env, g' = fun i => if i < S.obs.length then g i else ⟨v, hsl.one, 0, cs, fs⟩ := ⟨_, rfl⟩
  have hext : Ext g g' S.obs.length := fun i hi => by simp [hg', hi]
  have hnew : g' S.obs.length = ⟨v, hsl.one, 0, cs, fs⟩ := by simp [hg']
  have okE : ∀ v : V1, okV S v → okV S1 v := fun v h => by
    cases v with
    | elp o' sz i off =>
      intro e t ys m fu he
      rw [ob1] at he
      split at he
      · cases he
      · exact h e t ys m fu he
    | arp b off t n i => exact h
    | _ => trivial
  have F1 : Fit g γ S1 n a := by
    refine ⟨F.size, F.lo, F.defers, ?_, ?_, ?_, ?_, ?_⟩
    · rw [hS1]; exact F.sl
    · intro i; rw [ob1]; split
      · trivial
      · exact F.ob i
    · intro t s h
      have := F.ok t s (by rw [hS1] at h; exact h)
      cases s with
      | v x => exact okE x this
      | tup xs => exact fun x hx => okE x (this x hx)
    · intro t s h; rw [hl1]; exact F.rs t s (by rw [hS1] at h; exact h)
    · intro i T ls h
      rw [hl1]
      rw [ob1] at h
      split at h
      · cases h
      · exact F.rb i T ls h
  have hext1 : Ext g g' S1.obs.length := by rw [hl1]; exact hext
  have F2 : Fit g' γ (S1.add [.row e u zs .own false]) n a := fit_add F1 hext1 (fun j ob hj => by
    match j with
    | 0 => simp only [List.getElem?_cons_zero, Option.some.injEq] at hj; subst hj; rw [Nat.add_zero, hl1]; exact ⟨by rw [hnew]; exact hrep, by rw [hnew]; exact hsl, fun h => by cases h⟩
    | j + 1 => simp at hj) (fun j T ls hj => by
    match j with
    | 0 => simp at hj
    | j + 1 => simp at hj)
  have obN : ∀ i, (S1.add [Ob.row e u zs .own false]).ob i = if i = S.obs.length then .row e u zs .own false else if o = i then .gone else S.ob i := fun i => by
    rcases Nat.lt_trichotomy i S.obs.length with h | h | h
    · rw [ob_add_lt (by rw [hl1]; exact h), ob1, if_neg (show ¬ i = S.obs.length by omega)]
    · rw [ob_add_ge (by rw [hl1]; omega), hl1, if_pos h, h]; simp
    · rw [ob_add_ge (by rw [hl1]; omega), if_neg (show ¬ i = S.obs.length by omega), if_neg (show ¬ o = i by omega), ob_ge (by omega), hl1]
      have : i - S.obs.length = (i - S.obs.length - 1) + 1 := by omega
      rw [this]; rfl
  have hLo : entL g o (S.ob o) = ownE (g o).v e u.sz xs.length (g o).cs := by rw [ho]; rfl
  have C1 : CtxF w0 D A (fun i => if i = o then ownE v e u.sz zs.length cs else entL g i (S.ob i)) (fun i => entR g i (S.ob i)) w' :=
    cf_set o (E' := ownE v e u.sz zs.length cs) C (by simp only [hLo]; exact hf) hok (fun b hb => by simp only [hLo]; exact hd b hb) (fun j hj => if_neg hj) (if_pos rfl)
  refine ⟨g', _, _, hK, by simp [encS, encV, val1, hnew], F2, ?_, trivial, ?_, ?_⟩
  · refine cf_remap2 C1 (fun i => if i = S.obs.length then o else i) (fun i => ?_) (fun i j hij hi hj => ?_) (fun i => ?_)
    · simp only [obN]
      by_cases h : i = S.obs.length
      · rw [if_pos h, if_pos h, if_pos rfl]
        subst h
        simp only [entL, hnew]
        exact ⟨hok, fun _ => id⟩
      · rw [if_neg h, if_neg h]
        by_cases h' : o = i
        · rw [if_pos h']; exact ⟨trivial, fun b hb => hb.elim⟩
        · rw [if_neg h', if_neg (fun e => h' e.symm)]
          have : entL g' i (S.ob i) = entL g i (S.ob i) := by
            rcases Nat.lt_or_ge i S.obs.length with hi | hi
            · exact entL_ext (hext i hi) (fun T ls e x hm => hext x (F.rb i T ls e x hm))
            · rw [ob_ge hi]; rfl
          rw [this]
          have := C1.okL i
          simp only [if_neg (fun e => h' (Eq.symm e))] at this
          exact ⟨this, fun _ => id⟩
    · simp only [obN] at hi hj
      by_cases h1 : i = S.obs.length
      · by_cases h2 : j = S.obs.length
        · exact absurd (h1.trans h2.symm) hij
        · simp only [if_pos h1, if_neg h2]
          intro e
          subst e
          rw [if_neg h2, if_pos rfl] at hj
          obtain ⟨b, hb⟩ := hj
          exact hb.elim
      · by_cases h2 : j = S.obs.length
        · simp only [if_pos h2, if_neg h1]
          intro e
          subst e
          rw [if_neg h1, if_pos rfl] at hi
          obtain ⟨b, hb⟩ := hi
          exact hb.elim
        · simp only [if_neg h1, if_neg h2]; exact hij
    · simp only [obN]
      by_cases h : i = S.obs.length
      · rw [if_pos h]
        subst h
        simp only [entR, hnew]
        refine ⟨fun f hf => ?_, fun b hb => ?_⟩
        · rcases hfs f hf with ⟨h, _⟩ | ⟨j, _, h, _⟩
          · exact h w'
          · exact h w' (C1.okR j)
        · obtain ⟨f, hf, h1, h2⟩ := hb
          rcases hfs f hf with ⟨_, h⟩ | ⟨j, hl, _, h⟩
          · exact absurd h h1
          · exact .inl ⟨j, h b h1 h2, fun _ => hl⟩
      · rw [if_neg h]
        by_cases h' : o = i
        · rw [if_pos h']; exact ⟨trivial, fun b hb => hb.elim⟩
        · rw [if_neg h']
          have : entR g' i (S.ob i) = entR g i (S.ob i) := by
            rcases Nat.lt_or_ge i S.obs.length with hi | hi
            · exact entR_ext (hext i hi)
            · rw [ob_ge hi]; rfl
          rw [this]
          exact ⟨C1.okR i, fun b hb => .inl ⟨i, hb, id⟩⟩
  · intro o' ho'
    simp only [refS, refV, refA, List.mem_singleton] at ho'
    simp [St.add, ho', hl1]
  · refine ⟨by simp [St.add, hl1], fun i hi => by rw [hext i hi]; exact ⟨rfl, rfl⟩, fun i hi hm => ?_, fun i hi => by rw [hS1]; exact List.mem_cons_of_mem _ hi, fun _ _ => by rw [hS1]; rfl, fun i hi e t xs m fu h => ?_⟩
    · have hne : o ≠ i := fun e => hm (by rw [hS1]; simp [St.add, e])
      rw [obN, if_neg (by omega), if_neg hne]
      exact ⟨rfl, hext i hi⟩
    · rw [obN, if_neg (by omega)] at h
      split at h
      · cases h
      · exact ⟨e, xs, m, fu, h, rfl⟩
theorem cf_addR {L R R' : Nat → Ent} (C : CtxF w0 D A L R w) (hf : Fr nob w w') (hR : ∀ i, (R' i).ok w' ∧ ∀ b, (R' i).dom b → (∃ j, (R j).dom b ∧ ((R' i).lent = false → (R j).lent = false)) ∨ w.heap.size ≤ b) : CtxF w0 D A L R' w' := by
  have C' := cf_still C hf
  refine ⟨C'.fr, C'.okL, fun i => (hR i).1, C'.mine, C'.sepL, fun i j b hb hb' => ?_, fun i hl b hb => ?_⟩
  · rcases (hR j).2 b hb' with ⟨k, h, _⟩ | h
    · exact C.sepR i k b hb h
    · have := (L i).lt w (C.okL i) b hb; omega
  · rcases (hR i).2 b hb with ⟨k, h, hl'⟩ | h
    · exact C.src k (hl' hl) b h
    · exact .inr (.inr (Nat.le_trans C.fr.size h))
/-- A row more, which is read. -/
theorem post_rd (F : Fit g γ S n a) (C : Cx g S w0 D A w) {o e : Nat} {u : Ty} {xs zs : List u.den} {m : Md} {fu : Bool} {cs : List Value} {fs : List Fact} {v : Value} (ho : S.ob o = .row e u xs m fu) (hm : m ≠ .own)
    (hK : K (S.add [.row e u zs m false]) (.v (.a (.sl S.obs.length))) = some out) (hrep : RepL (RepP u) zs cs fs) (hfs : ∀ f ∈ fs, f ∈ (g o).fs ∨ ((∀ w', Rds f.v f.n f.sz f.cs w') ∧ f.cs = []) ∨ ∃ j, (entR g j (S.ob j)).lent = false ∧ (∀ w', (entR g j (S.ob j)).ok w' → Rds f.v f.n f.sz f.cs w') ∧ ∀ b, f.cs ≠ [] → addrOf f.v = some b → (entR g j (S.ob j)).dom b) (hsl : SlV v zs.length)
    (hf : Fr nob w w') (hrd : Rds v zs.length u.sz cs w') (hd : ∀ b, cs ≠ [] → addrOf v = some b → ((g o).cs ≠ [] ∧ addrOf (g o).v = some b) ∨ w.heap.size ≤ b) :
    Post g γ S n a w0 D A K out v w' := by
  obtain ⟨g', hg'⟩ : ∃ g' : Env, g' = fun i => if i < S.obs.length then g i else ⟨v, hsl.one, 0, cs, fs⟩ := ⟨_, rfl⟩
  have hext : Ext g g' S.obs.length := fun i hi => by simp [hg', hi]
  have hnew : g' S.obs.length = ⟨v, hsl.one, 0, cs, fs⟩ := by simp [hg']
  have C' := cf_still C hf
  have obN : ∀ i, i ≠ S.obs.length → (S.add [Ob.row e u zs m false]).ob i = S.ob i := fun i hi => by
    rcases Nat.lt_or_ge i S.obs.length with h | h
    · exact ob_add_lt h
    · rw [ob_add_ge h, ob_ge h]
      have : i - S.obs.length = (i - S.obs.length - 1) + 1 := by omega
      rw [this]; rfl
  have obE : (S.add [Ob.row e u zs m false]).ob S.obs.length = .row e u zs m false := by rw [ob_add_ge (Nat.le_refl _)]; simp
  have hro : (∀ f ∈ (g o).fs, Rds f.v f.n f.sz f.cs w') ∧ (∀ f ∈ (g o).fs, ∀ b, f.cs ≠ [] → addrOf f.v = some b → (entR g o (S.ob o)).dom b) ∧ ((g o).cs ≠ [] → ∀ b, addrOf (g o).v = some b → (entR g o (S.ob o)).dom b) ∧ ((entR g o (S.ob o)).lent = true ↔ m = .lent) := by
    have h := C'.okR o
    simp only [ho] at h
    rw [ho]
    cases m with
    | own => exact absurd rfl hm
    | rd => exact ⟨fun f hf => h f (List.mem_cons_of_mem _ hf), fun f hf b h1 h2 => ⟨f, List.mem_cons_of_mem _ hf, h1, h2⟩, fun h1 b h2 => ⟨_, List.mem_cons_self .., h1, h2⟩, by simp [entR, factsE]⟩
    | lent => exact ⟨fun f hf => h f (List.mem_cons_of_mem _ hf), fun f hf b h1 h2 => ⟨f, List.mem_cons_of_mem _ hf, h1, h2⟩, fun h1 b h2 => ⟨_, List.mem_cons_self .., h1, h2⟩, by simp [entR, factsE]⟩
  obtain ⟨r1, r2, r3, r4⟩ := hro
  have entE : entR g' S.obs.length (.row e u zs m false) = factsE (decide (m = .lent)) (⟨v, zs.length, u.sz, cs⟩ :: fs) := by
    cases m with
    | own => exact absurd rfl hm
    | rd => simp [entR, hnew]
    | lent => simp [entR, hnew]
  refine ⟨g', _, _, hK, by simp [encS, encV, val1, hnew], ?_, ?_, trivial, ?_, Kp.add _ hext⟩
  · refine fit_add F hext (fun j ob hj => ?_) (fun j T ls hj => ?_)
    · match j with
      | 0 => simp only [List.getElem?_cons_zero, Option.some.injEq] at hj; subst hj; rw [Nat.add_zero]; exact ⟨by rw [hnew]; exact hrep, by rw [hnew]; exact hsl, fun h => by cases h⟩
      | j + 1 => simp at hj
    · match j with
      | 0 => simp at hj
      | j + 1 => simp at hj
  · have hLf : (fun i => entL g' i ((S.add [Ob.row e u zs m false]).ob i)) = fun i => entL g i (S.ob i) := by
      funext i
      by_cases h : i = S.obs.length
      · subst h; rw [obE, ob_ge (Nat.le_refl _)]
        cases m with
        | own => exact absurd rfl hm
        | _ => rfl
      · rw [obN i h]
        rcases Nat.lt_or_ge i S.obs.length with hi | hi
        · exact entL_ext (hext i hi) (fun T ls e x hm => hext x (F.rb i T ls e x hm))
        · rw [ob_ge hi]; rfl
    unfold Cx
    rw [hLf]
    refine cf_addR C hf (fun i => ?_)
    by_cases h : i = S.obs.length
    · subst h
      rw [obE, entE]
      refine ⟨fun f hf' => ?_, fun b hb => ?_⟩
      · rcases List.mem_cons.1 hf' with rfl | hf'
        · exact hrd
        · rcases hfs f hf' with h | ⟨h, _⟩ | ⟨j, _, h, _⟩
          · exact r1 f h
          · exact h w'
          · exact h w' (C'.okR j)
      · obtain ⟨f, hf', h1, h2⟩ := hb
        have hlo : (factsE (decide (m = .lent)) (⟨v, zs.length, u.sz, cs⟩ :: fs)).lent = false → (entR g o (S.ob o)).lent = false := fun h => by
          have h : decide (m = .lent) = false := h
          cases hl : (entR g o (S.ob o)).lent with
          | false => rfl
          | true => rw [r4.1 hl] at h; simp at h
        rcases List.mem_cons.1 hf' with rfl | hf'
        · rcases hd b h1 h2 with ⟨h3, h4⟩ | h3
          · exact .inl ⟨o, r3 h3 b h4, hlo⟩
          · exact .inr h3
        · rcases hfs f hf' with h | ⟨_, h⟩ | ⟨j, hl, _, h⟩
          · exact .inl ⟨o, r2 f h b h1 h2, hlo⟩
          · exact absurd h h1
          · exact .inl ⟨j, h b h1 h2, fun _ => hl⟩
    · rw [obN i h]
      have : entR g' i (S.ob i) = entR g i (S.ob i) := by
        rcases Nat.lt_or_ge i S.obs.length with hi | hi
        · exact entR_ext (hext i hi)
        · rw [ob_ge hi]; rfl
      rw [this]
      exact ⟨C'.okR i, fun b hb => .inl ⟨i, hb, id⟩⟩
  · intro o' ho'
    simp only [refS, refV, refA, List.mem_singleton] at ho'
    simp [St.add, ho']
end
end Go.Proofs.YthdgllldpfeelaaGreatDoor
/- Acts on rows, one by one. No condition. -/
set_option linter.unusedVariables false
set_option linter.unusedSimpArgs false
namespace Go.Proofs.YthdgllldpfeelaaGreatDoor
open Go
section
variable {P : Program} {g g' g1 : Env} {γ : Ghost} {S S1 : St} {n : Nat} {a : Act} {w0 w w' : World} {D A : Nat → Prop} {α : Type} {K : St → SV → Option α} {out : α}
theorem Post.of (hk : Kp g S noD g1 S1) {v : Value} (h : Post g1 γ S1 n a w0 D A K out v w') : Post g γ S n a w0 D A K out v w' := by
  obtain ⟨g', S', sv, h1, h2, h3, h4, h5, h6, h7⟩ := h
  exact ⟨g', S', sv, h1, h2, h3, h4, h5, h6, hk.trans h7 (fun _ => id) (fun _ => id)⟩
/-- A row of one's own is read from now on. -/
theorem freeze1 (F : Fit g γ S n a) {o e : Nat} {u : Ty} {xs : List u.den} {fu : Bool} (ho : S.ob o = .row e u xs .own fu) (holt : o < S.obs.length) :
    Fit g γ (S.setOb o (.row e u xs .rd fu)) n a ∧ (∀ w0 D A w, Cx g S w0 D A w → Cx g (S.setOb o (.row e u xs .rd fu)) w0 D A w) ∧ Kp g S noD g (S.setOb o (.row e u xs .rd fu)) ∧ (∀ v, okS S v → okS (S.setOb o (.row e u xs .rd fu)) v) := by
  have hl : (S.setOb o (.row e u xs .rd fu)).obs.length = S.obs.length := by simp [St.setOb]
  have obE : ∀ i, i ≠ o → (S.setOb o (.row e u xs .rd fu)).ob i = S.ob i := fun i hi => by rw [ob_setOb, if_neg (fun h => hi h.1.symm)]
  have obB : (S.setOb o (.row e u xs .rd fu)).ob o = .row e u xs .rd fu := by rw [ob_setOb, if_pos ⟨rfl, holt⟩]
  have okE : ∀ v : V1, okV S v → okV (S.setOb o (.row e u xs .rd fu)) v := fun v h => by
    cases v with
    | elp o' sz i off =>
      intro e' t ys m fu' he
      by_cases eo : o' = o
      · subst eo
        rw [obB] at he
        cases he
        exact h _ _ _ _ _ ho
      · rw [obE o' eo] at he; exact h _ _ _ _ _ he
    | arp b off t n i => exact h
    | _ => trivial
  have okS' : ∀ v, okS S v → okS (S.setOb o (.row e u xs .rd fu)) v := fun v h => by
    cases v with
    | v x => exact okE x h
    | tup xs => exact fun x hx => okE x (h x hx)
  refine ⟨⟨F.size, F.lo, F.defers, F.sl, fun i => ?_, fun t s h => okS' s (F.ok t s h), fun t s h => by rw [hl]; exact F.rs t s h, fun i T ls h => ?_⟩, fun w0 D A w C => ?_, ?_, okS'⟩
  · by_cases h : i = o
    · subst h; rw [obB]; have := F.ob i; rw [ho] at this; exact this
    · rw [obE i h]; exact F.ob i
  · rw [hl]
    by_cases h' : i = o
    · subst h'; rw [obB] at h; cases h
    · rw [obE i h'] at h; exact F.rb i T ls h
  · refine cf_remap2 C id (fun i => ?_) (fun i j hij _ _ => hij) (fun i => ?_)
    · by_cases h : i = o
      · subst h; simp only [obB, entL]; exact ⟨trivial, fun b hb => hb.elim⟩
      · simp only [obE i h]; exact ⟨C.okL i, fun _ => id⟩
    · by_cases h : i = o
      · subst h
        have h1 := C.okL i
        have h2 := C.okR i
        simp only [ho, entL] at h1
        simp only [ho, entR] at h2
        simp only [obB, entR]
        refine ⟨fun f hf => ?_, fun b hb => ?_⟩
        · rcases List.mem_cons.1 hf with rfl | hf
          · exact rds_own h1
          · exact h2 f hf
        · obtain ⟨f, hf, q1, q2⟩ := hb
          rcases List.mem_cons.1 hf with rfl | hf
          · refine .inr ⟨i, ?_, fun k hk e => ?_⟩
            · simp only [ho, entL]
              show (g i).v.ownBlock = some b
              exact own_block (h1 : OwnR w _ u.sz (g i).v xs.length (g i).cs) q2
            · have e : k = i := e
              subst e
              rw [obB] at hk
              obtain ⟨b', hb'⟩ := hk
              exact hb'.elim
          · exact .inl ⟨i, by simp only [ho, entR]; exact ⟨f, hf, q1, q2⟩, fun _ => by simp only [ho]; rfl⟩
      · simp only [obE i h]; exact ⟨C.okR i, fun b hb => .inl ⟨i, hb, id⟩⟩
  · refine ⟨by rw [hl]; exact Nat.le_refl _, fun _ _ => ⟨rfl, rfl⟩, fun i _ hm => ⟨obE i (fun e => hm (by simp [St.setOb, e])), rfl⟩, fun i hi => by simp [St.setOb, hi], fun _ _ => rfl, fun i _ e' t ys m fu' h => by
      by_cases e'' : i = o
      · subst e''; rw [obB] at h; cases h; exact ⟨_, _, _, _, ho, rfl⟩
      · rw [obE i e''] at h; exact ⟨_, _, _, _, h, rfl⟩⟩
/-- Rows of one's own of which leaves speak. -/
structure Frozen (g : Env) (γ : Ghost) (S S' : St) (n : Nat) (a : Act) : Prop where
  fit : Fit g γ S' n a
  cx : ∀ w0 D A w, Cx g S w0 D A w → Cx g S' w0 D A w
  kp : Kp g S noD g S'
  ok : ∀ v, okS S v → okS S' v
  len : S'.obs.length = S.obs.length
theorem Frozen.refl (F : Fit g γ S n a) : Frozen g γ S S n a := ⟨F, fun _ _ _ _ => id, Kp.refl _ _ _, fun _ => id, rfl⟩
theorem Frozen.trans {S2 : St} (h : Frozen g γ S S1 n a) (k : Frozen g γ S1 S2 n a) : Frozen g γ S S2 n a :=
  ⟨k.fit, fun w0 D A w C => k.cx _ _ _ _ (h.cx _ _ _ _ C), h.kp.trans k.kp (fun _ => id) (fun _ => id), fun v hv => k.ok v (h.ok v hv), k.len.trans h.len⟩
theorem ob_lt {i : Nat} (h : S.ob i ≠ .gone) : i < S.obs.length := by
  rcases Nat.lt_or_ge i S.obs.length with hi | hi
  · exact hi
  · exact absurd (ob_ge hi) h
theorem freezeL_spec : ∀ (ls : List At) {S : St}, Fit g γ S n a → Frozen g γ S (freezeL S ls) n a
  | [], S, F => Frozen.refl F
  | x :: r, S, F => by
    cases x with
    | sl o =>
      simp only [freezeL]
      split
      · rename_i e t xs fu ho
        obtain ⟨f1, f2, f3, f4⟩ := freeze1 F ho (ob_lt (by rw [ho]; simp))
        exact Frozen.trans ⟨f1, f2, f3, f4, by simp [St.setOb]⟩ (freezeL_spec r f1)
      · exact freezeL_spec r F
    | _ => exact freezeL_spec r F
theorem freezeV_spec (F : Fit g γ S n a) (v : SV) : Frozen g γ S (freezeV S v) n a := by
  unfold freezeV
  split
  · exact freezeL_spec _ F
  · exact freezeL_spec _ F
  · exact Frozen.refl F
theorem freezeP_spec : ∀ (vs : List (Nat × SV)) {S : St}, Fit g γ S n a → Frozen g γ S (freezeP S vs) n a
  | [], S, F => Frozen.refl F
  | p :: vs, S, F => Frozen.trans (freezeV_spec F p.2) (freezeP_spec vs (freezeV_spec F p.2).fit)
end
end Go.Proofs.YthdgllldpfeelaaGreatDoor
/- Acts on rows, one by one. No condition. -/
set_option linter.unusedVariables false
set_option linter.unusedSimpArgs false
namespace Go.Proofs.YthdgllldpfeelaaGreatDoor
open Go
section
variable {P : Program} {g g' g1 : Env} {γ : Ghost} {S S1 : St} {n : Nat} {a : Act} {w0 w w' : World} {D A : Nat → Prop} {α : Type} {K : St → SV → Option α} {out : α}
/-- The rows of nothing become rows. -/
theorem realize_spec (F : Fit g γ S n a) (C : Cx g S w0 D A w) (v : SV) (hok : okS S v) (hr : ∀ o ∈ refS v, o < S.obs.length) :
    ∃ g', Fit g' γ (realize S v).1 n a ∧ Cx g' (realize S v).1 w0 D A w ∧ Kp g S noD g' (realize S v).1 ∧ encS g' (realize S v).2 = encS g v ∧ okS (realize S v).1 (realize S v).2 ∧ (∀ o ∈ refS (realize S v).2, o < (realize S v).1.obs.length) ∧
      (∀ x, (∀ o ∈ refS x, o < S.obs.length) → encS g' x = encS g x) := by
  unfold realize
  split
  · rename_i e t
    obtain ⟨g', hg'⟩ : ∃ g' : Env, g' = fun i => if i < S.obs.length then g i else ⟨.slice none 0 0, rfl, 0, [], []⟩ := ⟨_, rfl⟩
    have hext : Ext g g' S.obs.length := fun i hi => by simp [hg', hi]
    have hnew : g' S.obs.length = ⟨.slice none 0 0, rfl, 0, [], []⟩ := by simp [hg']
    refine ⟨g', ?_, ?_, Kp.add _ hext, by simp [encS, encV, val1, hnew], trivial, ?_, fun x hx => encS_ext x (fun o ho => hext o (hx o ho))⟩
    · refine fit_add F hext (fun j ob hj => ?_) (fun j T ls hj => ?_)
      · match j with
        | 0 => simp only [List.getElem?_cons_zero, Option.some.injEq] at hj; subst hj; rw [Nat.add_zero]; exact ⟨by rw [hnew]; exact ⟨rfl, rfl⟩, by rw [hnew]; exact ⟨none, 0, rfl, fun _ => rfl⟩, fun h => by cases h⟩
        | j + 1 => simp at hj
      · match j with
        | 0 => simp at hj
        | j + 1 => simp at hj
    · refine cx_new F C (Fr.refl _ _) hext ⟨?_, fun b hb => ?_⟩ ⟨?_, fun b hb => ?_⟩
      · simp only [entL, hnew]; exact own_nil _ _ _
      · simp only [entL, hnew] at hb
        have : (Value.slice none 0 0).ownBlock = some b := hb
        simp [Value.ownBlock] at this
      · simp only [entR, hnew]; intro f hf; cases hf
      · simp only [entR, hnew] at hb
        obtain ⟨f, hf, _⟩ := hb
        cases hf
    · intro o ho
      simp only [refS, refV, refA, List.mem_singleton] at ho
      simp [St.add, ho]
  · exact ⟨g, F, C, Kp.refl _ _ _, rfl, hok, hr, fun _ _ => rfl⟩
theorem append_spec (F : Fit g γ S n a) (C : Cx g S w0 D A w) {t : TypeId} {X Y : Operand} {s x : SV} (hX : opA S X = some s) (hY : opA S Y = some x) (h : appendS (optA α) P S t s x K = some out) :
    Eff P a.eval (.call { callee := .builtin .append, args := #[X, Y], argTypes := #[t, t] }) w (Post g γ S n a w0 D A K out) := by
  obtain ⟨e1, e2, e3⟩ := opA_spec F hX
  obtain ⟨f1, f2, f3⟩ := opA_spec F hY
  obtain ⟨t1, t2, t3⟩ := typedV_enc (P := P) (g := g) (S := S) t s
  obtain ⟨g1, F1, C1, k1, r1, r2, r3, r4⟩ := realize_spec F C (typedV P t s) (t3 e2) (by rw [t2]; exact e3)
  unfold appendS at h
  rcases hre : realize S (typedV P t s) with ⟨S1, s1⟩
  rw [hre] at F1 C1 k1 r1 r2 r3 h
  simp only at F1 C1 k1 r1 r2 r3 h
  have hXe : a.eval X = encS g1 s1 := by rw [r1, t1]; exact e1
  obtain ⟨u1, u2, _⟩ := typedV_enc (P := P) (g := g) (S := S) t x
  have hYe : a.eval Y = encS g1 (typedV P t x) := by rw [r4 _ (by rw [u2]; exact f3), u1]; exact f1
  have hlen : S.obs.length ≤ S1.obs.length := k1.len
  split at h
  · rename_i o e sz by_ z heq
    split at h
    · rename_i e' u xs m fu ho
      split at h
      · rename_i hc
        obtain ⟨rfl, rfl, h0, hb0, hz, hmB⟩ := hc
        have holt := ob_lt (S := S1) (i := o) (by rw [ho]; simp)
        have hXv : a.eval X = (g1 o).v := hXe
        have hobo := F1.ob o
        rw [ho] at hobo
        obtain ⟨hrep, hsl, hfull⟩ := hobo
        -- what is put behind: a row
        have go : ∀ (ys : List u.den) (cs2 : List Value) (fs2 : List Fact) (yv : Value), a.eval Y = yv → Rds yv ys.length u.sz cs2 w → RepL (RepP u) ys cs2 fs2 → FromR g1 S1 fs2 →
            ((optA α).guard ((xs.length + ys.length) * by_ ≤ 140737488355328) inferInstance
              (if m = .own then K (({ S1 with mods := o :: S1.mods, obs := S1.obs.set o .gone } : St).add [.row e' u (xs ++ ys) .own false]) (.v (.a (.sl S1.obs.length)))
               else if fu = true then K (S1.add [.row e' u (xs ++ ys) m false]) (.v (.a (.sl S1.obs.length))) else (optA α).fail "append to what is read")) = some out →
            Eff P a.eval (.call { callee := .builtin .append, args := #[X, Y], argTypes := #[t, t] }) w (Post g γ S n a w0 D A K out) := by
          intro ys cs2 fs2 yv hyv hrd hrep2 hfs2 hgd
          have hb : (xs.length + ys.length) * by_ ≤ 140737488355328 ∧ (if m = .own then K (({ S1 with mods := o :: S1.mods, obs := S1.obs.set o .gone } : St).add [.row e' u (xs ++ ys) .own false]) (.v (.a (.sl S1.obs.length)))
               else if fu = true then K (S1.add [.row e' u (xs ++ ys) m false]) (.v (.a (.sl S1.obs.length))) else none) = some out := by
            simp only [optA] at hgd
            split at hgd
            · rename_i hb; exact ⟨hb, hgd⟩
            · cases hgd
          clear hgd
          obtain ⟨hb, hg⟩ := hb
          have hone : ∀ v ∈ cs2, v.oneCell' = true := RepL_one (fun x c F h => RepP_one u x c F h) ys cs2 fs2 hrep2
          have hrepA := RepL_app xs ys _ _ _ _ hrep hrep2
          have hll : (xs ++ ys).length = xs.length + ys.length := by simp
          split at hg
          · rename_i hm
            subst hm
            have hrow : (rowE (g1 o).v e' u.sz xs.length (g1 o).cs).ok w := by have := C1.okL o; simp only [ho, entL] at this; exact (ownE_lt hmB).1 this
            have Cc : Ctx w (rowE (g1 o).v e' u.sz xs.length (g1 o).cs).dom nob [rowE (g1 o).v e' u.sz xs.length (g1 o).cs] [] w := ctx1 hrow
            refine (eff_append (li := 0) (v := (g1 o).v) (y := yv) Cc rfl hXv hyv hrd hone heq hz h0 hb hb0).mono ?_
            rintro v' w' C'
            refine Post.of k1 (post_app F1 C1 ho holt hg hrepA ((FromR.inner ho (by simp)).app hfs2) ?_ (by rw [ownE_dom]; simpa using C'.fr) ((ownE_lt hmB).2 (by rw [hll]; exact C'.okL 0 _ rfl)) (fun b hb => ?_))
            · have hok : w'.ownsRow 0 e' u.sz v' (xs.length + ys.length) ((g1 o).cs ++ cs2) := C'.okL 0 _ rfl
              rw [hll]
              rcases hok.2 with ⟨rfl, hn⟩ | ⟨q, cap, cur, rfl, _⟩
              · exact ⟨none, 0, by rw [hn], fun _ => hn⟩
              · exact ⟨_, _, rfl, fun h => by cases h⟩
            · rw [hll] at hb
              exact C'.mine 0 _ rfl b hb
          · rename_i hm
            split at hg
            · rename_i hfu
              obtain ⟨ao, hao, hnil⟩ := hfull hfu
              have hrdx := row_rds C1 ho
              refine (eff_appfull (v := (g1 o).v) (y := yv) ⟨ao, hao, hnil⟩ hrdx hXv hyv hrd hone heq hz h0 hb hb0).mono ?_
              rintro v' w' ⟨hf, hr, hd⟩
              refine Post.of k1 (post_rd F1 C1 ho hm hg hrepA (fun f hf' => ?_) ?_ hf (by rw [hll]; exact hr) (fun b hne hb' => ?_))
              · rcases List.mem_append.1 hf' with h | h
                · exact .inl h
                · exact .inr (hfs2 f h)
              · obtain ⟨_, ao', c, rfl, h3, h4, h5, _⟩ := hr
                rw [hll]
                exact ⟨ao', c, rfl, fun h => by have := h5 h; omega⟩
              · rcases hd b hb' with ⟨hn, ha⟩ | h
                · refine .inl ⟨?_, ha⟩
                  rw [hn, List.append_nil] at hne
                  exact hne
                · exact .inr h
            · cases hg
        split at h
        · simp [optA] at h
        · rename_i o' hty
          split at h
          · simp [optA] at h
          · rename_i hne
            split at h
            · rename_i e2 u' ys m' fu' ho'
              split at h
              · rename_i hmm
                split at h
                · rename_i zs hcast
                  obtain ⟨q, hq⟩ := castL hcast
                  subst q
                  simp only [cast_eq] at hq
                  subst hq
                  have hob' := F1.ob o'
                  rw [ho'] at hob'
                  refine go ys (g1 o').cs (g1 o').fs (g1 o').v (by rw [hYe, hty]; rfl) (row_rds C1 ho') hob'.1 ?_ h
                  rcases hmm with hfl | hmm
                  · rw [((RepL_flat u' hfl _ _ _).1 hob'.1).2]; exact FromR.nil
                  · exact FromR.inner ho' (by rcases hmm with rfl | rfl <;> simp)
                · simp [optA] at h
              · simp [optA] at h
            · simp [optA] at h
        · simp [optA] at h
      · simp [optA] at h
    · simp [optA] at h
  · simp [optA] at h
/-- A literal's elements, in their order. -/
theorem litElems_spec (hob : ∀ i, obP g i (S.ob i)) {e : TypeId} {u : Ty} : ∀ (vs : List (Nat × SV)) (j : Nat) (xs : List u.den), litElems S P e u vs j = some xs →
    ∃ cs fs, RepL (RepP u) xs cs fs ∧ FromR g S fs ∧ xs.length = vs.length ∧ (u.flat = true → fs = []) ∧
      ∀ (base : List Value) (place : Nat → Option (Nat × Nat)), (∀ i, place i = some (i * u.sz, u.sz)) → (j + vs.length) * u.sz ≤ base.length →
        Instr.fill place base.toArray (vs.map fun p => (p.1, encS g p.2)) = some (base.take (j * u.sz) ++ cs ++ base.drop ((j + vs.length) * u.sz)).toArray
  | [], j, xs, h => by
    simp only [litElems, Option.some.injEq] at h
    subst h
    exact ⟨[], [], ⟨rfl, rfl⟩, FromR.nil, rfl, fun _ => rfl, fun base place _ _ => by simp [Instr.fill]⟩
  | (i, v) :: vs, j, xs, h => by
    simp only [litElems] at h
    split at h
    · rename_i hij
      subst hij
      split at h
      · rename_i x hx
        obtain ⟨ys, hys, rfl⟩ := Option.map_eq_some_iff.1 h
        obtain ⟨ls, hls, hpk⟩ := Option.bind_eq_some_iff.1 hx
        obtain ⟨l1, l2, l3⟩ := leafsT_spec hls
        obtain ⟨pre, fs1, he, hrp, hfr, hfl⟩ := pack_spec hob u ls [] x hpk
        rw [List.append_nil] at he
        subst he
        obtain ⟨cs, fs, h1, h2, h3, h4, h5⟩ := litElems_spec hob vs (i + 1) ys hys
        have hc : (encL g ls).length = u.sz := RepP_len u x _ _ hrp
        refine ⟨encL g ls ++ cs, fs1 ++ fs, ⟨_, _, _, _, rfl, rfl, hrp, h1⟩, hfr.app h2, by simp [h3], fun hf => by rw [hfl hf, h4 hf]; rfl, fun base place hp hb => ?_⟩
        simp only [List.length_cons] at hb ⊢
        have hle : i * u.sz + u.sz ≤ base.length := by
          refine Nat.le_trans ?_ hb
          have : (i + 1) * u.sz ≤ (i + (vs.length + 1)) * u.sz := Nat.mul_le_mul_right _ (by omega)
          rwa [Nat.add_mul, Nat.one_mul] at this
        have hfc := fill_cons (cs := base) (us := encL g ls) (j := i) (off := i * u.sz) (v := encS g v) (rest := vs.map fun p => (p.1, encS g p.2)) (place := place) (by rw [hc]; exact hp i) (l1 g) (by rw [hc]; exact hle)
        rw [List.map_cons]
        show Instr.fill place _ ((i, encS g v) :: _) = _
        rw [hfc]
        have hlen : (base.take (i * u.sz) ++ encL g ls ++ base.drop (i * u.sz + (encL g ls).length)).length = base.length := by
          simp only [List.length_append, List.length_take, List.length_drop, hc]; omega
        rw [h5 _ place hp (by rw [hlen]; rw [show i + 1 + vs.length = i + (vs.length + 1) by omega]; exact hb)]
        congr 2
        have e1 : (i + 1) * u.sz = i * u.sz + u.sz := by rw [Nat.add_mul, Nat.one_mul]
        have e2 : i + 1 + vs.length = i + (vs.length + 1) := by omega
        have e3 : (base.take (i * u.sz) ++ encL g ls).length = (i + 1) * u.sz := by
          simp only [List.length_append, List.length_take, hc]; omega
        rw [e2, hc]
        have ha : (base.take (i * u.sz) ++ encL g ls ++ base.drop (i * u.sz + u.sz)).take ((i + 1) * u.sz) = base.take (i * u.sz) ++ encL g ls := by
          rw [← e3]; exact List.take_left ..
        have hb2 : (base.take (i * u.sz) ++ encL g ls ++ base.drop (i * u.sz + u.sz)).drop ((i + (vs.length + 1)) * u.sz) = base.drop ((i + (vs.length + 1)) * u.sz) := by
          have hk : (i + (vs.length + 1)) * u.sz = (base.take (i * u.sz) ++ encL g ls).length + ((i + (vs.length + 1)) * u.sz - (i + 1) * u.sz) := by
            rw [e3]
            have : (i + 1) * u.sz ≤ (i + (vs.length + 1)) * u.sz := Nat.mul_le_mul_right _ (by omega)
            omega
          have hz : (base.take (i * u.sz) ++ encL g ls).drop ((base.take (i * u.sz) ++ encL g ls).length + ((i + (vs.length + 1)) * u.sz - (i + 1) * u.sz)) = [] := List.drop_eq_nil_of_le (Nat.le_add_right _ _)
          rw [hk, List.drop_append, hz, List.nil_append, Nat.add_sub_cancel_left, List.drop_drop]
          congr 1
          rw [e3] at hk ⊢
          have : (i + 1) * u.sz ≤ (i + (vs.length + 1)) * u.sz := Nat.mul_le_mul_right _ (by omega)
          omega
        rw [ha, hb2]
        simp
      · cases h
    · cases h
end
end Go.Proofs.YthdgllldpfeelaaGreatDoor
/- An array copied onto another one. No condition. -/
set_option linter.unusedVariables false
set_option linter.unusedSimpArgs false
namespace Go.Proofs.YthdgllldpfeelaaGreatDoor
open Go
section
variable {P : Program} {ρ : Operand → Value} {w0 w : World} {D A : Nat → Prop} {L R : List Ent}
theorem eff_cpb {li b off n m sz c : Nat} {T dT sT : TypeId} {cs src : List Value} {d s : Operand} {ad : Addr} (C : Ctx w0 D A L R w) (hL : L[li]? = some (boxE false b T cs)) (hd : ρ d = .slice (some ⟨b, off, none⟩) n n) (hs : ρ s = .slice (some ad) m c) (hy : Rds (.slice (some ad) m c) m sz src w)
    (hmn : m ≤ n) (ho : off + src.length ≤ cs.length) (hone : src.all (·.oneCell') = true) (ht : elemSz P dT = some sz) :
    Eff P ρ (.call { callee := .builtin .copy, args := #[d, s], argTypes := #[dT, sT] }) w (fun v' w' => v' = .int .i64 ((m : Nat) : Int) ∧ Ctx w0 D A (L.set li (boxE false b T (splice cs off src))) R w') := by
  have hb : w.heap[b]? = some (.cells cs.toArray T (0, 0)) := C.okL li _ hL
  unfold elemSz at ht
  split at ht
  · rename_i e' hu
    obtain ⟨i, hi', hsz⟩ := Option.map_eq_some_iff.1 ht
    obtain ⟨hl, ao, c', he, h1, h2, h3, h4⟩ := hy
    cases he
    have hmin : Nat.min m n = m := Nat.min_eq_left hmn
    have hst := run_storeCells_at P b off T src 0 cs.toArray w hb (by simpa using ho) (by simpa using hone)
    simp only [Nat.add_zero, List.toList_toArray] at hst
    refine eff_runs (v := .int .i64 ((m : Nat) : Int)) (w' := w.setRow b (splice cs off src).toArray) ?_ ⟨rfl, ?_⟩
    · intro o ho'
      have hld : (loadCells ad (m * sz)).run P w = .ok src.toArray w := by
        have := run_loadCells_list (P := P) w ad src (fun j u hu => by obtain ⟨ad', ha, hc⟩ := h4 j u hu; cases ha; exact hc)
        rwa [hl] at this
      have hst' : (storeCells ⟨b, off, none⟩ src).run P w = .ok () (w.setRow b (splice cs off src).toArray) := by
        simpa [splice] using hst
      simp [execOp, ho', resolve, invoke, builtin, hd, hs, Builtin.copy_, run_underlying hu, Builtin.lenOf, Builtin.firstCells, sizeOf, typeInfo, hi', hsz, hmin, hld, hst', goInt]
    · refine ctx_set C hL (fr_setRow w b _) ?_ (fun x h => .inl h)
      show (w.setRow b _).heap[b]? = _
      exact setRow_heap w b _ _ T _ hb
  · cases ht
end
section
variable {P : Program} {g : Env} {γ : Ghost} {S : St} {n : Nat} {a : Act} {w0 w : World} {D A : Nat → Prop} {α : Type} {out : α} {K : St → SV → Option α}
theorem arr_cells {u : Ty} {n : Nat} (v : Vector u.den n) : (flatT (.arr n u)).cells v = v.toList.flatMap (flatT u).cells := by
  show (arL (flatT u).dflt n v).flatMap (flatT u).cells = _
  rw [arL_eq]
theorem vCp_cells {u : Ty} {n m : Nat} (v : Vector u.den n) (y : Vector u.den m) (h : m ≤ n) : (flatT (.arr n u)).cells (vCp v y) = (flatT (.arr m u)).cells y ++ ((flatT (.arr n u)).cells v).drop (m * u.sz) := by
  rw [arr_cells, arr_cells, arr_cells, ← flatT_sz u, flat_drop (flatT u) v.toList m]
  have : (vCp v y).toList = y.toList ++ v.toList.drop m := by
    simp only [vCp, Vector.toList, List.toList_toArray]
    rw [List.take_of_length_le (by simp; omega)]
  rw [this, List.flatMap_append]
theorem splice_part {cs cy : List Value} {off k N : Nat} (h1 : cy.length = k) (h2 : k ≤ N) : splice cs off (cy ++ ((cs.drop off).take N).drop k) = splice cs off cy ∨ cs.length < off + N := by
  rcases Nat.lt_or_ge cs.length (off + N) with h | h
  · exact .inr h
  · left
    have hl : (cy ++ ((cs.drop off).take N).drop k).length = N := by
      simp only [List.length_append, List.length_drop, List.length_take]; omega
    simp only [splice, hl, h1]
    rw [List.append_assoc, List.append_assoc, List.append_assoc, List.drop_take]
    congr 2
    rw [show cs.drop (off + N) = ((cs.drop off).drop k).drop (N - k) by rw [List.drop_drop, List.drop_drop]; congr 1; omega, List.take_append_drop, List.drop_drop]
theorem copy_spec (F : Fit g γ S n a) (C : Cx g S w0 D A w) {t t' : TypeId} {X Y : Operand} {s x : SV} (hX : opA S X = some s) (hY : opA S Y = some x) (h : copyS (optA α) P S t s x K = some out) :
    Eff P a.eval (.call { callee := .builtin .copy, args := #[X, Y], argTypes := #[t, t'] }) w (Post g γ S n a w0 D A K out) := by
  obtain ⟨e1, e2, e3⟩ := opA_spec F hX
  obtain ⟨f1, f2, f3⟩ := opA_spec F hY
  unfold copyS at h
  split at h
  · rename_i b off n1 c off2 m1
    split at h
    · rename_i T ls T2 ls2 hb hb2
      split at h
      · rename_i n' u v r1 m' u' y r2 hs1 hs2
        split at h
        · rename_i hc
          obtain ⟨rfl, rfl, hmn, hm63, hsz⟩ := hc
          split at h
          · rename_i y2 hy2
            obtain ⟨eT, hyy⟩ := castT_spec hy2
            have eu : u' = u := by injection eT
            subst eu
            have hyy : y = y2 := hyy
            subst hyy
            split at h
            · rename_i ls' hls
              obtain ⟨pre, old, post, q1, q2, q3, q4⟩ := splL_spec hls
              have hblt : b < S.obs.length := e3 b (by simp [refS, refV, refA])
              have hrd := asl_rds C hb2 hs2 hm63
              have Cc : Ctx w _ nob [boxE false (g b).b T (encL g ls)] [] w := ctx1 (E := boxE false (g b).b T (encL g ls)) (box_ok C hb)
              obtain ⟨pre2, e', hps⟩ := skipL_spec _ _ _ hs1
              have hcc := seg_cells g (pre := pre2) (seg := [.fl (.arr n' u') v]) (post := r1) (n := n' * u'.sz) hps (by simp [sizeL, At.sz, Ty.sz])
              rw [show pre2 ++ ([.fl (.arr n' u') v] ++ r1) = ls from e'.symm] at hcc
              have hcv : ((encL g ls).drop off).take (n' * u'.sz) = (flatT (.arr n' u')).cells v := by rw [hcc]; simp [encL, encA]
              obtain ⟨c1, c2⟩ := spl_cells g (pre := pre) (old := old) (post := post) (us := [.fl (.arr n' u') (vCp v y)]) q2 q3
              rw [← q1, ← q4] at c1
              rw [← q1] at c2
              have henc : encL g [.fl (.arr n' u') (vCp v y)] = (flatT (.arr m' u')).cells y ++ (((encL g ls).drop off).take (n' * u'.sz)).drop (m' * u'.sz) := by
                rw [hcv, ← vCp_cells v y hmn]; simp [encL, encA]
              have hylen : ((flatT (.arr m' u')).cells y).length = m' * u'.sz := by rw [(flatT _).len, flatT_sz]; rfl
              have hmul : m' * u'.sz ≤ n' * u'.sz := Nat.mul_le_mul_right _ hmn
              have htot : (encL g [At.fl (.arr n' u') (vCp v y)]).length = n' * u'.sz := by
                rw [encL_len]; simp [sizeL, At.sz, Ty.sz]
              rw [htot] at c2
              have hsp : splice (encL g ls) off ((flatT (.arr m' u')).cells y) = encL g ls' := by
                rcases splice_part (cs := encL g ls) (off := off) (N := n' * u'.sz) hylen hmul with hp | hp
                · rw [← hp, ← henc, c1]
                · omega
              refine (eff_cpb (li := 0) (dT := t) (sT := t') Cc rfl e1 f1 hrd hmn (by rw [hylen]; omega) (by simp only [List.all_eq_true]; exact fun x hx => (flatT _).one y x hx) hsz).mono ?_
              rintro v' w' ⟨rfl, C'⟩
              rw [hsp] at C'
              have hbe : entL g b (S.ob b) = boxE false (g b).b T (encL g ls) := by rw [hb]; rfl
              have hst := F.ob b
              rw [hb] at hst
              have hst : ls.all stor = true := hst
              have hrb := F.rb b T ls hb
              refine post_set (g' := g) F C hblt ⟨rfl, rfl⟩ (fun _ _ => rfl) h (by rw [hbe]; simpa using C'.fr) (C'.okL 0 _ rfl) (fun x hx => by rw [hbe]; exact hx) (by rw [hb]; rfl) ?_ (fun T' ls'' he => ?_) (fun e t xs m fu he => by cases he) rfl trivial (fun o ho => by cases ho)
              · show ls'.all stor = true
                rw [q1] at hst; rw [q4]
                simp only [List.all_append, Bool.and_eq_true] at hst ⊢
                exact ⟨⟨hst.1, rfl⟩, hst.2.2⟩
              · cases he
                intro o ho
                rw [q4] at ho
                simp only [List.flatMap_append, List.mem_append] at ho
                rcases ho with (ho | ho) | ho
                · exact hrb o (by rw [q1]; simp only [List.flatMap_append, List.mem_append]; exact .inl ho)
                · cases ho
                · exact hrb o (by rw [q1]; simp only [List.flatMap_append, List.mem_append]; exact .inr (.inr ho))
            · simp [optA] at h
          · simp [optA] at h
        · simp [optA] at h
      · simp [optA] at h
    · simp [optA] at h
  · simp [optA] at h
end
end Go.Proofs.YthdgllldpfeelaaGreatDoor
/- All acts, but for what calls do. No condition. -/
set_option linter.unusedVariables false
set_option linter.unusedSimpArgs false
namespace Go.Proofs.YthdgllldpfeelaaGreatDoor
open Go
section
variable {P : Program} {g g' g1 : Env} {γ : Ghost} {S S1 : St} {n : Nat} {a : Act} {w0 w w' : World} {D A : Nat → Prop} {α : Type} {K : St → SV → Option α} {out : α} {ρ : Operand → Value}
theorem Frozen.post (Z : Frozen g γ S S1 n a) {v : Value} (h : Post g γ S1 n a w0 D A K out v w') : Post g γ S n a w0 D A K out v w' := Post.of Z.kp h
theorem ctx_own {w' : World} {v : Value} {e sz m : Nat} {cs : List Value} (h : e < mB) (C : Ctx w nob nob ([] ++ [rowE v e sz m cs]) [] w') : Ctx w nob nob ([] ++ [ownE v e sz m cs]) [] w' := by
  refine ⟨C.fr, ?_, C.okR, ?_, ?_, ?_, C.src⟩
  · intro i E hE
    match i with
    | 0 => cases hE; exact (ownE_lt h).2 (C.okL 0 _ rfl)
    | i + 1 => simp at hE
  · intro i E hE
    match i with
    | 0 => cases hE; exact C.mine 0 (rowE v e sz m cs) rfl
    | i + 1 => simp at hE
  · intro i j E F hij hE hF
    match i, j with
    | 0, 0 => exact absurd rfl hij
    | i + 1, _ => simp at hE
    | 0, j + 1 => simp at hF
  · intro i j E F hE hF
    simp at hF
theorem slit_spec (F : Fit g γ S n a) (C : Cx g S w0 D A w) {t : TypeId} {m : Nat} {ps : Array (Nat × Operand)} {vs : List (Nat × SV)} {e sz by_ : Nat} {z : Value} {u : Ty} {xs : List u.den}
    (hv : parts S ps.toList = some vs) (he : elemInfo P t = some (e, sz, by_, some z)) (hc : sz = u.sz ∧ vs.length = m ∧ m * sz ≤ 16777216 ∧ m ≤ 16777216 ∧ (sliceZ P t m).isSome = true ∧ e < mB) (hl : litElems (freezeP S vs) P e u vs 0 = some xs)
    (hK : K ((freezeP S vs).add [.row e u xs .own false]) (.v (.a (.sl (freezeP S vs).obs.length))) = some out) :
    Eff P a.eval (.buildSlice t m ps) w (Post g γ S n a w0 D A K out) := by
  obtain ⟨rfl, rfl, hm, hm2, hz, hmB⟩ := hc
  obtain ⟨q1, q2⟩ := parts_spec F hv
  have Z := freezeP_spec vs F
  obtain ⟨cs, fs, h1, h2, h3, h4, h5⟩ := litElems_spec (g := g) Z.fit.ob vs 0 xs hl
  have hcl : cs.length = vs.length * u.sz := by rw [RepL_len (fun x c F h => RepP_len u x c F h) xs cs fs h1, h3]
  obtain ⟨base, hbase⟩ := Option.isSome_iff_exists.1 hz
  have hsl : sliceC P t vs.length ((ps.map fun (i, x) => (i, a.eval x)).toList) = some (e, u.sz, cs) := by
    rw [Array.toList_map, show List.map (fun (x : Nat × Operand) => match x with | (i, x) => (i, a.eval x)) ps.toList = vs.map fun p => (p.1, encS g p.2) from q1]
    unfold elemInfo at he
    split at he
    · rename_i e' hu
      obtain ⟨i, hi, hh⟩ := Option.map_eq_some_iff.1 he
      simp only [Prod.mk.injEq] at hh
      obtain ⟨rfl, hsz, _, _⟩ := hh
      unfold sliceZ at hbase
      simp only [hu, hi] at hbase
      obtain ⟨zz, hz1, hz2⟩ := Option.map_eq_some_iff.1 hbase
      unfold sliceC
      simp only [hu, hi]
      rw [if_neg (by rw [hsz]; omega)]
      simp only [hz1, Option.bind_some]
      have hbl : base.toList.length = vs.length * u.sz := by rw [← hz2]; simp [hsz]
      have := h5 base.toList (fun j => some (j * i.size, i.size)) (fun j => by rw [hsz]) (by rw [hbl, Nat.zero_add]; exact Nat.le_refl _)
      rw [← hz2] at this
      simp only [Nat.zero_add, Nat.zero_mul, List.take_zero, List.nil_append] at this
      rw [Array.toArray_toList] at this
      rw [this]
      simp only [Option.map_some, hsz, Option.some.injEq, Prod.mk.injEq, true_and]
      rw [List.drop_eq_nil_of_le (by simp [hsz])]
      simp
    · cases he
  have C1 := Z.cx _ _ _ _ C
  refine (post_row (P := P) (a := a) Z.fit C1 hK h1 h2 ((eff_slit (ctx0 w) hsl hcl (by omega)).mono ?_)).mono (fun v w' h => Z.post h)
  rintro v w' ⟨⟨b, rfl⟩, C'⟩
  exact ⟨⟨_, _, by rw [h3], fun h => by cases h⟩, by rw [h3]; exact ctx_own hmB C'⟩
theorem make_spec (F : Fit g γ S n a) (C : Cx g S w0 D A w) {t : TypeId} {X Y : Operand} {k k' : IntKind} {m c : Int} {e sz by_ : Nat} {z : Value} {u : Ty}
    (hX : opA S X = some (.v (.a (.fl (.int k) m)))) (hY : opA S Y = some (.v (.a (.fl (.int k') c)))) (he : elemInfo P t = some (e, sz, by_, some z)) (hc : sz = u.sz ∧ u.flat = true ∧ zeroD P e u = true ∧ e < mB)
    (h : (optA α).guard (0 ≤ m ∧ c = m ∧ m.toNat * by_ ≤ 140737488355328 ∧ m ≤ 9223372036854775807) inferInstance (K (S.add [.row e u (List.replicate m.toNat u.dflt) .own false]) (.v (.a (.sl S.obs.length)))) = some out) :
    Eff P a.eval (.makeSlice t X Y) w (Post g γ S n a w0 D A K out) := by
  obtain ⟨rfl, hfl, hzd, hmB⟩ := hc
  have hg : (0 ≤ m ∧ c = m ∧ m.toNat * by_ ≤ 140737488355328 ∧ m ≤ 9223372036854775807) ∧ K (S.add [.row e u (List.replicate m.toNat u.dflt) .own false]) (.v (.a (.sl S.obs.length))) = some out := by
    simp only [optA] at h
    split at h
    · rename_i hp; exact ⟨hp, h⟩
    · cases h
  obtain ⟨⟨h0, rfl, h1, h2⟩, hK⟩ := hg
  have hX' : a.eval X = .int k c := (opA_spec F hX).1
  have hY' : a.eval Y = .int k' c := (opA_spec F hY).1
  have hzc : z.cells.toList = (flatT u).cells (flatT u).dflt := by
    rw [flatT_dflt]
    unfold zeroD at hzd
    split at hzd
    · rename_i cs hcs
      have := sameVs_spec hzd
      rw [← this]
      unfold elemInfo at he
      split at he
      · rename_i e' hu
        obtain ⟨i, hi, hh⟩ := Option.map_eq_some_iff.1 he
        simp only [Prod.mk.injEq] at hh
        obtain ⟨rfl, _, _, hzz⟩ := hh
        unfold zeroC at hcs
        rw [hi] at hcs
        simp only [Option.bind_some, hzz, Option.map_some, Option.some.injEq] at hcs
        exact hcs
      · cases he
    · cases hzd
  refine post_row (fs := []) F C hK ((RepL_flat u hfl _ _ _).2 ⟨rfl, rfl⟩) FromR.nil ((eff_make (F := flatT u) (ctx0 w) hX' hY' (by rw [flatT_sz]; exact he) hzc h0 (by omega) h2).mono ?_)
  intro v w' C'
  have hok := C'.okL 0 _ rfl
  rw [flatT_dflt, flatT_sz] at C'
  refine ⟨?_, ctx_own hmB C'⟩
  rcases (hok : w'.ownsRow 0 e (flatT u).sz v _ _).2 with ⟨rfl, hn⟩ | ⟨q, cap, cur, rfl, _⟩
  · rw [flatT_dflt] at hn
    exact ⟨none, 0, by rw [hn], fun _ => hn⟩
  · rw [flatT_dflt]
    exact ⟨_, _, rfl, fun h => by cases h⟩
/-- A call of a function's value. -/
theorem eff_cl2 {f : FuncId} {x : Operand} {xs : Array Operand} {ts : Array TypeId} {K : Value → World → Prop} {A' fs caps B : List Value} (hA : xs.toList.map ρ = A') (hv : ρ x = .func (.func f) fs.toArray caps.toArray) (hf : enters P f = true) (hB : fs ++ A' ++ caps = B)
    (hc : Fn P f B w K) : Eff P ρ (.call { callee := .value x, args := xs, argTypes := ts }) w K := by
  intro o a next Q' ho he k
  have hr : (execOp ρ o).run P w = .ok (.enter f B.toArray) w := by
    subst hA hB
    simp only [execOp, ho, resolve, hv, Deferred.ofValue, Sem.run_bind, Sem.run_pure, Result.andThen_ok, invoke]
    have e : (fs.toArray ++ xs.map ρ) ++ caps.toArray = (fs ++ xs.toList.map ρ ++ caps).toArray := by
      apply Array.toList_inj.1; simp
    rw [e]
    exact run_callFunc hf _ _
  refine ⟨?_, fun ro => ⟨fun _ _ => trivial, ?_⟩⟩
  · unfold Oper.wp
    rw [he, hr, Oper.upon_enter]
    refine Calls.mono hc ?_
    rintro e w' ⟨v, rfl, hK⟩
    exact k v w' hK
  · rw [Oper.semAt_eq _ _ _ (by intro c; rw [ho]; simp), he, hr, Oper.uponIn_enter]
    refine ⟨fun _ => by decide, callsIn_wide.2 (Calls.mono hc ?_)⟩
    rintro e w' ⟨v, rfl, hK⟩
    exact k v w' hK
/-- A cut of a row of one's own. -/
theorem cutown_spec (F : Fit g γ S n a) (C : Cx g S w0 D A w) {t : TypeId} {X : Operand} {Lo Hi Mx : Option Operand} {o e : Nat} {u : Ty} {xs : List u.den} {fu : Bool} {lo hi mx : Option SV} {q : Qt}
    (hX : opA S X = some (.v (.a (.sl o)))) (ho : S.ob o = .row e u xs .own fu) (hl : opO (S.setOb o (.row e u xs .rd fu)) Lo = some lo) (hh : opO (S.setOb o (.row e u xs .rd fu)) Hi = some hi) (hm : opO (S.setOb o (.row e u xs .rd fu)) Mx = some mx)
    (hq : cutS P (S.setOb o (.row e u xs .rd fu)) t (.v (.a (.sl o))) lo hi mx = some q) (h : (optA α).guard q.p q.dp (K ((S.setOb o (.row e u xs .rd fu)).add q.news) q.v) = some out) :
    Eff P a.eval (.slice t X Lo Hi Mx) w (Post g γ S n a w0 D A K out) := by
  have holt := ob_lt (S := S) (i := o) (by rw [ho]; simp)
  obtain ⟨f1, f2, f3, f4⟩ := freeze1 F ho holt
  have hp : q.p ∧ K ((S.setOb o (.row e u xs .rd fu)).add q.news) q.v = some out := by
    simp only [optA] at h
    split at h
    · rename_i hp; exact ⟨hp, h⟩
    · cases h
  obtain ⟨e1, e2, e3⟩ := opA_spec F hX
  obtain ⟨g', L⟩ := cutS_spec f1 e1 hl hh hm (by simpa [St.setOb] using e3) hq hp.1
  obtain ⟨N', hr⟩ := L.run w0 D A w (f2 _ _ _ _ C)
  have C' := cx_add f1 L.ext N' (f2 _ _ _ _ C)
  exact eff_runs hr (Post.of f3 ⟨g', _, _, hp.2, rfl, L.fit, C', L.ok, L.rs, Kp.add _ L.ext⟩)
theorem own_take {w : World} {e sz n h : Nat} {v : Value} {cs : List Value} (hw : w.ownsRow 0 e sz v n cs) (hh : h ≤ n) : w.ownsRow 0 e sz (cutV v 0 h sz) h (cs.take (h * sz)) ∧ (cutV v 0 h sz).ownBlock = v.ownBlock ∧ SlV (cutV v 0 h sz) h := by
  have hl : (cs.take (h * sz)).length = h * sz := by rw [List.length_take, hw.1, Nat.min_eq_left (Nat.mul_le_mul_right _ hh)]
  rcases hw.2 with ⟨rfl, rfl⟩ | ⟨q, cap, cur, rfl, h1, h2, h3, h4, h5, h6⟩
  · obtain rfl : h = 0 := by omega
    exact ⟨⟨hl, .inl ⟨rfl, rfl⟩⟩, rfl, ⟨none, 0, rfl, fun _ => rfl⟩⟩
  · have e : cutV (.slice (some ⟨q, 0, none⟩) n cap) 0 h sz = .slice (some ⟨q, 0, none⟩) h cap := by simp [cutV, add_plain]
    rw [e]
    refine ⟨⟨hl, .inr ⟨q, cap, cur, rfl, h1, h2, by omega, h4, h5, ?_⟩⟩, rfl, ⟨_, _, rfl, fun h => by cases h⟩⟩
    rw [← h6, List.take_take, Nat.min_eq_left (Nat.mul_le_mul_right _ hh)]
/-- A row of one's own, cut where it lies. -/
theorem cutin_spec (F : Fit g γ S n a) (C : Cx g S w0 D A w) {t : TypeId} {X Y : Operand} {o e : Nat} {u : Ty} {xs : List u.den} {fu : Bool} {hi : Int} {p : Plan}
    (hX : opA S X = some (.v (.a (.sl o)))) (ho : S.ob o = .row e u xs .own fu) (hY : opA S Y = some (.v (.a (.fl (.int .i64) hi)))) (hsz : elemSz P t = some u.sz) (hmB : e < mB)
    (h : (optA α).guard (0 ≤ hi ∧ hi ≤ (xs.length : Int)) inferInstance (K (({ S.to p with mods := o :: (S.to p).mods, obs := (S.to p).obs.set o .gone } : St).add [.row e u (xs.take hi.toNat) .own false]) (.v (.a (.sl (S.to p).obs.length)))) = some out) :
    Eff P a.eval (.slice t X none (some Y) none) w (Post g γ S n a w0 D A K out) := by
  have holt := ob_lt (S := S) (i := o) (by rw [ho]; simp)
  have hp : (0 ≤ hi ∧ hi ≤ (xs.length : Int)) ∧ K (({ S.to p with mods := o :: (S.to p).mods, obs := (S.to p).obs.set o .gone } : St).add [.row e u (xs.take hi.toNat) .own false]) (.v (.a (.sl (S.to p).obs.length))) = some out := by
    simp only [optA] at h
    split at h
    · rename_i hp; exact ⟨hp, h⟩
    · cases h
  obtain ⟨⟨h0, h1⟩, hK⟩ := hp
  obtain ⟨H, hH⟩ : ∃ H : Nat, H = hi.toNat := ⟨_, rfl⟩
  have hHn : H ≤ xs.length := by omega
  rw [← hH] at hK
  have hob := F.ob o
  rw [ho] at hob
  obtain ⟨hrep, hsl, _⟩ := hob
  have hown : w.ownsRow 0 e u.sz (g o).v xs.length (g o).cs := by have := C.okL o; simp only [ho, entL] at this; exact (ownE_lt hmB).1 this
  obtain ⟨o1, o2, o3⟩ := own_take (h := H) hown hHn
  obtain ⟨F1, F2, ef, k1, k2⟩ := RepL_split (fun x c F h => RepP_len u x c F h) H xs _ _ hrep
  have hXe : a.eval X = (g o).v := (opA_spec F hX).1
  have hYe : a.eval Y = .int .i64 hi := (opA_spec F hY).1
  have hr : Runs P a.eval (.slice t X none (some Y) none) w (cutV (g o).v 0 H u.sz) w :=
    r_cut (rds_shp (rds_of_row hown)) hXe hsz (by rw [Option.map_some, hYe, hH]; exact hi_ok .i64 hi h0 h1) rfl
  have hlen : (xs.take H).length = H := by rw [List.length_take]; omega
  refine eff_runs hr (Post.of (kp_to (Kp.refl g S noD) p) (post_app (S := S.to p) (fit_to F p) (show Cx g (S.to p) w0 D A w from C) (cs := (g o).cs.take (H * u.sz)) (fs := F1) (show (S.to p).ob o = .row e u xs .own fu from ho) holt hK k1 ?_ ?_ (Fr.refl _ _) ?_ ?_))
  · intro f hf
    exact FromR.inner (S := S) ho (by simp) f (by rw [ef]; exact List.mem_append_left _ hf)
  · rw [hlen]; exact o3
  · rw [hlen]; exact (ownE_lt hmB).2 o1
  · rw [hlen]
    intro b hb
    exact .inl (by
      have : (cutV (g o).v 0 H u.sz).ownBlock = some b := hb
      rw [o2] at this
      exact this)
/-- What is asked of calls. -/
def CallOk (P : Program) (X : (R : Type) → Alg R → St → Nat → List SV → (St → SV → R) → R) : Prop :=
  ∀ {α : Type} {K : St → SV → Option α} {out : α} {g : Env} {γ : Ghost} {S : St} {n : Nat} {a : Act} {w0 w : World} {D A : Nat → Prop} {f : Nat} {xs : List SV}, X _ (optA α) S f xs K = some out →
    Fit g γ S n a → Cx g S w0 D A w → (∀ x ∈ xs, okS S x ∧ ∀ o ∈ refS x, o < S.obs.length) → Fn P f (xs.map (encS g)) w (Post g γ S n a w0 D A K out)
theorem typeArgs_enc (f : Nat) (xs : List SV) : (typeArgs P f xs).map (encS g) = xs.map (encS g) ∧ ((∀ x ∈ xs, okS S x ∧ ∀ o ∈ refS x, o < S.obs.length) → ∀ x ∈ typeArgs P f xs, okS S x ∧ ∀ o ∈ refS x, o < S.obs.length) := by
  unfold typeArgs
  split
  · rename_i fn hf
    constructor
    · apply List.ext_getElem
      · simp
      · intro i h1 h2
        simp only [List.getElem_map, List.getElem_zipIdx]
        split
        · exact (typedV_enc (P := P) (g := g) (S := S) _ _).1
        · rfl
    · intro h x hx
      obtain ⟨p, hp, rfl⟩ := List.mem_map.1 hx
      have hm : p.1 ∈ xs := by
        have := List.mem_zipIdx_iff_getElem?.1 hp
        exact List.mem_of_getElem? this
      have := h p.1 hm
      simp only
      split
      · obtain ⟨_, t2, t3⟩ := typedV_enc (P := P) (g := env0) (S := S) ‹TypeId› p.1
        exact ⟨t3 this.1, by rw [t2]; exact this.2⟩
      · exact this
  · exact ⟨rfl, id⟩
theorem opAs_ok (F : Fit g γ S n a) : ∀ {xs : List Operand} {vs : List SV}, opAs S xs = some vs → ∀ v ∈ vs, okS S v
  | [], vs, h => by simp [opAs] at h; subst h; simp
  | x :: xs, vs, h => by
    simp only [opAs, List.mapM_cons, Option.bind_eq_bind, Option.bind_eq_some_iff, Option.pure_def, Option.some.injEq] at h
    obtain ⟨v, hv, vs', h', rfl⟩ := h
    intro y hy
    rcases List.mem_cons.1 hy with rfl | hy
    · exact (opA_spec F hv).2.1
    · exact opAs_ok F (vs := vs') h' y hy
theorem conv_spec (F : Fit g γ S n a) (C : Cx g S w0 D A w) {s d e : TypeId} {X : Operand} {b : ByteArray} (hX : opA S X = some (.v (.a (.fl .str b)))) (hd : P.underlying d = some (.slice e)) (hb : bytesT P d s = true)
    (h : (optA α).guard (b.size ≤ 9223372036854775807) inferInstance (K (S.add [.row (mB + e) (.int .u8) (bytesOfStr b) .own false]) (.v (.a (.sl S.obs.length)))) = some out) : Eff P a.eval (.convert s d X) w (Post g γ S n a w0 D A K out) := by
  have hg : b.size ≤ 9223372036854775807 ∧ K (S.add [.row (mB + e) (.int .u8) (bytesOfStr b) .own false]) (.v (.a (.sl S.obs.length))) = some out := by
    simp only [optA] at h
    split at h
    · rename_i hp; exact ⟨hp, h⟩
    · cases h
  obtain ⟨hsz, hK⟩ := hg
  have hX' : a.eval X = .string b := (opA_spec F hX).1
  unfold bytesT at hb
  rw [hd] at hb
  split at hb
  · rename_i e' h1 h2
    cases h1
    split at hb
    · rename_i h3
      have hr := run_bytes_of_string (P := P) w s d e b h2 hd h3
      have hlen : (bytesOfStr b).length = b.size := by simp [bytesOfStr]
      obtain ⟨cap, hcap⟩ : ∃ cap, cap = grownCap w b.size 0 e := ⟨_, rfl⟩
      rw [← hcap] at hr
      have hge : b.size ≤ cap := by rw [hcap]; exact grownCap_ge w b.size 0 e
      have hle : cap ≤ 9223372036854775807 := by rw [hcap]; exact grownCap_le_maxLen w b.size 0 e hsz
      obtain ⟨W, hW⟩ : ∃ W, W = w.drew.alloc (.cells (bytesRow b cap) e ((bytesRow b cap).size, (bytesRow b cap).size + 1)) := ⟨_, rfl⟩
      rw [← hW] at hr
      have hrun : Runs P a.eval (.convert s d X) w (.slice (some ⟨w.heap.size, 0, none⟩) b.size cap) W := fun o ho => by
        simp only [execOp, ho, hX', Sem.run_bind, hr, Result.andThen_ok, Sem.run_pure]
      have hFr : Fr nob w W := by rw [hW]; exact (Fr.drawn w (w.drawn + 1)).then (Fr.alloc _ _)
      have hcs : ((bytesOfStr b).flatMap (flatT (.int .u8)).cells) = b.data.toList.map fun c => Value.int .u8 c.toNat := by
        simp only [bytesOfStr, List.flatMap_map]
        show b.data.toList.flatMap (fun c => [Value.int .u8 (c.toNat : Int)]) = _
        induction b.data.toList with
        | nil => rfl
        | cons c l ih => simp only [List.flatMap_cons, List.map_cons, ih]; rfl
      have hheap : W.heap[w.heap.size]? = some (.cells (bytesRow b cap) e ((bytesRow b cap).size, (bytesRow b cap).size + 1)) := by
        rw [hW]
        show (w.heap.push (.cells (bytesRow b cap) e ((bytesRow b cap).size, (bytesRow b cap).size + 1)))[w.heap.size]? = _
        simp
      have hrsz : (bytesRow b cap).size = cap := by
        unfold bytesRow
        simp only [Array.size_append, Array.size_map, Array.size_replicate]
        show b.data.size + (cap - b.size) = cap
        have : b.data.size = b.size := rfl
        omega
      have hsee : OwnR W (mB + e) (Ty.sz (.int .u8)) (.slice (some ⟨w.heap.size, 0, none⟩) b.size cap) (bytesOfStr b).length ((bytesOfStr b).flatMap (flatT (.int .u8)).cells) := by
        unfold OwnR
        rw [if_neg (by omega), hlen]
        refine ⟨by rw [flat_len, flatT_sz, hlen], .inr ⟨_, cap, _, _, rfl, by rw [Nat.add_sub_cancel_left]; exact hheap, Nat.le_refl _, hge, by simpa [maxLen] using hle, by rw [hrsz]; exact (Nat.mul_one _).symm, ?_⟩⟩
        rw [hcs]
        unfold bytesRow
        show (_ : List Value).take (b.size * 1) = _
        rw [Nat.mul_one, Array.toList_append, List.take_left' (by rw [Array.length_toList, Array.size_map]; rfl), Array.toList_map]
      refine post_row (P := P) (a := a) (e := mB + e) (u := .int .u8) F C hK ((RepL_flat (.int .u8) rfl _ _ _).2 ⟨rfl, rfl⟩) FromR.nil (eff_runs hrun ⟨⟨_, _, by rw [hlen], fun h => by cases h⟩, ctx_new (ctx0 w) hFr hsee (fun b' hb' => ?_)⟩)
      have hb' : (Value.slice (some ⟨w.heap.size, 0, none⟩) b.size cap).ownBlock = some b' := hb'
      simp only [Value.ownBlock, Option.some.injEq] at hb'
      omega
    · cases hb
  · cases hb
theorem loud_spec {Γ : List Con} {inl : List Nat} {H : Inl} {k : Nat} (hc : CallOk P (fun R A S f xs K => callF A P Γ k S f xs K)) (hi : CallOk P (fun R A S f xs K => H f (typeArgs P f xs) R A S K))
    (F : Fit g γ S n a) (C : Cx g S w0 D A w) {ty : TypeId} {op : Op} (h : loud (optA α) P Γ inl H k S ty op K = some out) : Eff P a.eval op w (Post g γ S n a w0 D A K out) := by
  unfold loud at h
  split at h
  · split at h
    · exact alloc_spec F C ‹_› h
    · simp [optA] at h
  · split at h
    · rename_i ls hls
      obtain ⟨v, hv, hl⟩ := Option.bind_eq_some_iff.1 hls
      split at h
      · exact box_spec F C hv hl h
      · simp [optA] at h
    · simp [optA] at h
  · split at h
    · exact store_spec F C ‹_› ‹_› h
    · simp [optA] at h
  · split at h
    · rename_i e sz by_ z vs he hv
      split at h
      · simp only at h
        split at h
        · rename_i hcc
          split at h
          · exact slit_spec F C hv he hcc ‹_› h
          · simp [optA] at h
        · simp [optA] at h
      · simp [optA] at h
    · simp [optA] at h
  · split at h
    · rename_i kk m kk' c e sz by_ z hX hY he
      split at h
      · split at h
        · exact make_spec F C hX hY he ‹_› h
        · simp [optA] at h
      · simp [optA] at h
    · simp [optA] at h
  · split at h
    · split at h
      · split at h
        · exact conv_spec F C ‹_› ‹_› ‹_› h
        · simp [optA] at h
      · simp [optA] at h
    · simp [optA] at h
  · split at h
    · rename_i o hX
      split at h
      · rename_i e u xs fu ho
        split at h
        · rename_i S2 y hpl
          split at h
          · rename_i hi sz hY hsz
            split at h
            · rename_i hs
              obtain ⟨hs, hmB⟩ := hs
              subst hs
              unfold St.cutPl at hpl
              split at hpl
              · cases hpl
                exact cutin_spec F C hX ho hY hsz hmB h
              · cases hpl
            · simp [optA] at h
          · simp [optA] at h
        · simp only at h
          split at h
          · rename_i l hh m hl hhh hm
            split at h
            · exact cutown_spec F C hX ho hl hhh hm ‹_› h
            · simp [optA] at h
          · simp [optA] at h
      · simp [optA] at h
    · simp [optA] at h
    · simp [optA] at h
  · split at h
    · rename_i s x t t' hx ht
      obtain rfl := arr_of_list hx
      obtain rfl := arr_of_list ht
      split at h
      · split at h
        · rename_i hs hy htt
          subst htt
          exact append_spec F C ‹_› ‹_› h
        · simp [optA] at h
      · simp [optA] at h
    · simp [optA] at h
  · split at h
    · rename_i s x t t' hx ht
      obtain rfl := arr_of_list hx
      obtain rfl := arr_of_list ht
      split at h
      · exact copy_spec F C ‹_› ‹_› h
      · simp [optA] at h
    · simp [optA] at h
  · rename_i x xs ts
    split at h
    · rename_i f fs cs vs hx hxs
      split at h
      · rename_i hen
        obtain ⟨e1, e2, e3⟩ := opA_spec F hx
        obtain ⟨a1, a2⟩ := opAs_spec F hxs
        have hargs : ∀ y ∈ (fs.map (fun a => SV.v (.a a)) ++ vs ++ cs.map (fun a => SV.v (.a a))), okS S y ∧ ∀ o ∈ refS y, o < S.obs.length := by
          intro y hy
          simp only [List.mem_append, List.mem_map] at hy
          rcases hy with (⟨z, hz, rfl⟩ | hy) | ⟨z, hz, rfl⟩
          · exact ⟨trivial, fun o ho => e3 o (by simp only [refS, refV, List.mem_append, List.mem_flatMap]; exact .inl ⟨z, hz, ho⟩)⟩
          · exact ⟨opAs_ok F hxs y hy, fun o ho => a2 o (List.mem_flatMap.2 ⟨y, hy, ho⟩)⟩
          · exact ⟨trivial, fun o ho => e3 o (by simp only [refS, refV, List.mem_append, List.mem_flatMap]; exact .inr ⟨z, hz, ho⟩)⟩
        have hB : fs.map (val1 g) ++ vs.map (encS g) ++ cs.map (val1 g) = (fs.map (fun a => SV.v (.a a)) ++ vs ++ cs.map (fun a => SV.v (.a a))).map (encS g) := by
          simp [List.map_append, List.map_map]
          constructor <;> (intro y _; rfl)
        split at h
        · exact eff_cl2 a1 e1 hen hB (hi h F C hargs)
        · exact eff_cl2 a1 e1 hen hB (hc h F C hargs)
      · simp [optA] at h
    · simp [optA] at h
  all_goals simp [optA] at h
end
end Go.Proofs.YthdgllldpfeelaaGreatDoor
