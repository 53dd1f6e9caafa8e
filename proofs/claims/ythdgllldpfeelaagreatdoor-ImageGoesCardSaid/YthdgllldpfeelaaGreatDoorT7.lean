/- Texts of the proof, put together: part 7. No condition. -/
import Derived.Test.YthdgllldpfeelaaGreatDoorT6
import Derived.Lib.AppendZeros
import Derived.Lib.Overlaps
import Derived.Laws.CopyRow
/- Functions walked in place; all contracts. No condition. -/
set_option linter.unusedVariables false
set_option linter.unusedSimpArgs false
namespace Go.Proofs.YthdgllldpfeelaaGreatDoor
open Go
theorem look_up : ∀ (l : List (Nat × SV)) (t : Nat), lookS (shiftUp l) (t + shift) = lookS l t
  | [], t => rfl
  | (i, v) :: l, t => by
    have ih := look_up l t
    simp only [shiftUp, List.map_cons, lookS] at ih ⊢
    by_cases e : i = t
    · subst e; simp
    · have : ¬ i + shift = t + shift := by omega
      simp [e, this, ih]
theorem look_up_lo : ∀ (l : List (Nat × SV)) (t : Nat), t < shift → lookS (shiftUp l) t = none
  | [], t, _ => rfl
  | (i, v) :: l, t, h => by
    have ih := look_up_lo l t h
    simp only [shiftUp, List.map_cons, lookS] at ih ⊢
    have : ¬ i + shift = t := by omega
    simp [this, ih]
theorem look_down : ∀ (l : List (Nat × SV)) (t : Nat), lookS (shiftDown l) t = lookS l (t + shift)
  | [], t => rfl
  | (i, v) :: l, t => by
    have ih := look_down l t
    simp only [shiftDown, List.filter_cons, lookS] at ih ⊢
    by_cases hi : shift ≤ i
    · rw [if_pos (by simpa using hi)]
      simp only [List.map_cons, lookS, ih]
      by_cases e : i - shift = t
      · have : i = t + shift := by omega
        simp [e, this]
      · have : ¬ i = t + shift := by omega
        simp [e, this]
    · rw [if_neg (by simpa using hi), ih]
      have : ¬ i = t + shift := by omega
      simp [this]
theorem numbered_lo (xs : List SV) : ∀ (b t : Nat), b + xs.length ≤ t → lookS (numbered b xs) t = none := by
  induction xs with
  | nil => intro b t _; rfl
  | cons x xs ih =>
    intro b t h
    simp only [numbered, lookS]
    simp only [List.length_cons] at h
    rw [if_neg (by simp; omega)]
    exact ih (b + 1) t (by omega)
theorem defs_lt {n : Nat} : ∀ {c : Code} {t : Nat}, okC n c = true → bit (defsC c) t = true → t < n := by
  have ops : ∀ {os : List Oper} {t : Nat}, okOps n os = true → bit (defsOps os) t = true → t < n := by
    intro os t
    induction os with
    | nil => intro _ h; simp [defsOps, bit] at h
    | cons o os ih =>
      intro hok h
      simp only [defsOps] at h
      rcases bit_or.1 h with h | h
      · cases hd : o.dst with
        | none => rw [hd] at h; simp [bit] at h
        | some d =>
          rw [hd] at h
          have h1 : d < n := okOps_spec hok o (List.mem_cons_self ..) d hd
          have h2 : bit (1 <<< d) t = true := h
          rw [bit, Nat.one_shiftLeft, Nat.testBit_two_pow] at h2
          have h3 : d = t := by simpa using h2
          exact h3 ▸ h1
      · simp only [okOps, List.all_cons, Bool.and_eq_true] at hok
        exact ih hok.2 h
  have zero : ∀ t, bit 0 t = true → False := fun t h => by simp [bit] at h
  intro c
  induction c with
  | region id os d => intro t hok h; exact ops hok h
  | seq a b iha ihb => intro t hok h; simp only [okC, Bool.and_eq_true] at hok; rcases bit_or.1 h with h | h; exact iha hok.1 h; exact ihb hok.2 h
  | cond c a b iha ihb => intro t hok h; simp only [okC, Bool.and_eq_true] at hok; rcases bit_or.1 h with h | h; exact iha hok.1 h; exact ihb hok.2 h
  | block i b ih => intro t hok h; exact ih hok h
  | loop b ih => intro t hok h; exact ih hok h
  | scope b ih => intro t hok h; exact ih hok h
  | rangeFunc f ps x y ihx ihy =>
    intro t hok h
    simp only [okC, Bool.and_eq_true] at hok
    obtain ⟨⟨⟨⟨hps, hx⟩, hy⟩, _⟩, _⟩ := hok
    have fold : ∀ (l : List Nat) (b : Nat), bit (l.foldl (fun x p => x ||| (1 <<< p)) b) t = true → bit b t = true ∨ t ∈ l := by
      intro l
      induction l with
      | nil => intro b h; exact .inl h
      | cons p l ih =>
        intro b h
        rcases ih _ h with h | h
        · rcases bit_or.1 h with h | h
          · exact .inl h
          · refine .inr ?_
            rw [bit, Nat.one_shiftLeft, Nat.testBit_two_pow] at h
            have : p = t := by simpa using h
            rw [this]; exact List.mem_cons_self ..
        · exact .inr (List.mem_cons_of_mem _ h)
    rcases bit_or.1 h with h | h
    · rcases bit_or.1 h with h | h
      · rcases fold _ _ h with h | h
        · exact (zero t h).elim
        · have := Array.all_eq_true'.1 hps t (by simpa using h)
          simpa using this
      · exact ihx hx h
    · exact ihy hy h
  | _ => intro t hok h; exact (zero t h).elim
theorem results_ok {S : St} {l : List (Nat × SV)} {r : SV} (h : results l = some r) (hk : ∀ p ∈ l, okS S p.2) : okS S r := by
  have key : ∀ {l : List (Nat × SV)} {vs : List V1}, vsOf l = some vs → (∀ p ∈ l, okS S p.2) → ∀ x ∈ vs, okV S x := by
    intro l
    induction l with
    | nil => intro vs h _ x hx; simp only [vsOf, Option.some.injEq] at h; subst h; cases hx
    | cons p l ih =>
      intro vs h hk
      obtain ⟨t, v⟩ := p
      cases v with
      | tup xs => simp [vsOf] at h
      | v y =>
        simp only [vsOf, Option.map_eq_some_iff] at h
        obtain ⟨us, hu, rfl⟩ := h
        intro x hx
        rcases List.mem_cons.1 hx with rfl | hx
        · exact hk _ (List.mem_cons_self ..)
        · exact ih hu (fun p hp => hk p (List.mem_cons_of_mem _ hp)) x hx
  match l, h with
  | [], h =>
    have h : (vsOf []).map SV.tup = some r := h
    obtain ⟨vs, hv, rfl⟩ := Option.map_eq_some_iff.1 h; exact key hv hk
  | [(t, v)], h => simp only [results, Option.some.injEq] at h; subst h; exact hk _ (List.mem_cons_self ..)
  | p :: q :: l, h =>
    have h : (vsOf (p :: q :: l)).map SV.tup = some r := h
    obtain ⟨vs, hv, rfl⟩ := Option.map_eq_some_iff.1 h; exact key hv hk
section
variable {P : Program} {Γ : List Con} {inl : List Nat} {bk : List Bk}
theorem inl_ok (hm : P.follows .mixedOrders = true) (hbk : ∀ B ∈ bk, BkOk P B) {k : Nat} (hc : CallOk P (fun R A S f xs K => callF A P Γ k S f xs K)) :
    ∀ d, CallOk P (fun R A S f xs K => inlN P Γ inl bk k d f (typeArgs P f xs) R A S K) := by
  intro d
  induction d with
  | zero =>
    intro α K out g γ S n a w0 w D A f xs h
    simp [inlN, optA] at h
  | succ d ih =>
    intro α K out g γ S n a w0 w D A f xs h F C hxs
    obtain ⟨t1, t2⟩ := typeArgs_enc (P := P) (g := g) (S := S) f xs
    have hxs' := t2 hxs
    rw [← t1]
    simp only [inlN] at h
    generalize typeArgs P f xs = ys at h hxs' ⊢
    split at h
    · rename_i fn hf
      split at h
      · rename_i body hb
        split at h
        · rename_i hg
          rw [Bool.and_eq_true] at hg
          obtain ⟨hg, hgap⟩ := hg
          simp only [goodF, hf, hb, Bool.and_eq_true, decide_eq_true_eq] at hg
          obtain ⟨⟨hok, hsh⟩, hlen⟩ := hg
          obtain ⟨args, hargs⟩ : ∃ args, args = ys.map (encS g) := ⟨_, rfl⟩
          have hal : args.length = ys.length := by rw [hargs]; simp
          rw [← hargs]
          obtain ⟨γ1, gk, gds, glo⟩ : ∃ γ1 : Ghost, (∀ t sv, lookS S.slots t = some sv → γ1.f (t + shift) = encS g sv) ∧ γ1.ds = [] ∧ γ1.lo = w.heap.size := by
            refine ⟨⟨fun t => if rG + shift ≤ t then γ.f (t - shift) else if rG ≤ t then undef else match lookS S.slots (t - shift) with | some sv => encS g sv | none => undef, [], w.heap.size, fun t ht => ?_⟩, fun t sv h => ?_, rfl, rfl⟩
            · by_cases h : rG + shift ≤ t
              · rw [if_pos h]
                have h1 := γ.gp (t - shift) (by omega)
                rwa [← Nat.mod_eq_sub_mod (show t ≥ shift by omega)] at h1
              · rw [if_neg h, if_pos ht]; exact .inl rfl
            · have hb : t + shift < rG ∨ rG ≤ t := by
                have := List.all_eq_true.1 hgap _ (look_mem h)
                simpa using this
              simp only
              by_cases hr : rG ≤ t
              · rw [if_pos (by omega), Nat.add_sub_cancel]
                have := F.sl t sv h
                rwa [if_neg (by simp only [rG] at hr; omega)] at this
              · rw [if_neg (by omega), if_neg (by omega), Nat.add_sub_cancel, h]
          obtain ⟨S1, hS1⟩ : ∃ S1 : St, S1 = { S with slots := numbered 0 ys ++ shiftUp S.slots } := ⟨_, rfl⟩
          rw [← hS1] at h
          have lo : ∀ {t : Nat}, t < shift → lookS S1.slots t = lookS (numbered 0 ys) t := fun {t} ht => by
            rw [hS1]
            show lookS (numbered 0 ys ++ shiftUp S.slots) t = _
            rw [look_app, look_up_lo _ _ ht]; simp
          have hi : ∀ t, lookS S1.slots (t + shift) = lookS S.slots t := fun t => by
            rw [hS1]
            show lookS (numbered 0 ys ++ shiftUp S.slots) (t + shift) = _
            rw [look_app, numbered_lo ys 0 (t + shift) (by omega), look_up]; simp
          have num : ∀ {t : Nat} {sv : SV}, lookS (numbered 0 ys) t = some sv → ys[t]? = some sv := fun {t sv} h => by
            have := look_numbered ys 0 t
            rw [Nat.zero_add] at this
            rw [← this]; exact h
          have cases_ : ∀ {t : Nat} {sv : SV}, lookS S1.slots t = some sv → (t < shift ∧ ys[t]? = some sv) ∨ (∃ u, t = u + shift ∧ lookS S.slots u = some sv) := fun {t sv} h => by
            rcases Nat.lt_or_ge t shift with ht | ht
            · rw [lo ht] at h; exact .inl ⟨ht, num h⟩
            · obtain ⟨u, rfl⟩ : ∃ u, t = u + shift := ⟨t - shift, by omega⟩
              rw [hi] at h
              exact .inr ⟨u, rfl, h⟩
          have F1 : Fit g γ1 S1 fn.ntmps (startA fn args) := by
            refine ⟨start_size (by omega), hsh, gds.symm, fun t sv h => ?_, by rw [hS1]; exact F.ob, fun t sv h => ?_, fun t sv h => ?_, by rw [hS1]; exact F.rb⟩
            · rcases cases_ h with ⟨ht, hy⟩ | ⟨u, rfl, hu⟩
              · have hlt := (List.getElem?_eq_some_iff.1 hy).1
                rw [if_pos ht, start_get (by omega), hargs, List.getElem?_map, hy]; rfl
              · rw [if_neg (by omega)]
                exact gk u sv hu
            · rcases cases_ h with ⟨ht, hy⟩ | ⟨u, rfl, hu⟩
              · have := (hxs' sv (List.mem_of_getElem? hy)).1
                rw [hS1]; cases sv <;> exact this
              · have := F.ok u sv hu
                rw [hS1]; cases sv <;> exact this
            · rcases cases_ h with ⟨ht, hy⟩ | ⟨u, rfl, hu⟩
              · have := (hxs' sv (List.mem_of_getElem? hy)).2
                rw [hS1]; exact this
              · have := F.rs u sv hu
                rw [hS1]; exact this
          have C1 : Cx g S1 w0 D A w := by rw [hS1]; exact C
          refine enter_spec hf hb ?_
          refine exec_sound (Γ := Γ) (inl := inl) (bk := bk) (H := inlN P Γ inl bk k d) (k := k) hm hc ih hbk body none [] (resBits fn) 0 hok (.inl rfl) h F1 (cx_self C1) ⟨by rw [glo]; exact Nat.le_refl _, [], by rw [gds]; rfl, List.Pairwise.nil, fun _ h => by cases h⟩ (fun g' γ' S' e a' w' h1 F' C' M' hf' K' => ?_)
          have fin : ∀ S2 v, withRes P fn S' = some S2 → results S2.slots = some v → K { S' with slots := shiftDown S'.slots } v = some out → bodyPostM (FR none) 3 P fn (fun e w' => ∃ v, e = .returned v ∧ Post g γ S n a w0 D A K out v w') .ret a' w' := by
            intro S2 v hw hv hk
            obtain ⟨_, Ds, d1, d2, d3⟩ := M'
            have hlo : γ'.lo = w.heap.size := by rw [hf'.lo, glo]
            show LeavesInM (FR none) 3 P fn a'.tmps _ a'.defers .returning w'
            rw [F'.defers, d1]
            refine leaves_marks Ds w' d2 (fun D' hD' => by rw [← hlo]; exact d3 D' hD') C' (fun w2 C2 => ?_)
            unfold withRes at hw
            split at hw
            · rename_i hsz
              obtain ⟨l, hl, rfl⟩ := Option.map_eq_some_iff.1 hw
              have key := fun gf h1 h2 => resGo_spec F' C2 gf h1 h2 fn.results.toList fn.resultTypes.toList 0 l (by simpa using hsz) hl
              have ld : ∀ (t : Nat) (ty : TypeId) (v : Value), (Instr.loadAt ty (a'.tmps.getD t undef)).run P w2 = .ok v w2 → (do loadVar ty (← asAddr (a'.tmps.getD t undef)) : Sem Value).run P w2 = .ok v w2 := by
                intro t ty v h
                generalize a'.tmps.getD t undef = x at h ⊢
                unfold Instr.loadAt Instr.sureAddr at h
                split at h
                · rename_i ad; simpa [asAddr] using h
                · simp [Result.andThen] at h
              obtain ⟨RO, hlen', _⟩ := key (fun r => match r with | .tmp t => pure (a'.tmps.getD t undef) | .cell u ty => do loadVar ty (← asAddr (a'.tmps.getD u undef))) (fun t => rfl) ld
              obtain ⟨r1, _, r3⟩ := results_spec (g := g') hv
              have keep : ∀ t, lookS S'.slots (t + shift) = lookS S.slots t := fun t => by
                rw [K'.slots (t + shift) (fun hb => by have := defs_lt hok hb; omega), hi]
              refine ⟨one1 (l.map fun p => encS g' p.2), ?_, _, rfl, g', _, v, hk, r1.symm, ?_, (show Cx g' S' w0 D A w2 from cf_then C1 C2), ?_, ?_, ?_⟩
              · have e : fn.results = fn.results.toList.toArray := by simp
                unfold Go.results
                rw [e]
                simp only [List.mapM_toArray, Sem.run_bind, Sem.run_map]
                rw [(key _ (fun t => rfl) ld).2.2]
                simp only [Result.andThen_ok, Sem.run_pure]
                generalize (l.map fun p => encS g' p.2) = vs
                match vs with
                | [] => rfl
                | [v] => rfl
                | _ :: _ :: _ => simp [one1]
              · refine ⟨F.size, F.lo, F.defers, fun t sv h => ?_, F'.ob, fun t sv h => ?_, fun t sv h => ?_, F'.rb⟩
                · have h' : lookS (shiftDown S'.slots) t = some sv := h
                  rw [look_down] at h'
                  obtain ⟨u, hu⟩ : ∃ u, u = t + shift := ⟨_, rfl⟩
                  have hu1 : ¬ u < shift := by rw [hu]; exact Nat.not_lt.2 (Nat.le_add_left _ _)
                  have hu2 : u - shift = t := by rw [hu]; exact Nat.add_sub_cancel ..
                  have h'' : lookS S'.slots u = some sv := by rw [hu]; exact h'
                  have h2 := F'.sl u sv h''
                  rw [if_neg hu1, hf'.f, hu] at h2
                  rw [keep] at h'
                  rw [gk t sv h'] at h2
                  have h3 := F.sl t sv h'
                  rwa [h2] at h3
                · have h' : lookS (shiftDown S'.slots) t = some sv := h
                  rw [look_down] at h'
                  have := F'.ok _ sv h'
                  cases sv <;> exact this
                · have h' : lookS (shiftDown S'.slots) t = some sv := h
                  rw [look_down] at h'
                  exact F'.rs (t + shift) sv h'
              · have := results_ok (S := S') hv RO.ok
                cases v <;> exact this
              · exact r3 _ RO.rs
              · have hl0 : S1.obs.length = S.obs.length := by rw [hS1]
                refine ⟨by have := K'.len; rwa [hl0] at this, fun i hi => K'.vb i (by rw [hl0]; exact hi), fun i hi hm => ?_, fun i hi => K'.mods i (by rw [hS1]; exact hi), fun t _ => ?_, fun i hi => ?_⟩
                · have := K'.same i (by rw [hl0]; exact hi) hm
                  rw [hS1] at this
                  exact this
                · show lookS (shiftDown S'.slots) t = _
                  rw [look_down, keep]
                · have := K'.rows i (by rw [hl0]; exact hi)
                  rw [hS1] at this
                  exact this
            · cases hw
          cases e with
          | exit i => simp [optA] at h1
          | normal =>
            simp only at h1
            split at h1
            · rename_i S2 h2
              split at h1
              · rename_i v hv; exact fin S2 v h2 hv h1
              · simp [optA] at h1
            · simp [optA] at h1
          | ret =>
            simp only at h1
            split at h1
            · rename_i S2 h2
              split at h1
              · rename_i v hv; exact fin S2 v h2 hv h1
              · simp [optA] at h1
            · simp [optA] at h1
        · simp [optA] at h
      · simp [optA] at h
    · simp [optA] at h
/-- Every function that may be walked has its contract. -/
theorem mkCon_ok (hm : P.follows .mixedOrders = true) (hbk : ∀ B ∈ bk, BkOk P B) (hΓ : ∀ c ∈ Γ, ConOk P c) {f : Nat} {pat : NSh} {c : Cls} {pl : Plan} (hg : goodF P f pat.slots.length = true) : ConOk P (mkCon P Γ inl bk f pat c pl) := by
  have hg' := hg
  unfold goodF at hg
  split at hg
  · rename_i fn hf
    split at hg
    · rename_i body hb
      unfold mkCon
      simp only [hf, hb]
      exact runF_ok hm hbk (fun k => callF_spec hΓ) (fun k => inl_ok hm hbk (callF_spec hΓ) _) hf hb hg'
    · cases hg
  · cases hg
end
end Go.Proofs.YthdgllldpfeelaaGreatDoor
/- Names for what walks compute with. No condition. -/
set_option linter.unusedVariables false
namespace Go.Proofs.YthdgllldpfeelaaGreatDoor
open Go
abbrev ieq (a b : Int) : Bool := a == b
abbrev ine (a b : Int) : Bool := a != b
abbrev ilt (a b : Int) : Bool := decide (a < b)
abbrev ile (a b : Int) : Bool := decide (a ≤ b)
abbrev igt (a b : Int) : Bool := decide (a > b)
abbrev ige (a b : Int) : Bool := decide (a ≥ b)
abbrev beq (a b : Bool) : Bool := a == b
abbrev bor (a b : Bool) : Bool := a || b
abbrev andNotK (k : IntKind) (a b : Int) : Int := k.wrap (BitVec.ofInt k.bits a &&& ~~~(BitVec.ofInt k.bits b)).toNat
abbrev blen (s : ByteArray) : Int := (s.size : Int)
abbrev llen {α : Type} (l : List α) : Int := (l.length : Int)
abbrev lset {α : Type} (l : List α) (i : Int) (x : α) : List α := l.set i.toNat x
abbrev ltake {α : Type} (h : Int) (l : List α) : List α := l.take h.toNat
abbrev ldrop {α : Type} (h : Int) (l : List α) : List α := l.drop h.toNat
abbrev lrep {α : Type} (n : Int) (x : α) : List α := List.replicate n.toNat x
abbrev scut (s : ByteArray) (l h : Int) : ByteArray := s.extract l.toNat h.toNat
abbrev str0 : ByteArray := ⟨#[]⟩
abbrev zeros (n : Nat) : ByteArray := ⟨(List.replicate n 0).toArray⟩
abbrev nz (b : Int) : Prop := b ≠ 0
abbrev nn (b : Int) : Prop := 0 ≤ b
abbrev inR (i n : Int) : Prop := 0 ≤ i ∧ i < n
abbrev catOk (a b : ByteArray) : Prop := a.size + b.size ≤ 9223372036854775807
abbrev cutOk (l h n : Int) : Prop := 0 ≤ l ∧ l ≤ h ∧ h ≤ n
abbrev cutOk4 (l h n m : Int) : Prop := 0 ≤ l ∧ l ≤ h ∧ h ≤ n ∧ m = h
abbrev tkOk (h n : Int) : Prop := 0 ≤ h ∧ h ≤ n
abbrev appOk {α : Type} (a b : List α) (y : Nat) : Prop := (a.length + b.length) * y ≤ 140737488355328
abbrev mkOk (n c : Int) (y : Nat) : Prop := 0 ≤ n ∧ c = n ∧ n.toNat * y ≤ 140737488355328 ∧ n ≤ 9223372036854775807
abbrev lenOk (b : ByteArray) : Prop := b.size ≤ 9223372036854775807
abbrev guardO {α : Type} (p : Prop) [Decidable p] (x : Option α) : Option α := if p then x else none
theorem guardO_some {α : Type} {p : Prop} [Decidable p] {x : Option α} {y : α} : guardO p x = some y ↔ p ∧ x = some y := by
  unfold guardO
  split <;> simp_all
theorem guardO_pos {α : Type} {p : Prop} [Decidable p] {x : Option α} (h : p) : guardO p x = x := if_pos h
theorem forall_nil {P : Program} : ∀ c ∈ ([] : List Con), ConOk P c := fun c h => by cases h
theorem forall_cons {P : Program} {c : Con} {l : List Con} (h : ConOk P c) (hl : ∀ c ∈ l, ConOk P c) : ∀ d ∈ c :: l, ConOk P d := fun d hd => by
  rcases List.mem_cons.1 hd with rfl | hd
  · exact h
  · exact hl d hd
theorem con_of {P : Program} {a b : Con} (e : a = b) (h : ConOk P a) : ConOk P b := e ▸ h
end Go.Proofs.YthdgllldpfeelaaGreatDoor
/- Contracts of functions that are shown apart. No condition. -/
set_option linter.unusedVariables false
set_option linter.unusedSimpArgs false
namespace Go.Proofs.YthdgllldpfeelaaGreatDoor
open Go
theorem kp_none {g : Env} {S : St} {w : World} : Kp g { S with slots := [], mods := [] } (fun _ => True) g { S with slots := [], mods := [] } := Kp.refl _ _ _
theorem fiP_keys : ∀ {xs : List (Nat × SSh)} {ds ds' : List Dyn} {ys : List (Nat × SV)}, fiList (fiP fiS) xs ds = some (ys, ds') → ys.map (·.1) = xs.map (·.1)
  | [], ds, ds', ys, h => by simp only [fiList, Option.some.injEq, Prod.mk.injEq] at h; obtain ⟨rfl, _⟩ := h; rfl
  | x :: xs, ds, ds', ys, h => by
    simp only [fiList] at h
    split at h
    · rename_i y ds1 h1
      split at h
      · rename_i h2
        simp only [Option.some.injEq, Prod.mk.injEq] at h
        obtain ⟨rfl, _⟩ := h
        have e : y.1 = x.1 := by
          simp only [fiP, Option.map_eq_some_iff] at h1
          obtain ⟨_, _, h1⟩ := h1
          simp only [Prod.mk.injEq] at h1
          rw [← h1.1]
        simp [fiP_keys h2, e]
      · cases h
    · cases h
theorem pat_keys {pat : NSh} {x : HL pat.codes} {S : St} (h : patSt pat x = some S) : S.slots.map (·.1) = pat.slots.map (·.1) := by
  unfold patSt at h
  obtain ⟨N, hN, rfl⟩ := Option.map_eq_some_iff.1 h
  unfold fiN at hN
  split at hN
  · rename_i sl ds1 h1
    split at hN
    · obtain ⟨⟨os, d⟩, _, rfl⟩ := Option.map_eq_some_iff.1 hN
      simp only [fillB]
      simpa using fiP_keys h1
    · cases hN
  · cases hN
/-- A contract that knows of no variable of the package. -/
theorem con_plain {P : Program} {c : Con} (hk : ∀ t ∈ c.pat.slots.map (·.1), t < rG)
    (h : ∀ (k : Nat) (x : HL c.pat.codes) (y : DenL (c.out.map NSh.codes)) (S : St), c.f k x = some y → patSt c.pat x = some S → S.slots.map (·.1) = List.range S.slots.length →
    ∀ (g : Env) (w : World) (D A : Nat → Prop), Cal g S → Cx g S w D A w →
      Fn P c.fn (S.slots.map fun p => encS g p.2) w (fun v w' => ∃ (i : Nat) (ds : List Dyn) (s : NSh) (N : Nst) (r : SV) (g' : Env), (∀ (R : Type) (f : Nat → List Dyn → R), elimL (c.out.map NSh.codes) y f = f i ds) ∧ c.out[i]? = some s ∧ fiN s ds = some N ∧
        results N.slots = some r ∧ v = encS g' r ∧ nrmS r = true ∧ (∀ o ∈ refS r, o < (afterS S N).obs.length) ∧ Cal g' (afterS S N) ∧ Cx g' (afterS S N) w D A w' ∧ Kp g { S with slots := [], mods := [] } (fun _ => True) g' { afterS S N with mods := N.boxes.map (·.1) })) : ConOk P c := by
  intro k x y S m gs hrun hpat hkeys hgb g w D A CAL C hglob
  have hgs : gs = [] := by
    cases gs with
    | nil => rfl
    | cons b gs =>
      have : rG + b ∈ c.pat.slots.map (·.1) := by
        rw [← pat_keys hpat, hkeys]
        simp
      have := hk _ this
      omega
  subst hgs
  rw [List.map_nil, List.append_nil] at hkeys
  have hm : S.slots.length = m := by
    have := congrArg List.length hkeys
    simpa using this
  rw [List.take_of_length_le (by omega)]
  exact h k x y S hrun hpat (by rw [hkeys, hm]) g w D A CAL C
/-- Numbers, texts and arrays in; one of these out; memory as it was. -/
theorem con_lib1 {P : Program} {f : Nat} {pat : NSh} {t : Ty} {F : Nat → HL pat.codes → Option t.den} (hbx : pat.boxes = []) (hnw : pat.news = []) (hk : ∀ t ∈ pat.slots.map (·.1), t < rG)
    (h : ∀ k x y S w, F k x = some y → patSt pat x = some S → Fn P f (S.slots.map fun p => encS env0 p.2) w (fun v w' => v = val1 env0 (.fl t y) ∧ Fr nob w w')) :
    ConOk P ⟨f, pat, [⟨[(rB, .v (.a (.fl t)))], [], []⟩], F⟩ := by
  refine con_plain hk ?_
  intro k x y S hrun hpat hkeys g w D A CAL C
  have hobs : S.obs = [] := by
    unfold patSt at hpat
    obtain ⟨N, hN, rfl⟩ := Option.map_eq_some_iff.1 hpat
    unfold fiN at hN
    split at hN
    · rw [hbx, hnw] at hN
      simp only [fiList] at hN
      simp only [Option.map_some, Option.some.injEq] at hN
      rw [← hN]
      rfl
    · cases hN
  have harg : (S.slots.map fun p => encS g p.2) = S.slots.map fun p => encS env0 p.2 := by
    apply List.map_congr_left
    intro p hp
    refine encS_ext _ (fun o ho => ?_)
    have := CAL.rs p hp o ho
    rw [hobs] at this
    simp at this
  have hy : F k x = some y := hrun
  rw [harg]
  refine Calls.mono (h k x y S w hy hpat) ?_
  rintro e w' ⟨v, rfl, rfl, hfr⟩
  have hN : fiN ⟨[(rB, .v (.a (.fl t)))], [], []⟩ [⟨t, y⟩] = some ⟨[(rB, .v (.a (.fl t y)))], [], []⟩ := by
    have key : ∀ z : t.den, fiN ⟨[(rB, .v (.a (.fl t)))], [], []⟩ [⟨t, z⟩] = some ⟨[(rB, .v (.a (.fl t z)))], [], []⟩ := fun z => by
      have hc : castT (a := t) (b := t) z = some z := castT_self z
      simp only [fiN, fiList, fiP, fiS, fiV, fiA, hc, Option.map_some]
    exact key y
  refine ⟨_, rfl, 0, [⟨t, y⟩], _, _, .v (.a (.fl t y)), g, fun R q => rfl, rfl, hN, rfl, ?_, rfl, (fun o ho => by cases ho), ⟨fun i => ?_, fun p hp => ?_, fun p hp o ho => ?_, fun i T ls hi => ?_⟩, ?_, ?_⟩
  · cases t <;> rfl
  · have : (afterS S ⟨[(rB, .v (.a (.fl t y)))], [], []⟩).ob i = S.ob i := by simp [afterS, St.ob]
    rw [this]; exact CAL.ob i
  · simp only [afterS, List.mem_singleton] at hp; subst hp; rfl
  · simp only [afterS, List.mem_singleton] at hp; subst hp; cases ho
  · have : (afterS S ⟨[(rB, .v (.a (.fl t y)))], [], []⟩).ob i = S.ob i := by simp [afterS, St.ob]
    rw [this] at hi
    have := CAL.rb i T ls hi
    simpa [afterS] using this
  · have e : (fun i => entL g i ((afterS S ⟨[(rB, .v (.a (.fl t y)))], [], []⟩).ob i)) = fun i => entL g i (S.ob i) := by
      funext i; congr 1; simp [afterS, St.ob]
    have e' : (fun i => entR g i ((afterS S ⟨[(rB, .v (.a (.fl t y)))], [], []⟩).ob i)) = fun i => entR g i (S.ob i) := by
      funext i; congr 1; simp [afterS, St.ob]
    have := cf_still C hfr
    unfold Cx
    rw [e, e']
    exact this
  · refine ⟨by simp [afterS], fun i hi => ⟨rfl, rfl⟩, fun i hi hm => ⟨by simp [afterS, St.ob], rfl⟩, (fun i hi => by cases hi), fun t ht => absurd trivial ht, fun i hi e t xs m fu he => ⟨e, xs, m, fu, ?_, rfl⟩⟩
    rw [← he]; simp [afterS, St.ob]
theorem fr_below {w w' : World} (h : Go.RowKit.Below w.heap.size w w') : Fr nob w w' := ⟨h.os, h.tape, h.output, h.size, fun b hb _ => h.block b hb⟩
end Go.Proofs.YthdgllldpfeelaaGreatDoor
/- Contracts of functions that call themselves. No condition. -/
set_option linter.unusedVariables false
set_option linter.unusedSimpArgs false
namespace Go.Proofs.YthdgllldpfeelaaGreatDoor
open Go
/-- So many calls deep. -/
def recN {α β : Type} (B : (Nat → α → Option β) → Nat → α → Option β) : Nat → Nat → α → Option β
  | 0 => fun _ _ => none
  | n + 1 => B (recN B n)
theorem con_rec {P : Program} {Γ : List Con} {inl : List Nat} {bk : List Bk} (hm : P.follows .mixedOrders = true) (hbk : ∀ B ∈ bk, BkOk P B) (hΓ : ∀ c ∈ Γ, ConOk P c) {f : Nat} {pat : NSh} {c : Cls} {pl : Plan} {o : List NSh}
    {B : (Nat → HL pat.codes → Option (DenL (o.map NSh.codes))) → Nat → HL pat.codes → Option (DenL (o.map NSh.codes))}
    (hB : (fun r => mkCon P (⟨f, pat, o, r⟩ :: Γ) inl bk f pat c pl) = fun r => ⟨f, pat, o, B r⟩) (hg : goodF P f pat.slots.length = true) :
    ConOk P ⟨f, pat, o, fun k => recN B k k⟩ := by
  have all : ∀ n, ConOk P ⟨f, pat, o, recN B n⟩ := by
    intro n
    induction n with
    | zero =>
      intro k x y S m gs hrun
      cases hrun
    | succ n ih =>
      have h := congrFun hB (recN B n)
      have h2 := mkCon_ok (inl := inl) hm hbk (forall_cons ih hΓ) (c := c) (pl := pl) hg
      rw [show mkCon P (⟨f, pat, o, recN B n⟩ :: Γ) inl bk f pat c pl = ⟨f, pat, o, B (recN B n)⟩ from h] at h2
      exact h2
  intro k
  exact all k k
end Go.Proofs.YthdgllldpfeelaaGreatDoor
/- Contracts of the library's functions: a row made anew, a row turned in place, a value told of rows. No condition. -/
set_option linter.unusedVariables false
set_option linter.unusedSimpArgs false
namespace Go.Proofs.YthdgllldpfeelaaGreatDoor
open Go
/-- Whatever in; a number, a text or an array out; memory as it was. -/
theorem con_libV {P : Program} {f : Nat} {pat : NSh} {t : Ty} {F : Nat → HL pat.codes → Option t.den} (hk : ∀ t ∈ pat.slots.map (·.1), t < rG)
    (h : ∀ k x y S g w, F k x = some y → patSt pat x = some S → Cal g S → (∀ i, (entL g i (S.ob i)).ok w) → (∀ i, (entR g i (S.ob i)).ok w) → Fn P f (S.slots.map fun p => encS g p.2) w (fun v w' => v = val1 env0 (.fl t y) ∧ Fr nob w w')) :
    ConOk P ⟨f, pat, [⟨[(rB, .v (.a (.fl t)))], [], []⟩], F⟩ := by
  refine con_plain hk ?_
  intro k x y S hrun hpat hkeys g w D A CAL C
  have hy : F k x = some y := hrun
  refine Calls.mono (h k x y S g w hy hpat CAL C.okL C.okR) ?_
  rintro e w' ⟨v, rfl, rfl, hfr⟩
  have hN : fiN ⟨[(rB, .v (.a (.fl t)))], [], []⟩ [⟨t, y⟩] = some ⟨[(rB, .v (.a (.fl t y)))], [], []⟩ := by
    have key : ∀ z : t.den, fiN ⟨[(rB, .v (.a (.fl t)))], [], []⟩ [⟨t, z⟩] = some ⟨[(rB, .v (.a (.fl t z)))], [], []⟩ := fun z => by
      have hc : castT (a := t) (b := t) z = some z := castT_self z
      simp only [fiN, fiList, fiP, fiS, fiV, fiA, hc, Option.map_some]
    exact key y
  refine ⟨_, rfl, 0, [⟨t, y⟩], _, _, .v (.a (.fl t y)), g, fun R q => rfl, rfl, hN, rfl, ?_, rfl, (fun o ho => by cases ho), ⟨fun i => ?_, fun p hp => ?_, fun p hp o ho => ?_, fun i T ls hi => ?_⟩, ?_, ?_⟩
  · cases t <;> rfl
  · have : (afterS S ⟨[(rB, .v (.a (.fl t y)))], [], []⟩).ob i = S.ob i := by simp [afterS, St.ob]
    rw [this]; exact CAL.ob i
  · simp only [afterS, List.mem_singleton] at hp; subst hp; rfl
  · simp only [afterS, List.mem_singleton] at hp; subst hp; cases ho
  · have : (afterS S ⟨[(rB, .v (.a (.fl t y)))], [], []⟩).ob i = S.ob i := by simp [afterS, St.ob]
    rw [this] at hi
    have := CAL.rb i T ls hi
    simpa [afterS] using this
  · have e : (fun i => entL g i ((afterS S ⟨[(rB, .v (.a (.fl t y)))], [], []⟩).ob i)) = fun i => entL g i (S.ob i) := by
      funext i; congr 1; simp [afterS, St.ob]
    have e' : (fun i => entR g i ((afterS S ⟨[(rB, .v (.a (.fl t y)))], [], []⟩).ob i)) = fun i => entR g i (S.ob i) := by
      funext i; congr 1; simp [afterS, St.ob]
    have := cf_still C hfr
    unfold Cx
    rw [e, e']
    exact this
  · refine ⟨by simp [afterS], fun i hi => ⟨rfl, rfl⟩, fun i hi hm => ⟨by simp [afterS, St.ob], rfl⟩, (fun i hi => by cases hi), fun t ht => absurd trivial ht, fun i hi e t xs m fu he => ⟨e, xs, m, fu, ?_, rfl⟩⟩
    rw [← he]; simp [afterS, St.ob]
theorem own_slice {w : World} {e sz n : Nat} {r : Value} {xs : List Value} (h : w.ownsRow 0 e sz r n xs) : ∃ ao cap, r = .slice ao n cap ∧ (ao = none → n = 0) := by
  rcases h.2 with ⟨rfl, rfl⟩ | ⟨q, cap, cur, rfl, _⟩
  · exact ⟨none, 0, rfl, fun _ => rfl⟩
  · exact ⟨_, cap, rfl, fun h => by cases h⟩
theorem fi_row {e : Nat} {u : Ty} {m : Md} (z : (Ty.sl e u).den) : fiO (.row e u m) [⟨.sl e u, z⟩] = some (.row e u z m false, []) := by
  have hc : castT (a := .sl e u) (b := .sl e u) z = some z := castT_self (t := .sl e u) z
  simp only [fiO, hc, Option.map_some]
/-- Whatever in; a row made anew out. -/
theorem con_libRow {P : Program} {f : Nat} {pat : NSh} {e : Nat} {u : Ty} {F : Nat → HL pat.codes → Option (List u.den)} (np : Nat) (hk : ∀ t ∈ pat.slots.map (·.1), t < rG)
    (hnp : ∀ x S, patSt pat x = some S → S.obs.length = np) (hfl : u.flat = true)
    (h : ∀ k x y S g w, F k x = some y → patSt pat x = some S → Cal g S → (∀ i, (entL g i (S.ob i)).ok w) → (∀ i, (entR g i (S.ob i)).ok w) → Fn P f (S.slots.map fun p => encS g p.2) w
      (fun r w' => Fr nob w w' ∧ w'.ownsRow 0 e u.sz r y.length (y.flatMap (flatT u).cells) ∧ ∀ b, r.ownBlock = some b → w.heap.size ≤ b)) (hmB : e < mB := by decide) :
    ConOk P ⟨f, pat, [⟨[(rB, .v (.a (.sl np)))], [], [.row e u .own]⟩], F⟩ := by
  refine con_plain hk ?_
  intro k x y0 S hrun hpat hkeys g w D A CAL C
  obtain ⟨y, rfl⟩ : ∃ y : List u.den, y = y0 := ⟨y0, rfl⟩
  have hy : F k x = some y := hrun
  have hlen := hnp x S hpat
  refine Calls.mono (h k x y S g w hy hpat CAL C.okL C.okR) ?_
  rintro _ w' ⟨r, rfl, hfr, hown, hnew⟩
  obtain ⟨ao, cap, rfl, hao⟩ := own_slice hown
  obtain ⟨g', hg'⟩ : ∃ g' : Env, g' = fun i => if i = np then ⟨.slice ao y.length cap, rfl, 0, y.flatMap (flatT u).cells, []⟩ else g i := ⟨_, rfl⟩
  have g0 : ∀ i, i ≠ np → g' i = g i := fun i hi => by rw [hg']; simp [hi]
  have g1 : g' np = ⟨.slice ao y.length cap, rfl, 0, y.flatMap (flatT u).cells, []⟩ := by rw [hg']; simp
  have hN : fiN ⟨[(rB, .v (.a (.sl np)))], [], [.row e u .own]⟩ [⟨.sl e u, y⟩] = some ⟨[(rB, .v (.a (.sl np)))], [], [.row e u y .own false]⟩ := by
    simp only [fiN, fiList, fiP, fiS, fiV, fiA, fi_row, Option.map_some]
  have ob1 : (afterS S ⟨[(rB, .v (.a (.sl np)))], [], [.row e u y .own false]⟩).ob np = .row e u y .own false := by
    simp [afterS, St.ob, ← hlen]
  have ob0 : ∀ i, i ≠ np → (afterS S ⟨[(rB, .v (.a (.sl np)))], [], [.row e u y .own false]⟩).ob i = S.ob i := by
    intro i hi
    simp only [afterS, St.ob, List.foldl_nil, List.getD_eq_getElem?_getD]
    rcases Nat.lt_trichotomy i S.obs.length with h | h | h
    · rw [List.getElem?_append_left h]
    · exact (hi (h.trans hlen)).elim
    · rw [List.getElem?_eq_none (by simp; omega), List.getElem?_eq_none (by omega)]
  have sob : S.ob np = .gone := by simp [St.ob, ← hlen]
  have ltn : ∀ i ob, S.ob i = ob → ob ≠ .gone → i < np := by
    intro i ob h1 h2
    rcases Nat.lt_or_ge i np with h | h
    · exact h
    · exact (h2 (by rw [← h1]; simp [St.ob, List.getD_eq_getElem?_getD, List.getElem?_eq_none (show S.obs.length ≤ i by omega)])).elim
  have hrefs : ∀ T ls i, S.ob i = .box T ls → ∀ z ∈ ls.flatMap refA, g' z = g z := fun T ls i hi z hz => g0 z (by have := CAL.rb i T ls hi z hz; omega)
  refine ⟨_, rfl, 0, [⟨.sl e u, y⟩], _, ⟨[(rB, .v (.a (.sl np)))], [], [.row e u y .own false]⟩, .v (.a (.sl np)), g', fun R q => rfl, rfl, hN, rfl, ?_, rfl, ?_, ⟨fun i => ?_, fun p hp => ?_, fun p hp o ho => ?_, fun i T ls hi => ?_⟩, ?_, ?_⟩
  · simp only [encS, encV, val1, g1]
  · intro o ho
    simp only [refS, refV, refA, List.mem_singleton] at ho
    subst ho
    simp [afterS, hlen]
  · by_cases hi : i = np
    · subst hi
      rw [ob1]
      simp only [obP, g1]
      exact ⟨(RepL_flat u hfl _ _ _).2 ⟨rfl, rfl⟩, ⟨ao, cap, rfl, hao⟩, fun h => by cases h⟩
    · rw [ob0 i hi]; exact obP_ext (g0 i hi) (CAL.ob i)
  · simp only [afterS, List.mem_singleton] at hp; subst hp; rfl
  · simp only [afterS, List.mem_singleton] at hp; subst hp
    simp only [refS, refV, refA, List.mem_singleton] at ho
    subst ho
    simp [afterS, hlen]
  · by_cases h : i = np
    · subst h; rw [ob1] at hi; cases hi
    · rw [ob0 i h] at hi
      intro o ho
      have := CAL.rb i T ls hi o ho
      simp only [afterS, List.foldl_nil, List.length_append]
      omega
  · have eL : ∀ i, i ≠ np → entL g' i (S.ob i) = entL g i (S.ob i) := fun i hi => entL_ext (g0 i hi) (fun T ls h => hrefs T ls i h)
    have C2 : CtxF w D A (fun i => entL g' i ((afterS S ⟨[(rB, .v (.a (.sl np)))], [], [.row e u y .own false]⟩).ob i)) (fun i => entR g i (S.ob i)) w' := by
      refine cf_set np (E' := ownE (.slice ao y.length cap) e u.sz y.length (y.flatMap (flatT u).cells)) C (hfr.mono (fun x h => h.elim)) ((ownE_lt hmB).2 hown) (fun b hb => .inr (hnew b hb)) (fun i hi => ?_) ?_
      · simp only [ob0 i hi, eL i hi]
      · simp only [ob1, entL, g1]
    refine cf_remap C2 id (fun i => .inr (Sub1.refl _ _)) (fun i j hij _ _ => hij) (fun i => ?_)
    by_cases hi : i = np
    · subst hi
      refine .inl ?_
      simp only [ob1, entR, g1]
      exact ⟨fun b hb => (by obtain ⟨f, hf, _⟩ := hb; cases hf), fun f hf => (by cases hf)⟩
    · refine .inr (.inl ⟨i, ?_, ?_⟩)
      · simp only [ob0 i hi]
        rw [entR_ext (g0 i hi)]
        exact Sub1.refl _ _
      · simp only [ob0 i hi]
        rw [entR_ext (g0 i hi)]
        exact id
  · refine ⟨by simp [afterS], fun i hi => ?_, fun i hi hm => ?_, (fun i hi => by cases hi), fun t ht => absurd trivial ht, fun i hi e' t xs m fu he => ?_⟩
    · have : i ≠ np := by simp only at hi; omega
      rw [g0 i this]; exact ⟨rfl, rfl⟩
    · have : i ≠ np := by simp only at hi; omega
      exact ⟨ob0 i this, g0 i this⟩
    · have hne : i ≠ np := by simp only at hi; omega
      have he : (afterS S ⟨[(rB, .v (.a (.sl np)))], [], [.row e u y .own false]⟩).ob i = .row e' t xs m fu := he
      rw [ob0 i hne] at he
      exact ⟨_, _, _, _, he, rfl⟩
/-- One row of the caller's own, turned in place. -/
theorem con_libMod {P : Program} {f : Nat} {e : Nat} {u : Ty} {F : Nat → List u.den → Option (List u.den)} (hfl : u.flat = true)
    (h : ∀ k x y v w, F k x = some y → w.ownsRow 0 e u.sz v x.length (x.flatMap (flatT u).cells) → y.length = x.length ∧ Fn P f [v] w (fun r w' => r = .tuple #[] ∧ Fr (fun b => v.ownBlock = some b) w w' ∧ w'.ownsRow 0 e u.sz v y.length (y.flatMap (flatT u).cells))) (hmB : e < mB := by decide) :
    ConOk P ⟨f, ⟨[(0, .v (.a (.sl 0)))], [], [.row e u .own]⟩, [⟨[], [(0, .row e u .own)], []⟩], F⟩ := by
  refine con_plain (by intro t ht; simp only [List.map_cons, List.map_nil, List.mem_singleton] at ht; subst ht; decide) ?_
  intro k x0 y0 S hrun hpat hkeys g w D A CAL C
  obtain ⟨x, rfl⟩ : ∃ x : List u.den, x = x0 := ⟨x0, rfl⟩
  obtain ⟨y, rfl⟩ : ∃ y : List u.den, y = y0 := ⟨y0, rfl⟩
  have hy : F k x = some y := hrun
  obtain rfl : S = ⟨[(0, .v (.a (.sl 0)))], [.row e u x .own false], [], .nil⟩ := by
    have : fiN ⟨[(0, .v (.a (.sl 0)))], [], [.row e u .own]⟩ [⟨.sl e u, x⟩] = some ⟨[(0, .v (.a (.sl 0)))], [], [.row e u x .own false]⟩ := by
      simp only [fiN, fiList, fiP, fiS, fiV, fiA, fi_row, Option.map_some]
    have h2 : patSt ⟨[(0, .v (.a (.sl 0)))], [], [.row e u .own]⟩ x = some ⟨[(0, .v (.a (.sl 0)))], [.row e u x .own false], [], .nil⟩ := by
      have h3 : patSt ⟨[(0, .v (.a (.sl 0)))], [], [.row e u .own]⟩ x = (fiN ⟨[(0, .v (.a (.sl 0)))], [], [.row e u .own]⟩ [⟨.sl e u, x⟩]).map fun N => fillB ⟨[], [], [], .nil⟩ 0 N := rfl
      rw [h3, this]; rfl
    exact Option.some.inj (hpat.symm.trans h2)
  have hobP : RepL (RepP u) x (g 0).cs (g 0).fs ∧ SlV (g 0).v x.length ∧ (false = true → _) := CAL.ob 0
  obtain ⟨hrep, hslv, _⟩ := hobP
  obtain ⟨hcs, hfs⟩ := (RepL_flat u hfl _ _ _).1 hrep
  have hown0 : w.ownsRow 0 e u.sz (g 0).v x.length (x.flatMap (flatT u).cells) := by
    have : (rowE (g 0).v e u.sz x.length (g 0).cs).ok w := (ownE_lt hmB).1 (C.okL 0)
    rw [hcs] at this; exact this
  obtain ⟨hyl, hfn⟩ := h k x y (g 0).v w hy hown0
  refine Calls.mono hfn ?_
  rintro _ w' ⟨r, rfl, rfl, hfr, hown⟩
  obtain ⟨g', hg'⟩ : ∃ g' : Env, g' = fun i => if i = 0 then ⟨(g 0).v, (g 0).one, (g 0).b, y.flatMap (flatT u).cells, []⟩ else g i := ⟨_, rfl⟩
  have g0 : ∀ i, i ≠ 0 → g' i = g i := fun i hi => by rw [hg']; simp [hi]
  have g1 : g' 0 = ⟨(g 0).v, (g 0).one, (g 0).b, y.flatMap (flatT u).cells, []⟩ := by rw [hg']; simp
  have hN : fiN ⟨[], [(0, .row e u .own)], []⟩ [⟨.sl e u, y⟩] = some ⟨[], [(0, .row e u y .own false)], []⟩ := by
    simp only [fiN, fiList, fiP, fi_row, Option.map_some]
  have ob : ∀ i, (afterS ⟨[(0, .v (.a (.sl 0)))], [.row e u x .own false], [], .nil⟩ ⟨[], [(0, .row e u y .own false)], []⟩).ob i = if i = 0 then .row e u y .own false else .gone := by
    intro i
    match i with
    | 0 => rfl
    | i + 1 => rfl
  have sob : ∀ i, (⟨[(0, .v (.a (.sl 0)))], [.row e u x .own false], [], .nil⟩ : St).ob i = if i = 0 then .row e u x .own false else .gone := by
    intro i
    match i with
    | 0 => rfl
    | i + 1 => rfl
  refine ⟨_, rfl, 0, [⟨.sl e u, y⟩], _, ⟨[], [(0, .row e u y .own false)], []⟩, .tup [], g', fun R q => rfl, rfl, hN, rfl, ?_, rfl, (fun o ho => by cases ho), ⟨fun i => ?_, (fun p hp => by cases hp), (fun p hp => by cases hp), fun i T ls hi => ?_⟩, ?_, ?_⟩
  · rfl
  · rw [ob]
    split
    · rename_i hi; subst hi
      simp only [obP, g1]
      exact ⟨(RepL_flat u hfl _ _ _).2 ⟨rfl, rfl⟩, by rw [hyl]; exact hslv, fun h => by cases h⟩
    · trivial
  · rw [ob] at hi
    split at hi <;> cases hi
  · have C2 : CtxF w D A (fun i => entL g' i ((afterS ⟨[(0, .v (.a (.sl 0)))], [.row e u x .own false], [], .nil⟩ ⟨[], [(0, .row e u y .own false)], []⟩).ob i)) (fun i => entR g i ((⟨[(0, .v (.a (.sl 0)))], [.row e u x .own false], [], .nil⟩ : St).ob i)) w' := by
      refine cf_set 0 (E' := ownE (g 0).v e u.sz y.length (y.flatMap (flatT u).cells)) C hfr ((ownE_lt hmB).2 hown) (fun b hb => .inl hb) (fun i hi => ?_) ?_
      · simp only [ob, sob, if_neg hi, entL]
      · simp only [ob, if_true, entL, g1]
    refine cf_remap C2 id (fun i => .inr (Sub1.refl _ _)) (fun i j hij _ _ => hij) (fun i => ?_)
    refine .inl ?_
    simp only [ob]
    split
    · rename_i hi; subst hi
      simp only [entR, g1]
      exact ⟨fun b hb => (by obtain ⟨f, hf, _⟩ := hb; cases hf), fun f hf => (by cases hf)⟩
    · exact ⟨fun b hb => hb.elim, trivial⟩
  · refine ⟨by simp [afterS], fun i hi => ?_, fun i hi hm => ?_, (fun i hi => by cases hi), fun t ht => absurd trivial ht, fun i hi e' t xs m fu he => ?_⟩
    · have : i = 0 := by simpa using hi
      subst this
      rw [g1]; exact ⟨rfl, rfl⟩
    · have : i = 0 := by simpa using hi
      subst this
      exact (hm (by simp)).elim
    · have : i = 0 := by simpa using hi
      subst this
      have he : (afterS ⟨[(0, .v (.a (.sl 0)))], [.row e u x .own false], [], .nil⟩ ⟨[], [(0, .row e u y .own false)], []⟩).ob 0 = .row e' t xs m fu := he
      rw [ob] at he
      simp only [if_true, Ob.row.injEq] at he
      obtain ⟨rfl, rfl, h3, rfl, rfl⟩ := he
      cases h3
      exact ⟨_, _, _, _, rfl, hyl.symm⟩
theorem r_eqnil {P : Program} {ρ : Operand → Value} {w : World} {x y : Operand} {t t' e : TypeId} {ao : Option Addr} {n c m q : Nat} (hx : ρ x = .slice ao n c) (hy : ρ y = .slice none m q) (hu : P.underlying t = some (.slice e)) :
    Runs P ρ (.binOp .eql t x y t') w (.bool ao.isNone) w := by
  intro o ho
  have hg : (eqGuard .eql t x y (.slice ao n c) (.slice none m q)).run P w = .ok () w := by unfold eqGuard; rfl
  have he : (Op.equal t (.slice ao n c) (.slice none m q)).run P w = .ok ao.isNone w := by
    unfold Op.equal Op.maxDepth
    rw [Op.equalIn.eq_def]
    cases ao <;> simp [run_underlying hu]
  have hb : (Go.binOp .eql t (.slice ao n c) (.slice none m q)).run P w = .ok (.bool ao.isNone) w := by
    show ((Op.equal t (.slice ao n c) (.slice none m q)) >>= fun b => pure (.bool b) : Sem Value).run P w = _
    simp [he]
  simp [execOp, ho, hx, hy, hg, hb]
end Go.Proofs.YthdgllldpfeelaaGreatDoor
/- What slices.Insert needs: raw copies, zeros behind, slices that lie apart; a contract that hands a row on. No condition. -/
set_option linter.unusedVariables false
set_option linter.unusedSimpArgs false
namespace Go.Proofs.YthdgllldpfeelaaGreatDoor
open Go
section
variable {P : Program} {ρ : Operand → Value} {w : World}
theorem r_cap {x : Operand} {t e : TypeId} {ao : Option Addr} {n c : Nat} (hx : ρ x = .slice ao n c) (hu : P.underlying t = some (.slice e)) : Runs P ρ (.call { callee := .builtin .cap, args := #[x], argTypes := #[t] }) w (.int .i64 (c : Int)) w := by
  intro o ho
  simp [execOp, ho, resolve, invoke, builtin, hx, Builtin.cap_, run_underlying hu, goInt]
/-- A slice made longer, in its capacity. -/
theorem r_grow {ao : Option Addr} {n c sz : Nat} {t : TypeId} {x y : Operand} {h : Int} (hx : ρ x = .slice ao n c) (ht : elemSz P t = some sz) (hy : ρ y = .int .i64 h) (h0 : 0 ≤ h) (h1 : h ≤ (c : Int)) : Runs P ρ (.slice t x none (some y) none) w (cutV (.slice ao n c) 0 h.toNat sz) w := by
  unfold elemSz at ht
  split at ht
  · rename_i e hu
    obtain ⟨q, hq, hs⟩ := Option.map_eq_some_iff.1 ht
    intro o ho
    have hb : (Instr.sliceBounds true n c none (some (.int .i64 h)) none).run P w = .ok (0, h.toNat, c) w := by
      have hb1 : 0 ≤ h ∧ h ≤ (c : Int) := ⟨h0, h1⟩
      simp [Instr.sliceBounds, run_bound hb1]
    simp [execOp, ho, Instr.sliceAt, run_underlying hu, Instr.slice, hx, hy, hb, sizeOf, typeInfo, hq, hs, cutV]
  · cases ht
theorem cut_all {q n c sz h : Nat} : cutV (.slice (some ⟨q, 0, none⟩) n c) 0 h sz = .slice (some ⟨q, 0, none⟩) h c := by simp [cutV, add_plain]
theorem cut_one {q n c sz h : Nat} (hc : 2 ≤ c) : cutV (.slice (some ⟨q, 0, none⟩) n c) 1 h sz = .slice (some ⟨q, sz, none⟩) (h - 1) (c - 1) := by
  simp only [cutV, if_neg (show ¬ c = 1 by omega), Option.map_some, add_plain, Nat.zero_add, Nat.one_mul]
/-- Cells copied into a row, wherever. -/
theorem eff_cp0 {dT sT : TypeId} {sz q o dl dc sl sc : Nat} {cur : Array Value} {T : TypeId} {ad : Addr} {cs : List Value} {d s : Operand} (ht : elemSz P dT = some sz) (hd : ρ d = .slice (some ⟨q, o, none⟩) dl dc) (hs : ρ s = .slice (some ad) sl sc)
    (hg : w.heap[q]? = some (.cells cur T (0, 0))) (hcs : cs.length = Nat.min sl dl * sz) (hsrc : ∀ (j : Nat) u, cs[j]? = some u → w.cell? (ad.add j) = some u) (hfit : o + cs.length ≤ cur.size) (h1 : ∀ v ∈ cs, v.oneCell' = true) :
    Eff P ρ (.call { callee := .builtin .copy, args := #[d, s], argTypes := #[dT, sT] }) w (fun v' w' => w' = w.setRow q (cur.toList.take o ++ cs ++ cur.toList.drop (o + cs.length)).toArray) := by
  unfold elemSz at ht
  split at ht
  · rename_i e' hu
    obtain ⟨i, hi', hsz⟩ := Option.map_eq_some_iff.1 ht
    have hld : (loadCells ad (Nat.min sl dl * sz)).run P w = .ok cs.toArray w := by
      have := run_loadCells_list (P := P) w ad cs hsrc
      rwa [hcs] at this
    have hst := run_storeCells_at P q o T cs 0 cur w hg (by simpa using hfit) h1
    refine eff_runs (v := .int .i64 ((Nat.min sl dl : Nat) : Int)) (w' := w.setRow q (cur.toList.take o ++ cs ++ cur.toList.drop (o + cs.length)).toArray) ?_ rfl
    intro oo ho
    have hst' : (storeCells ⟨q, o, none⟩ cs).run P w = .ok () (w.setRow q (cur.toList.take o ++ cs ++ cur.toList.drop (o + cs.length)).toArray) := by simpa using hst
    simp [execOp, ho, resolve, invoke, builtin, hd, hs, Builtin.copy_, run_underlying hu, Builtin.lenOf, Builtin.firstCells, sizeOf, typeInfo, hi', hsz, hld, hst', goInt]
  · cases ht
/-- Zeros put behind nothing, where there is no room. -/
theorem eff_zeros {t tn e sz bytes : Nat} {ki : IntKind} {z : Value} {s x : Operand} {ad : Addr} {c n : Nat} (ht : elemInfo P t = some (e, sz, bytes, some z)) (htn : P.underlying tn = some (.int ki)) (hz : z.cells.size = sz) (h0 : 0 < sz)
    (hs : ρ s = .slice (some ad) 0 c) (hx : ρ x = .int .i64 (n : Int)) (hc : c < n) (hn : n * bytes ≤ 140737488355328) (h63 : n ≤ 9223372036854775807) :
    Eff P ρ (.call { callee := .builtin .append, args := #[s, x], argTypes := #[t, tn] }) w (fun v' w' => ∃ cap cur, v' = .slice (some ⟨w.heap.size, 0, none⟩) n cap ∧ n ≤ cap ∧ cap ≤ maxLen ∧ cur.size = cap * sz ∧ w'.heap[w.heap.size]? = some (.cells cur e (0, 0)) ∧ Fr nob w w') := by
  unfold elemInfo at ht
  split at ht
  · rename_i e' hu
    obtain ⟨i, hi, hh⟩ := Option.map_eq_some_iff.1 ht
    simp only [Prod.mk.injEq] at hh
    obtain ⟨rfl, rfl, rfl, hzero⟩ := hh
    have hnn : n ≠ 0 := by omega
    have hw : IntKind.i64.wrap (n : Int) = n := wrap_i64 (by omega) (by omega)
    have hneed : ¬ (n ≤ c) := by omega
    have h63' : ¬ (9223372036854775807 < (n : Int)) := by omega
    have hfit := growslice_fits (need := n) (old := c) (bytes := i.bytes) hc hn
    have h48' : ¬ (281474976710656 < Builtin.nextslicecap n c * i.bytes) := by omega
    have h48i : ¬ (281474976710656 < (n : Int) * (i.bytes : Int)) := by
      rw [← Int.natCast_mul]; omega
    have hneg : ¬ ((n : Int) < 0) := by omega
    have hns : ¬ (n * i.size = 0) := Nat.mul_ne_zero hnn (by omega)
    have hfc : ∀ w' : World, (Builtin.firstCells i.size 0 (.slice (some ad) 0 c)).run P w' = .ok #[] w' := fun w' => by simp [Builtin.firstCells, loadCells, loadCellsFrom]
    have hrun : ∀ ty, (Builtin.append_ #[t, tn] ty #[.slice (some ad) 0 c, .int .i64 (n : Int)]).run P w =
        .ok (.slice (some ⟨w.heap.size, 0, none⟩) n (grownCap w n c e')) (w.drew.alloc (.cells (Builtin.zeroCells z.cells n ++ Builtin.zeroCells z.cells (grownCap w n c e' - n)) e')) := fun ty => by
      simp [Builtin.append_, run_underlying hu, run_underlying htn, sizeOf, typeInfo, zeroValue, hi, hzero, asInt, asIntOf, hw, hnn, hneg, hns, hneed, h63', h48', h48i, Question.forced, hfc, newRow, grownCap]
    have hge := grownCap_ge w n c e'
    refine eff_runs (v := .slice (some ⟨w.heap.size, 0, none⟩) n (grownCap w n c e')) (w' := w.drew.alloc (.cells (Builtin.zeroCells z.cells n ++ Builtin.zeroCells z.cells (grownCap w n c e' - n)) e')) ?_ ⟨grownCap w n c e', _, rfl, hge, grownCap_le_maxLen w n c e' (by simp only [maxLen]; omega), ?_, heap_alloc_new w.drew _, (Fr.drawn w (w.drawn + 1)).then (Fr.alloc w.drew _)⟩
    · intro o ho
      simp only [execOp, ho, resolve, invoke, builtin, hs, hx, Sem.run_bind, Sem.run_pure, Result.andThen_ok, List.map_toArray, List.map_cons, List.map_nil, hrun]
    · rw [Array.size_append, size_zeroCells, size_zeroCells, hz, ← Nat.add_mul]
      congr 1; omega
  · cases ht
/-- Two slices in two blocks. -/
theorem eff_apart {f : FuncId} {fn : Func} {x y : Operand} {tS tR e sz : TypeId} {a b : Addr} {la ca lb cb : Nat} {cA cB : Array Value} {TA TB : TypeId} (hf : P.funcs[f]? = some fn) (hname : (fn.name == "runtime.NumGoroutine") = false)
    (hb0 : fn.body.isNone = true) (hn : Extern.findNext fn = none) (he : Extern.find fn = some (Extern.SlicesOverlaps.overlaps #[tS, tS] #[tR])) (ht : P.underlying tS = some (.slice e)) (hz : (P.info? e).map (·.size) = some sz)
    (hv : ρ (.func f) = .func (.func f) #[] #[]) (hx : ρ x = .slice (some a) la ca) (hy : ρ y = .slice (some b) lb cb) (hne : a.block ≠ b.block) (hA : w.heap[a.block]? = some (.cells cA TA (0, 0))) (hB : w.heap[b.block]? = some (.cells cB TB (0, 0))) (hk : cB.size ≠ 0) :
    Eff P ρ (.call { callee := .value (.func f), args := #[x, y], argTypes := #[tS, tS] }) w (fun v' w' => v' = .bool false ∧ w' = w) := by
  obtain ⟨i, hi, hsz⟩ := Option.map_eq_some_iff.1 hz
  have hsz2 : ∀ w : World, (Go.sizeOf e).run P w = .ok sz w := fun w => by simp [sizeOf, typeInfo, hi, hsz]
  have hr := Lib.run_overlaps_apart (P := P) w tS tR e ht sz hsz2 a b la ca lb cb hne TA TB cA.size cB.size (by simp [World.shape?, hA]) (by simp [World.shape?, hB]) hk (by simp [World.frozen?, hA]) (by simp [World.frozen?, hA])
  have hcall := run_callFunc_extern hf hname hb0 hn he #[.slice (some a) la ca, .slice (some b) lb cb] w
  rw [hr] at hcall
  refine eff_runs (v := .bool false) (w' := w) ?_ ⟨rfl, rfl⟩
  intro o ho
  simp only [execOp, ho, resolve, hv, Deferred.ofValue, Sem.run_bind, Sem.run_pure, Result.andThen_ok, invoke]
  have e : (#[] ++ (#[x, y] : Array Operand).map ρ) ++ #[] = #[.slice (some a) la ca, .slice (some b) lb cb] := by
    apply Array.toList_inj.1; simp [hx, hy]
  rw [e, hcall]
  rfl
end
/-- A row of one's own, handed in with another one, goes out as another one. -/
theorem con_libMove {P : Program} {f : Nat} {e : Nat} {u : Ty} {F : Nat → Int × List u.den × List u.den → Option (List u.den)} (hfl : u.flat = true)
    (h : ∀ k i xs vs ys v1 v2 w, F k (i, xs, vs) = some ys → w.ownsRow 0 e u.sz v1 xs.length (xs.flatMap (flatT u).cells) → w.ownsRow 0 e u.sz v2 vs.length (vs.flatMap (flatT u).cells) → (∀ b, v1.ownBlock = some b → v2.ownBlock ≠ some b) →
      Fn P f [v1, .int .i64 i, v2] w (fun r w' => Fr (fun b => v1.ownBlock = some b) w w' ∧ w'.ownsRow 0 e u.sz r ys.length (ys.flatMap (flatT u).cells) ∧ ∀ b, r.ownBlock = some b → v1.ownBlock = some b ∨ w.heap.size ≤ b)) (hmB : e < mB := by decide) :
    ConOk P ⟨f, ⟨[(0, .v (.a (.sl 0))), (1, .v (.a (.fl (.int .i64)))), (2, .v (.a (.sl 1)))], [], [.row e u .own, .row e u .own]⟩, [⟨[(rB, .v (.a (.sl 2)))], [(0, .gone)], [.row e u .own]⟩], F⟩ := by
  refine con_plain (by intro t ht; simp only [List.map_cons, List.map_nil, List.mem_cons, List.not_mem_nil, or_false] at ht; rcases ht with rfl | rfl | rfl <;> decide) ?_
  intro k x0 y0 S hrun hpat hkeys g w D A CAL C
  obtain ⟨y, rfl⟩ : ∃ y : List u.den, y = y0 := ⟨y0, rfl⟩
  obtain ⟨i, xs, vs⟩ : Int × List u.den × List u.den := x0
  have hy : F k (i, xs, vs) = some y := hrun
  obtain rfl : S = ⟨[(0, .v (.a (.sl 0))), (1, .v (.a (.fl (.int .i64) i))), (2, .v (.a (.sl 1)))], [.row e u xs .own false, .row e u vs .own false], [], .nil⟩ := by
    have hi : castT (a := .int .i64) (b := .int .i64) i = some i := castT_self (t := .int .i64) i
    have hx : castT (a := .sl e u) (b := .sl e u) xs = some xs := castT_self (t := .sl e u) xs
    have hv : castT (a := .sl e u) (b := .sl e u) vs = some vs := castT_self (t := .sl e u) vs
    have h1 : fiN ⟨[(0, .v (.a (.sl 0))), (1, .v (.a (.fl (.int .i64)))), (2, .v (.a (.sl 1)))], [], [.row e u .own, .row e u .own]⟩ [⟨.int .i64, i⟩, ⟨.sl e u, xs⟩, ⟨.sl e u, vs⟩] = some ⟨[(0, .v (.a (.sl 0))), (1, .v (.a (.fl (.int .i64) i))), (2, .v (.a (.sl 1)))], [], [.row e u xs .own false, .row e u vs .own false]⟩ := by
      simp only [fiN, fiList, fiP, fiS, fiV, fiA, fiO, hi, hx, hv, Option.map_some]
    have h3 : patSt ⟨[(0, .v (.a (.sl 0))), (1, .v (.a (.fl (.int .i64)))), (2, .v (.a (.sl 1)))], [], [.row e u .own, .row e u .own]⟩ (i, xs, vs) = (fiN ⟨[(0, .v (.a (.sl 0))), (1, .v (.a (.fl (.int .i64)))), (2, .v (.a (.sl 1)))], [], [.row e u .own, .row e u .own]⟩ [⟨.int .i64, i⟩, ⟨.sl e u, xs⟩, ⟨.sl e u, vs⟩]).map fun N => fillB ⟨[], [], [], .nil⟩ 0 N := rfl
    have h2 : patSt ⟨[(0, .v (.a (.sl 0))), (1, .v (.a (.fl (.int .i64)))), (2, .v (.a (.sl 1)))], [], [.row e u .own, .row e u .own]⟩ (i, xs, vs) = some ⟨[(0, .v (.a (.sl 0))), (1, .v (.a (.fl (.int .i64) i))), (2, .v (.a (.sl 1)))], [.row e u xs .own false, .row e u vs .own false], [], .nil⟩ := by
      rw [h3, h1]; rfl
    exact Option.some.inj (hpat.symm.trans h2)
  have hob0 : RepL (RepP u) xs (g 0).cs (g 0).fs ∧ SlV (g 0).v xs.length ∧ (false = true → _) := CAL.ob 0
  have hob1 : RepL (RepP u) vs (g 1).cs (g 1).fs ∧ SlV (g 1).v vs.length ∧ (false = true → _) := CAL.ob 1
  obtain ⟨hcs0, hfs0⟩ := (RepL_flat u hfl _ _ _).1 hob0.1
  obtain ⟨hcs1, hfs1⟩ := (RepL_flat u hfl _ _ _).1 hob1.1
  have hown0 : w.ownsRow 0 e u.sz (g 0).v xs.length (xs.flatMap (flatT u).cells) := by
    have : (rowE (g 0).v e u.sz xs.length (g 0).cs).ok w := (ownE_lt hmB).1 (C.okL 0)
    rw [hcs0] at this; exact this
  have hown1 : w.ownsRow 0 e u.sz (g 1).v vs.length (vs.flatMap (flatT u).cells) := by
    have : (rowE (g 1).v e u.sz vs.length (g 1).cs).ok w := (ownE_lt hmB).1 (C.okL 1)
    rw [hcs1] at this; exact this
  have hsep : ∀ b, (g 0).v.ownBlock = some b → (g 1).v.ownBlock ≠ some b := fun b h0 h1 => C.sepL 0 1 (by decide) b h0 h1
  refine Calls.mono (h k i xs vs y (g 0).v (g 1).v w hy hown0 hown1 hsep) ?_
  rintro _ w' ⟨r, rfl, hfr, hown, hnew⟩
  obtain ⟨ao, cap, rfl, hao⟩ := own_slice hown
  obtain ⟨g', hg'⟩ : ∃ g' : Env, g' = fun i => if i = 2 then ⟨.slice ao y.length cap, rfl, 0, y.flatMap (flatT u).cells, []⟩ else g i := ⟨_, rfl⟩
  have g0 : ∀ i, i ≠ 2 → g' i = g i := fun i hi => by rw [hg']; simp [hi]
  have g2 : g' 2 = ⟨.slice ao y.length cap, rfl, 0, y.flatMap (flatT u).cells, []⟩ := by rw [hg']; simp
  have hN : fiN ⟨[(rB, .v (.a (.sl 2)))], [(0, .gone)], [.row e u .own]⟩ [⟨.sl e u, y⟩] = some ⟨[(rB, .v (.a (.sl 2)))], [(0, .gone)], [.row e u y .own false]⟩ := by
    have hyc : castT (a := .sl e u) (b := .sl e u) y = some y := castT_self (t := .sl e u) y
    simp only [fiN, fiList, fiP, fiS, fiV, fiA, fiO, hyc, Option.map_some]
  obtain ⟨S0, hS0⟩ : ∃ S0 : St, S0 = ⟨[(0, .v (.a (.sl 0))), (1, .v (.a (.fl (.int .i64) i))), (2, .v (.a (.sl 1)))], [.row e u xs .own false, .row e u vs .own false], [], .nil⟩ := ⟨_, rfl⟩
  have ob : ∀ j, (afterS ⟨[(0, .v (.a (.sl 0))), (1, .v (.a (.fl (.int .i64) i))), (2, .v (.a (.sl 1)))], [.row e u xs .own false, .row e u vs .own false], [], .nil⟩ ⟨[(rB, .v (.a (.sl 2)))], [(0, .gone)], [.row e u y .own false]⟩).ob j = if j = 1 then .row e u vs .own false else if j = 2 then .row e u y .own false else .gone := by
    intro j
    match j with
    | 0 => rfl
    | 1 => rfl
    | 2 => rfl
    | j + 3 => rfl
  have sob : ∀ j, (⟨[(0, .v (.a (.sl 0))), (1, .v (.a (.fl (.int .i64) i))), (2, .v (.a (.sl 1)))], [.row e u xs .own false, .row e u vs .own false], [], .nil⟩ : St).ob j = if j = 0 then .row e u xs .own false else if j = 1 then .row e u vs .own false else .gone := by
    intro j
    match j with
    | 0 => rfl
    | 1 => rfl
    | j + 2 => rfl
  refine ⟨_, rfl, 0, [⟨.sl e u, y⟩], _, ⟨[(rB, .v (.a (.sl 2)))], [(0, .gone)], [.row e u y .own false]⟩, .v (.a (.sl 2)), g', fun R q => rfl, rfl, hN, rfl, ?_, rfl, ?_, ⟨fun j => ?_, fun p hp => ?_, fun p hp o ho => ?_, fun j T ls hi => ?_⟩, ?_, ?_⟩
  · simp only [encS, encV, val1, g2]
  · intro o ho
    simp only [refS, refV, refA, List.mem_singleton] at ho
    subst ho
    simp [afterS]
  · rw [ob]
    split
    · rename_i hj; subst hj; exact obP_ext (g0 1 (by decide)) hob1
    · split
      · rename_i hj; subst hj
        simp only [obP, g2]
        exact ⟨(RepL_flat u hfl _ _ _).2 ⟨rfl, rfl⟩, ⟨ao, cap, rfl, hao⟩, fun h => by cases h⟩
      · trivial
  · simp only [afterS, List.mem_singleton] at hp; subst hp; rfl
  · simp only [afterS, List.mem_singleton] at hp; subst hp
    simp only [refS, refV, refA, List.mem_singleton] at ho
    subst ho
    simp [afterS]
  · rw [ob] at hi
    split at hi
    · cases hi
    · split at hi <;> cases hi
  · obtain ⟨L2, hL2⟩ : ∃ L2 : Nat → Ent, L2 = fun j => if j = 0 then ownE (.slice ao y.length cap) e u.sz y.length (y.flatMap (flatT u).cells) else entL g j ((⟨[(0, .v (.a (.sl 0))), (1, .v (.a (.fl (.int .i64) i))), (2, .v (.a (.sl 1)))], [.row e u xs .own false, .row e u vs .own false], [], .nil⟩ : St).ob j) := ⟨_, rfl⟩
    have C2 : CtxF w D A L2 (fun j => entR g j ((⟨[(0, .v (.a (.sl 0))), (1, .v (.a (.fl (.int .i64) i))), (2, .v (.a (.sl 1)))], [.row e u xs .own false, .row e u vs .own false], [], .nil⟩ : St).ob j)) w' := by
      refine cf_set 0 (E' := ownE (.slice ao y.length cap) e u.sz y.length (y.flatMap (flatT u).cells)) C hfr ((ownE_lt hmB).2 hown) hnew (fun j hj => ?_) ?_
      · rw [hL2]; simp only [if_neg hj]
      · rw [hL2]; simp only [if_true]
    refine cf_remap C2 (fun j => if j = 2 then 0 else if j = 0 then 2 else j) (fun j => ?_) (fun j j' hjj _ _ => ?_) (fun j => ?_)
    · simp only [ob]
      by_cases h1 : j = 1
      · subst h1
        refine .inr ?_
        simp only [if_true, hL2]
        rw [entL_ext (g0 1 (by decide)) (fun T ls h => by cases h)]
        exact Sub1.refl _ _
      · by_cases h2 : j = 2
        · subst h2
          refine .inr ?_
          simp only [if_true, hL2, entL, g2]
          exact Sub1.refl _ _
        · refine .inl ?_
          simp only [if_neg h1, if_neg h2]
          exact ⟨fun b hb => hb.elim, trivial⟩
    · show (if j = 2 then 0 else if j = 0 then 2 else j) ≠ (if j' = 2 then 0 else if j' = 0 then 2 else j')
      split <;> split <;> (try split) <;> (try split) <;> omega
    · simp only [ob]
      by_cases h1 : j = 1
      · subst h1
        refine .inr (.inl ⟨1, ?_, ?_⟩)
        · simp only [if_true]
          rw [entR_ext (g0 1 (by decide))]
          exact Sub1.refl _ _
        · simp only [if_true]
          rw [entR_ext (g0 1 (by decide))]
          exact id
      · by_cases h2 : j = 2
        · subst h2
          refine .inl ?_
          simp only [if_true, entR, g2]
          exact ⟨fun b hb => (by obtain ⟨f, hf, _⟩ := hb; cases hf), fun f hf => (by cases hf)⟩
        · refine .inl ?_
          simp only [if_neg h1, if_neg h2]
          exact ⟨fun b hb => hb.elim, trivial⟩
  · refine ⟨by simp [afterS], fun j hj => ?_, fun j hj hm => ?_, (fun j hj => by cases hj), fun t ht => absurd trivial ht, fun j hj e' t xs' m fu he => ?_⟩
    · have : j ≠ 2 := by simp at hj; omega
      rw [g0 j this]; exact ⟨rfl, rfl⟩
    · have h0 : j ≠ 0 := fun h => hm (by simp [h])
      have h1 : j = 1 := by simp at hj; omega
      subst h1
      exact ⟨rfl, g0 1 (by decide)⟩
    · have he : (afterS ⟨[(0, .v (.a (.sl 0))), (1, .v (.a (.fl (.int .i64) i))), (2, .v (.a (.sl 1)))], [.row e u xs .own false, .row e u vs .own false], [], .nil⟩ ⟨[(rB, .v (.a (.sl 2)))], [(0, .gone)], [.row e u y .own false]⟩).ob j = .row e' t xs' m fu := he
      rw [ob] at he
      have hj2 : j < 2 := by simpa using hj
      by_cases h1 : j = 1
      · subst h1
        simp only [if_true] at he
        exact ⟨e', xs', m, fu, he, rfl⟩
      · rw [if_neg h1, if_neg (by omega)] at he
        cases he
end Go.Proofs.YthdgllldpfeelaaGreatDoor
/- What slices.Grow needs: a contract that hands one row on. No condition. -/
set_option linter.unusedVariables false
set_option linter.unusedSimpArgs false
namespace Go.Proofs.YthdgllldpfeelaaGreatDoor
open Go
/-- A row and a number; a row out, in the place of the first one or anew. -/
theorem con_libGrow {P : Program} {f : Nat} {e : Nat} {u : Ty} {F : Nat → Int × List u.den → Option (List u.den)} (hfl : u.flat = true)
    (h : ∀ k i xs ys v1 w, F k (i, xs) = some ys → w.ownsRow 0 e u.sz v1 xs.length (xs.flatMap (flatT u).cells) →
      Fn P f [v1, .int .i64 i] w (fun r w' => Fr (fun b => v1.ownBlock = some b) w w' ∧ w'.ownsRow 0 e u.sz r ys.length (ys.flatMap (flatT u).cells) ∧ ∀ b, r.ownBlock = some b → v1.ownBlock = some b ∨ w.heap.size ≤ b)) (hmB : e < mB := by decide) :
    ConOk P ⟨f, ⟨[(0, .v (.a (.sl 0))), (1, .v (.a (.fl (.int .i64))))], [], [.row e u .own]⟩, [⟨[(rB, .v (.a (.sl 1)))], [(0, .gone)], [.row e u .own]⟩], F⟩ := by
  refine con_plain (by intro t ht; simp only [List.map_cons, List.map_nil, List.mem_cons, List.not_mem_nil, or_false] at ht; rcases ht with rfl | rfl <;> decide) ?_
  intro k x0 y0 S hrun hpat hkeys g w D A CAL C
  obtain ⟨y, rfl⟩ : ∃ y : List u.den, y = y0 := ⟨y0, rfl⟩
  obtain ⟨i, xs⟩ : Int × List u.den := x0
  have hy : F k (i, xs) = some y := hrun
  obtain rfl : S = ⟨[(0, .v (.a (.sl 0))), (1, .v (.a (.fl (.int .i64) i)))], [.row e u xs .own false], [], .nil⟩ := by
    have hi : castT (a := .int .i64) (b := .int .i64) i = some i := castT_self (t := .int .i64) i
    have hx : castT (a := .sl e u) (b := .sl e u) xs = some xs := castT_self (t := .sl e u) xs
    have h1 : fiN ⟨[(0, .v (.a (.sl 0))), (1, .v (.a (.fl (.int .i64))))], [], [.row e u .own]⟩ [⟨.int .i64, i⟩, ⟨.sl e u, xs⟩] = some ⟨[(0, .v (.a (.sl 0))), (1, .v (.a (.fl (.int .i64) i)))], [], [.row e u xs .own false]⟩ := by
      simp only [fiN, fiList, fiP, fiS, fiV, fiA, fiO, hi, hx, Option.map_some]
    have h3 : patSt ⟨[(0, .v (.a (.sl 0))), (1, .v (.a (.fl (.int .i64))))], [], [.row e u .own]⟩ (i, xs) = (fiN ⟨[(0, .v (.a (.sl 0))), (1, .v (.a (.fl (.int .i64))))], [], [.row e u .own]⟩ [⟨.int .i64, i⟩, ⟨.sl e u, xs⟩]).map fun N => fillB ⟨[], [], [], .nil⟩ 0 N := rfl
    have h2 : patSt ⟨[(0, .v (.a (.sl 0))), (1, .v (.a (.fl (.int .i64))))], [], [.row e u .own]⟩ (i, xs) = some ⟨[(0, .v (.a (.sl 0))), (1, .v (.a (.fl (.int .i64) i)))], [.row e u xs .own false], [], .nil⟩ := by
      rw [h3, h1]; rfl
    exact Option.some.inj (hpat.symm.trans h2)
  have hob0 : RepL (RepP u) xs (g 0).cs (g 0).fs ∧ SlV (g 0).v xs.length ∧ (false = true → _) := CAL.ob 0
  obtain ⟨hcs0, hfs0⟩ := (RepL_flat u hfl _ _ _).1 hob0.1
  have hown0 : w.ownsRow 0 e u.sz (g 0).v xs.length (xs.flatMap (flatT u).cells) := by
    have : (rowE (g 0).v e u.sz xs.length (g 0).cs).ok w := (ownE_lt hmB).1 (C.okL 0)
    rw [hcs0] at this; exact this
  refine Calls.mono (h k i xs y (g 0).v w hy hown0) ?_
  rintro _ w' ⟨r, rfl, hfr, hown, hnew⟩
  obtain ⟨ao, cap, rfl, hao⟩ := own_slice hown
  obtain ⟨g', hg'⟩ : ∃ g' : Env, g' = fun i => if i = 1 then ⟨.slice ao y.length cap, rfl, 0, y.flatMap (flatT u).cells, []⟩ else g i := ⟨_, rfl⟩
  have g0 : ∀ i, i ≠ 1 → g' i = g i := fun i hi => by rw [hg']; simp [hi]
  have g2 : g' 1 = ⟨.slice ao y.length cap, rfl, 0, y.flatMap (flatT u).cells, []⟩ := by rw [hg']; simp
  have hN : fiN ⟨[(rB, .v (.a (.sl 1)))], [(0, .gone)], [.row e u .own]⟩ [⟨.sl e u, y⟩] = some ⟨[(rB, .v (.a (.sl 1)))], [(0, .gone)], [.row e u y .own false]⟩ := by
    have hyc : castT (a := .sl e u) (b := .sl e u) y = some y := castT_self (t := .sl e u) y
    simp only [fiN, fiList, fiP, fiS, fiV, fiA, fiO, hyc, Option.map_some]
  have ob : ∀ j, (afterS ⟨[(0, .v (.a (.sl 0))), (1, .v (.a (.fl (.int .i64) i)))], [.row e u xs .own false], [], .nil⟩ ⟨[(rB, .v (.a (.sl 1)))], [(0, .gone)], [.row e u y .own false]⟩).ob j = if j = 1 then .row e u y .own false else .gone := by
    intro j
    match j with
    | 0 => rfl
    | 1 => rfl
    | j + 2 => rfl
  have sob : ∀ j, (⟨[(0, .v (.a (.sl 0))), (1, .v (.a (.fl (.int .i64) i)))], [.row e u xs .own false], [], .nil⟩ : St).ob j = if j = 0 then .row e u xs .own false else .gone := by
    intro j
    match j with
    | 0 => rfl
    | j + 1 => rfl
  refine ⟨_, rfl, 0, [⟨.sl e u, y⟩], _, ⟨[(rB, .v (.a (.sl 1)))], [(0, .gone)], [.row e u y .own false]⟩, .v (.a (.sl 1)), g', fun R q => rfl, rfl, hN, rfl, ?_, rfl, ?_, ⟨fun j => ?_, fun p hp => ?_, fun p hp o ho => ?_, fun j T ls hi => ?_⟩, ?_, ?_⟩
  · simp only [encS, encV, val1, g2]
  · intro o ho
    simp only [refS, refV, refA, List.mem_singleton] at ho
    subst ho
    simp [afterS]
  · rw [ob]
    split
    · rename_i hj; subst hj
      simp only [obP, g2]
      exact ⟨(RepL_flat u hfl _ _ _).2 ⟨rfl, rfl⟩, ⟨ao, cap, rfl, hao⟩, fun h => by cases h⟩
    · trivial
  · simp only [afterS, List.mem_singleton] at hp; subst hp; rfl
  · simp only [afterS, List.mem_singleton] at hp; subst hp
    simp only [refS, refV, refA, List.mem_singleton] at ho
    subst ho
    simp [afterS]
  · rw [ob] at hi
    split at hi <;> cases hi
  · obtain ⟨L2, hL2⟩ : ∃ L2 : Nat → Ent, L2 = fun j => if j = 0 then ownE (.slice ao y.length cap) e u.sz y.length (y.flatMap (flatT u).cells) else entL g j ((⟨[(0, .v (.a (.sl 0))), (1, .v (.a (.fl (.int .i64) i)))], [.row e u xs .own false], [], .nil⟩ : St).ob j) := ⟨_, rfl⟩
    have C2 : CtxF w D A L2 (fun j => entR g j ((⟨[(0, .v (.a (.sl 0))), (1, .v (.a (.fl (.int .i64) i)))], [.row e u xs .own false], [], .nil⟩ : St).ob j)) w' := by
      refine cf_set 0 (E' := ownE (.slice ao y.length cap) e u.sz y.length (y.flatMap (flatT u).cells)) C hfr ((ownE_lt hmB).2 hown) hnew (fun j hj => ?_) ?_
      · rw [hL2]; simp only [if_neg hj]
      · rw [hL2]; simp only [if_true]
    refine cf_remap C2 (fun j => if j = 1 then 0 else if j = 0 then 1 else j) (fun j => ?_) (fun j j' hjj _ _ => ?_) (fun j => ?_)
    · simp only [ob]
      by_cases h2 : j = 1
      · subst h2
        refine .inr ?_
        simp only [if_true, hL2, entL, g2]
        exact Sub1.refl _ _
      · refine .inl ?_
        simp only [if_neg h2]
        exact ⟨fun b hb => hb.elim, trivial⟩
    · show (if j = 1 then 0 else if j = 0 then 1 else j) ≠ (if j' = 1 then 0 else if j' = 0 then 1 else j')
      split <;> split <;> (try split) <;> (try split) <;> omega
    · simp only [ob]
      by_cases h2 : j = 1
      · subst h2
        refine .inl ?_
        simp only [if_true, entR, g2]
        exact ⟨fun b hb => (by obtain ⟨f, hf, _⟩ := hb; cases hf), fun f hf => (by cases hf)⟩
      · refine .inl ?_
        simp only [if_neg h2]
        exact ⟨fun b hb => hb.elim, trivial⟩
  · refine ⟨by simp [afterS], fun j hj => ?_, fun j hj hm => ?_, (fun j hj => by cases hj), fun t ht => absurd trivial ht, fun j hj e' t xs' m fu he => ?_⟩
    · have : j ≠ 1 := by simp at hj; omega
      rw [g0 j this]; exact ⟨rfl, rfl⟩
    · have h0 : j ≠ 0 := fun h => hm (by simp [h])
      simp at hj; omega
    · have he : (afterS ⟨[(0, .v (.a (.sl 0))), (1, .v (.a (.fl (.int .i64) i)))], [.row e u xs .own false], [], .nil⟩ ⟨[(rB, .v (.a (.sl 1)))], [(0, .gone)], [.row e u y .own false]⟩).ob j = .row e' t xs' m fu := he
      rw [ob] at he
      have hj2 : j < 1 := by simpa using hj
      rw [if_neg (by omega)] at he
      cases he
/-- slices.Grow, in the library's words: room, or a new row. -/
theorem grow_fn {P : Program} {f e sz by_ : Nat} {i0 : TypeInfo} {z : Value} {v : Value} {n : Nat} {xs : List Value} {w : World} {N : Nat} (hi0 : P.info? e = some i0) (hz0 : i0.zero = some z) (hsz : i0.size = sz) (hs0 : 0 < sz) (hby : i0.bytes = by_) (hb0 : 0 < by_) (hzc : z.cells.size = sz)
    (room : ∀ (base : Option Addr) (l c : Nat), l ≤ c → c ≤ 9223372036854775807 → l + N ≤ c → Calls P f #[.slice base l c, .int .i64 N] w fun e w' => e = .returned (.slice base l c) ∧ w' = w)
    (grow : ∀ (base : Option Addr) (l c : Nat) (cs : List Value), l ≤ c → c < l + N → (l + N) * i0.bytes ≤ 140737488355328 → l + N ≤ 4611686018427387904 → cs.length = c * i0.size → (base = none → c = 0) → (∀ a, base = some a → ∀ j v, cs[j]? = some v → w.cell? (a.add j) = some v) →
      Calls P f #[.slice base l c, .int .i64 N] w fun r w' => r = .returned (.slice (some ⟨w.heap.size, 0, none⟩) l (grownCap w (l + N) c e)) ∧
        w' = w.drew.alloc (.cells (cs.toArray ++ Builtin.zeroCells z.cells (l + N - c) ++ Builtin.zeroCells z.cells (grownCap w (l + N) c e - (l + N))) e))
    (hown : w.ownsRow 0 e sz v n xs) (hN : (n + N) * by_ ≤ 140737488355328) :
    Fn P f [v, .int .i64 N] w (fun r w' => Fr (fun b => v.ownBlock = some b) w w' ∧ w'.ownsRow 0 e sz r n xs ∧ ∀ b, r.ownBlock = some b → v.ownBlock = some b ∨ w.heap.size ≤ b) := by
  have hNle : n + N ≤ 140737488355328 := Nat.le_trans (Nat.le_mul_of_pos_right _ hb0) hN
  have hml : maxLen = 9223372036854775807 := rfl
  have go : ∀ (base : Option Addr) (c : Nat) (cs : List Value), v = .slice base n c → n ≤ c → c ≤ 9223372036854775807 → cs.length = c * sz → (base = none → c = 0) → (∀ a, base = some a → ∀ j v, cs[j]? = some v → w.cell? (a.add j) = some v) → cs.take (n * sz) = xs →
      Fn P f [v, .int .i64 N] w (fun r w' => Fr (fun b => v.ownBlock = some b) w w' ∧ w'.ownsRow 0 e sz r n xs ∧ ∀ b, r.ownBlock = some b → v.ownBlock = some b ∨ w.heap.size ≤ b) := by
    intro base c cs hv h1 h2 h3 h4 h5 h6
    by_cases hr : n + N ≤ c
    · subst hv
      refine Calls.mono (room base n c h1 h2 hr) ?_
      rintro r w' ⟨rfl, rfl⟩
      exact ⟨_, rfl, Fr.refl _ _, hown, fun b hb => .inl hb⟩
    · subst hv
      refine Calls.mono (grow base n c cs h1 (by omega) (by rw [hby]; exact hN) (by omega) (by rw [hsz]; exact h3) h4 h5) ?_
      rintro r w' ⟨rfl, rfl⟩
      have hge : n + N ≤ grownCap w (n + N) c e := grownCap_ge w (n + N) c e
      have hle : grownCap w (n + N) c e ≤ maxLen := grownCap_le_maxLen w (n + N) c e (by omega)
      have hzs : ∀ m, (Builtin.zeroCells z.cells m).size = m * sz := fun m => by simp [Builtin.zeroCells, hzc]
      obtain ⟨Z, hZ⟩ : ∃ Z, Z = cs.toArray ++ Builtin.zeroCells z.cells (n + N - c) ++ Builtin.zeroCells z.cells (grownCap w (n + N) c e - (n + N)) := ⟨_, rfl⟩
      rw [← hZ]
      refine ⟨_, rfl, ?_, ?_, fun b hb => ?_⟩
      · exact ((Fr.drawn w (w.drawn + 1)).then (Fr.alloc _ _)).mono (fun x hx => hx.elim)
      · refine ⟨hown.1, .inr ⟨w.heap.size, grownCap w (n + N) c e, Z, rfl, Nat.zero_le _, ?_, by omega, hle, ?_, ?_⟩⟩
        · show (w.drew.heap.push (.cells Z e (0, 0)))[w.heap.size]? = _
          have : w.drew.heap = w.heap := rfl
          rw [this]
          simp
        · rw [hZ]
          simp only [Array.size_append, List.size_toArray, hzs, h3]
          have e1 : grownCap w (n + N) c e = c + (n + N - c) + (grownCap w (n + N) c e - (n + N)) := by omega
          conv => rhs; rw [e1]
          rw [Nat.add_mul, Nat.add_mul]
        · rw [hZ]
          simp only [Array.toList_append, List.append_assoc]
          have : n * sz ≤ cs.length := by rw [h3]; exact Nat.mul_le_mul_right _ h1
          rw [List.take_append_of_le_length (by simpa using this)]
          simpa using h6
      · have hb : (Value.slice (some ⟨w.heap.size, 0, none⟩) n (grownCap w (n + N) c e)).ownBlock = some b := hb
        simp only [Value.ownBlock, Option.some.injEq] at hb
        right; omega
  rcases hown.2 with ⟨rfl, rfl⟩ | ⟨g, cap, cur, rfl, _, hg, h1, h2, h3, h4⟩
  · refine go none 0 [] rfl (Nat.le_refl _) (by omega) (by simp) (fun _ => rfl) (fun a ha => by cases ha) ?_
    have : xs = [] := List.eq_nil_of_length_eq_zero (by simpa using hown.1)
    rw [this]; simp
  · refine go (some ⟨g, 0, none⟩) cap cur.toList rfl h1 (by omega) (by simpa using h3) (fun h => by cases h) (fun a ha j u hj => ?_) h4
    cases ha
    rw [add_plain, Nat.zero_add, cell_of_row w g j cur e (0, 0) hg]
    simpa using hj
end Go.Proofs.YthdgllldpfeelaaGreatDoor
