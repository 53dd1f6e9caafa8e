/- How a region is walked: operation by operation where its order is fixed; in an order of ours where it is open. No condition. -/
import Derived.Test.YtmpnlafggebaiaaLC
set_option linter.unusedVariables false
set_option linter.unusedSimpArgs false
namespace Go.Proofs.Ytmpnlafggebaiaa
open Go

def sig (ops : Array Oper) (i : Nat) : Option (Option Tmp × Op × Option (Nat × Bool)) := (ops.toList[i]?).map fun o => (o.dst, o.op, o.guard)
def wantM (ops : Array Oper) (m : List (Nat × Value)) : Option (Nat × Bool) → Option Bool
  | none => some true
  | some (g, want) => match (ops.toList[g]?).bind (·.dst) with
    | some d => match look m d with
      | some (.bool b) => some (b == want)
      | some _ => some false
      | none => none
    | none => none
def noSel : Op → Bool
  | .select _ _ => false
  | _ => true
def opKnown (m : List (Nat × Value)) (op : Op) : Bool := noSel op && op.operands.toList.all (known m)
def wl (P : Program) (ops : Array Oper) (Q : Exit → Act → World → Prop) (i : Nat) (a : Act) (w : World) : Prop := wpList P ops Q (ops.toList.drop i) a w
section
variable {P : Program} {ops : Array Oper} {Q : Exit → Act → World → Prop} {a : Act} {w : World} {n : Nat} {m : List (Nat × Value)}
theorem sig_spec {i : Nat} {s : Option Tmp × Op × Option (Nat × Bool)} (h : sig ops i = some s) :
    ∃ o, ops[i]? = some o ∧ ops.toList.drop i = o :: ops.toList.drop (i + 1) ∧ o.dst = s.1 ∧ o.op = s.2.1 ∧ o.guard = s.2.2 := by
  unfold sig at h
  obtain ⟨o, ho, he⟩ := Option.map_eq_some_iff.1 h
  obtain ⟨hlt, hg⟩ := List.getElem?_eq_some_iff.1 ho
  refine ⟨o, by simpa using ho, by rw [List.drop_eq_getElem_cons hlt, hg], ?_⟩
  subst he
  exact ⟨rfl, rfl, rfl⟩
theorem want_spec (hS : Sl n m a) {o : Oper} {t : Bool} (h : wantM ops m o.guard = some t) : Region.wanted o (yielded ops a.tmps) = t := by
  unfold wantM at h
  unfold Region.wanted
  split at h
  · rename_i hg; rw [hg]; exact (Option.some.inj h)
  · rename_i g want hg
    rw [hg]
    simp only
    split at h
    · rename_i d hd
      have hd' : (ops[g]?).bind (·.dst) = some d := by simpa using hd
      split at h
      · rename_i b hb
        have := hS.slots d _ hb
        simp only [yielded, hd', Option.bind_some, this]
        cases h
        cases b <;> cases want <;> rfl
      · rename_i v hne hv
        have := hS.slots d _ hv
        simp only [yielded, hd', Option.bind_some, this]
        cases h
        cases v <;> first | rfl | exact absurd rfl (hne _)
      · cases h
    · cases h
theorem known_exec (hS : Sl n m a) {o : Oper} (h : opKnown m o.op = true) : execOp a.eval o = execOp (ev m) o := by
  simp only [opKnown, Bool.and_eq_true, List.all_eq_true] at h
  refine execOp_congr o ?_ (fun x hx => hS.ev (h.2 x (by simpa using hx)))
  intro cs b e
  rw [e] at h
  exact absurd h.1 (by simp [noSel])
theorem c_region {c : Code} (h : c.kind.1 = 2) (hw : wl P c.ops Q 0 a w) : c.wp P Q a w := by
  cases c <;> simp [Code.kind] at h
  case region i o d =>
    cases d <;> simp at h
    exact wp_region_list (by simpa [wl, Code.ops] using hw)
theorem wl_nil {i : Nat} (h : sig ops i = none) (q : Q .normal a w) : wl P ops Q i a w := by
  have : ops.toList.drop i = [] := by
    simp only [sig, Option.map_eq_none_iff] at h
    exact List.drop_eq_nil_of_le (List.getElem?_eq_none_iff.1 h)
  unfold wl
  rw [this]
  exact q
/-- What an operation does: whatever comes out meets K. -/
def Eff (P : Program) (ρ : Operand → Value) (op : Op) (w : World) (K : Value → World → Prop) : Prop :=
  ∀ (o : Oper) (a : Act) (next : Act → World → Prop) (Q' : Exit → Act → World → Prop), o.op = op → execOp a.eval o = execOp ρ o →
    (∀ v w', K v w' → next (a.put o.dst v) w') → o.wp P a w next Q'
theorem eff_runs {ρ : Operand → Value} {op : Op} {v : Value} {w' : World} (h : Runs P ρ op w v w') {K : Value → World → Prop} (hK : K v w') : Eff P ρ op w K := by
  intro o a next Q' ho he k
  unfold Oper.wp
  rw [he, h o ho]
  exact k _ _ hK
def RunsS (P : Program) (ρ : Operand → Value) (op : Op) (w w' : World) : Prop :=
  ∀ o : Oper, o.op = op → (execOp ρ o).run P w = .ok .skip w'
theorem eff_skip {ρ : Operand → Value} {op : Op} {w' : World} (h : RunsS P ρ op w w') {K : Value → World → Prop} (hK : K undef w') : Eff P ρ op w K := by
  intro o a next Q' ho he k
  unfold Oper.wp
  rw [he, h o ho]
  exact k _ _ hK
def Fn (P : Program) (f : FuncId) (args : List Value) (w : World) (K : Value → World → Prop) : Prop :=
  Calls P f args.toArray w fun e w' => ∃ v, e = .returned v ∧ K v w'
def enters (P : Program) (f : FuncId) : Bool :=
  match P.funcs[f]? with
  | some fn => !(fn.name == "runtime.NumGoroutine") && fn.body.isSome
  | none => false
theorem run_callFunc {f : FuncId} (h : enters P f = true) (args : Array Value) (w : World) : (callFunc f args).run P w = .ok (.enter f args) w := by
  unfold enters at h
  split at h
  · rename_i fn hf
    simp only [Bool.and_eq_true, Bool.not_eq_true'] at h
    have hb : fn.body.isNone = false := by cases hq : fn.body <;> simp_all
    have h1 : ¬ fn.name = "runtime.NumGoroutine" := by have := h.1; simpa using this
    have h2 : ¬ fn.body = none := by intro e; rw [e] at hb; cases hb
    simp [callFunc, hf, h1, h2]
  · cases h
def Fv (P : Program) (fv : Value) (args : List Value) (w : World) (K : Value → World → Prop) : Prop :=
  ∃ f caps, fv = .func (.func f) #[] caps ∧ enters P f = true ∧ Fn P f (args ++ caps.toList) w K
theorem eff_fv {ρ : Operand → Value} {x : Operand} {xs : Array Operand} {ts : Array TypeId} {K : Value → World → Prop} {A : List Value} (hA : xs.toList.map ρ = A)
    (hc : Fv P (ρ x) A w K) : Eff P ρ (.call { callee := .value x, args := xs, argTypes := ts }) w K := by
  intro o a next Q' ho he k
  obtain ⟨f, caps, hv, hf, hc⟩ := hc
  unfold Oper.wp
  have hr : (execOp ρ o).run P w = .ok (.enter f (A ++ caps.toList).toArray) w := by
    subst hA
    simp only [execOp, ho, resolve, hv, Deferred.ofValue, Sem.run_bind, Sem.run_pure, Result.andThen_ok, invoke]
    have e : (#[] ++ xs.map ρ) ++ caps = (xs.toList.map ρ ++ caps.toList).toArray := by
      apply Array.toList_inj.1; simp
    rw [e]
    exact run_callFunc hf _ _
  rw [he, hr, Oper.upon_enter]
  refine Calls.mono hc ?_
  rintro e w' ⟨v, rfl, hK⟩
  exact k v w' hK
theorem eff_fn {ρ : Operand → Value} {f : FuncId} {xs : Array Operand} {ts : Array TypeId} {K : Value → World → Prop} {A : List Value} (hA : xs.toList.map ρ = A)
    (hρ : ρ (.func f) = .func (.func f) #[] #[]) (hf : enters P f = true) (hc : Fn P f A w K) : Eff P ρ (.call { callee := .value (.func f), args := xs, argTypes := ts }) w K :=
  eff_fv hA ⟨f, #[], hρ, hf, by simpa using hc⟩
theorem wl_eff {i : Nat} {d : Option Tmp} {op : Op} {g : Option (Nat × Bool)} {K : Value → World → Prop} (hS : Sl n m a) (hs : sig ops i = some (d, op, g))
    (hw : (wantM ops m g == some true && wid n d && opKnown m op) = true) (he : Eff P (ev m) op w K)
    (k : ∀ v w', K v w' → ∀ a', Sl n (putM m d v) a' → wl P ops Q (i + 1) a' w') : wl P ops Q i a w := by
  obtain ⟨o, h1, h2, h3, h4, h5⟩ := sig_spec hs
  simp only at h3 h4 h5
  simp only [Bool.and_eq_true, beq_iff_eq] at hw
  obtain ⟨⟨hw, hd⟩, hk⟩ := hw
  subst h3 h4 h5
  unfold wl
  rw [h2]
  unfold wpList
  rw [if_pos (want_spec hS hw)]
  exact .inl (he o a _ _ rfl (known_exec hS hk) (fun v w' hK => k v w' hK _ (hS.put _ _ hd)))
def pures (P : Program) (ops : Array Oper) (n : Nat) : Nat → Nat → List (Nat × Value) → Option (List (Nat × Value))
  | _, 0, m => some m
  | i, c + 1, m => match sig ops i with
    | some (d, op, g) => match wid n d, wantM ops m g with
      | true, some true => match opKnown m op, pureV P (ev m) op with
        | true, some v => pures P ops n (i + 1) c (putM m d v)
        | _, _ => none
      | true, some false => pures P ops n (i + 1) c (putM m d undef)
      | _, _ => none
    | none => none
theorem wl_pures0 : ∀ (c i : Nat) (m m' : List (Nat × Value)) (a : Act), Sl n m a → pures P ops n i c m = some m' → (∀ a', Sl n m' a' → wl P ops Q (i + c) a' w) → wl P ops Q i a w
  | 0, i, m, m', a, hS, hp, k => by simp [pures] at hp; subst hp; exact k a hS
  | c + 1, i, m, m', a, hS, hp, k => by
    simp only [pures] at hp
    split at hp
    · rename_i d op g hs
      obtain ⟨o, h1, h2, h3, h4, h5⟩ := sig_spec hs
      simp only at h3 h4 h5
      subst h3 h4 h5
      split at hp
      · rename_i hd hw
        split at hp
        · rename_i v hk hv
          unfold wl
          rw [h2]
          unfold wpList
          rw [if_pos (want_spec hS hw)]
          refine .inl ?_
          unfold Oper.wp
          rw [known_exec hS hk, runs_pure hv w o rfl]
          exact wl_pures0 c (i + 1) _ m' _ (hS.put _ _ hd) hp (fun a' h' => by have := k a' h'; rwa [show i + 1 + c = i + (c + 1) by omega])
        · cases hp
      · rename_i hd hw
        unfold wl
        rw [h2]
        unfold wpList
        rw [if_neg (by rw [want_spec hS hw]; simp)]
        exact wl_pures0 c (i + 1) _ m' _ (hS.put _ _ hd) hp (fun a' h' => by have := k a' h'; rwa [show i + 1 + c = i + (c + 1) by omega])
      · cases hp
    · cases hp
theorem wl_pures {i j : Nat} {m' : List (Nat × Value)} (hS : Sl n m a) (c : Nat) (ks : List Nat) (hp : (pures P ops n i c m).map (keep · ks) = some m') (hj : i + c = j)
    (k : ∀ a', Sl n m' a' → wl P ops Q j a' w) : wl P ops Q i a w := by
  obtain ⟨m1, h1, h2⟩ := Option.map_eq_some_iff.1 hp
  subst hj
  exact wl_pures0 c i m m1 a hS h1 (fun a' h' => k a' (h'.keep ks h2))

/-! ### a region that draws its order -/
/-- Whichever order is picked from here on; S holds behind every operation but 'q'. -/
def wpD (P : Program) (ops : Array Oper) (Q : Exit → Act → World → Prop) (S : World → Prop) (q : Nat) : Nat → Array Bool → Act → World → Prop
  | 0, listed, a, w => Region.ready .any ops listed = [] ∧ Q .normal a w
  | fuel + 1, listed, a, w => (Region.ready .any ops listed = [] → Q .normal a w) ∧
    ∀ i ∈ Region.ready .any ops listed, wpOp P ops Q i (fun a' w' => (i = q ∨ S w') ∧ wpD P ops Q S q fuel (listed.setIfInBounds i true) a' w') a w
def onB (ops : Array Oper) (q j : Nat) : Bool := ((ops.toList[q]?).map fun o => o.after.toList.any fun e => Region.binds .any e && e.on == j).getD false
/-- It waits for all the others (or there is none of that number). -/
def lastB (ops : Array Oper) (q : Nat) : Bool :=
  decide (ops.size ≤ q) || (List.range ops.size).all fun j => j == q || onB ops q j || (List.range ops.size).any fun m => onB ops q m && (onB ops m j || (List.range ops.size).any fun m' => onB ops m m' && onB ops m' j)
/-- What has come up has all come up that it waits for. -/
def Closed (ops : Array Oper) (listed : Array Bool) : Prop := ∀ j o, ops[j]? = some o → listed.getD j false = true → ∀ e ∈ o.after, Region.binds .any e = true → listed.getD e.on false = true
theorem closed_on {listed : Array Bool} (hc : Closed ops listed) {q j : Nat} (hq : listed.getD q false = true) (h : onB ops q j = true) : listed.getD j false = true := by
  unfold onB at h
  cases ho : ops.toList[q]? with
  | none => rw [ho] at h; cases h
  | some o =>
    rw [ho] at h
    simp only [Option.map_some, Option.getD_some, List.any_eq_true, Bool.and_eq_true, beq_iff_eq] at h
    obtain ⟨ed, hm, hb, he⟩ := h
    have := hc q o (by simpa using ho) hq ed (by simpa using hm) hb
    rwa [he] at this
theorem closed_set {listed : Array Bool} (hc : Closed ops listed) {i : Nat} (hi : i ∈ Region.ready .any ops listed) : Closed ops (listed.setIfInBounds i true) := by
  obtain ⟨hiu, oi, hoi, hall⟩ := mem_ready.1 hi
  intro j o ho hj e he hb
  by_cases hji : j = i
  · subst hji
    rw [hoi] at ho
    cases ho
    exact getD_set_true (hall e he hb)
  · rw [getD_set_ne false (Ne.symm hji)] at hj
    exact getD_set_true (hc j o ho hj e he hb)
theorem lastB_spec {q : Nat} (h : lastB ops q = true) {listed : Array Bool} (hc : Closed ops listed) (hq : q ∈ Region.ready .any ops listed) {i : Nat} (hi : i ∈ Region.ready .any ops listed) : i = q := by
  obtain ⟨_, oq, hoq, hall⟩ := mem_ready.1 hq
  obtain ⟨hiu, oi, hoi, _⟩ := mem_ready.1 hi
  have hq' : q < ops.size := (Array.getElem?_eq_some_iff.1 hoq).1
  have hi' : i < ops.size := (Array.getElem?_eq_some_iff.1 hoi).1
  have direct : ∀ j, onB ops q j = true → listed.getD j false = true := by
    intro j hj
    unfold onB at hj
    have e : ops.toList[q]? = some oq := by simpa using hoq
    rw [e] at hj
    simp only [Option.map_some, Option.getD_some, List.any_eq_true, Bool.and_eq_true, beq_iff_eq] at hj
    obtain ⟨ed, hm, hb, ho⟩ := hj
    have h1 := hall ed (by simpa using hm) hb
    rwa [ho] at h1
  have key : i = q ∨ listed.getD i false = true := by
    simp only [lastB, Bool.or_eq_true, decide_eq_true_eq, List.all_eq_true, List.mem_range] at h
    rcases h with h | h
    · omega
    · rcases h i hi' with (h | h) | h
      · exact .inl (by simpa using h)
      · exact .inr (direct i h)
      · simp only [List.any_eq_true, List.mem_range, Bool.and_eq_true, Bool.or_eq_true] at h
        obtain ⟨m, _, h1, h2⟩ := h
        have hm := direct m h1
        rcases h2 with h2 | ⟨m', _, h2, h3⟩
        · exact .inr (closed_on hc hm h2)
        · exact .inr (closed_on hc (closed_on hc hm h2) h3)
  rcases key with h | h1
  · exact h
  · have hlt : i < listed.size := by
      rcases Nat.lt_or_ge i listed.size with h' | h'
      · exact h'
      · simp [Array.getElem?_eq_none h'] at h1
    simp [hlt] at h1 hiu
    rw [hiu] at h1
    cases h1
theorem wpD_any {S : World → Prop} {q : Nat} : ∀ (fuel : Nat) (listed : Array Bool) (a : Act) (w : World), wpD P ops Q S q fuel listed a w → wpAny P .any ops Q fuel listed a w
  | 0, _, _, _, h => h
  | fuel + 1, _, _, _, h => ⟨h.1, fun i hi => wpOp_mono (fun a' w' h' => wpD_any fuel _ a' w' h'.2) (h.2 i hi)⟩
theorem wpD_take {S : World → Prop} {q i : Nat} {oi : Oper} {v : Value} (hl : lastB ops q = true) (hi : ops[i]? = some oi) (hs : Region.noSelect ops = true)
    (hQ : ∀ c a w, Q (.panic c) (a.put oi.dst v) w → Q (.panic c) a w) :
    ∀ (fuel : Nat) (listed : Array Bool) (a : Act) (w : World), Closed ops listed →
      (∀ j oj, ops[j]? = some oj → j ≠ i → listed.getD j true = false → (∀ e ∈ oj.after, Region.binds .any e = true → e.on ≠ i) → oi.apart ops oj = true) →
      i ∈ Region.ready .any ops listed → YieldsIf P ops S oi v a → S w →
      wpD P ops Q S q fuel (listed.setIfInBounds i true) (a.put oi.dst v) w → wpD P ops Q S q (fuel + 1) listed a w := by
  have hsel := Region.noSelect_spec hs
  intro fuel
  induction fuel with
  | zero =>
    intro listed a w hcl _ hr hy hS H
    refine ⟨fun h => (by rw [h] at hr; cases hr), fun j hj => ?_⟩
    by_cases hji : j = i
    · subst hji; exact hy.wpOp hi hS ⟨.inr hS, H⟩
    · have := ready_mono hj hji
      rw [H.1] at this
      cases this
  | succ fuel ih =>
    intro listed a w hcl hfree hr hy hS H
    refine ⟨fun h => (by rw [h] at hr; cases hr), fun j hj => ?_⟩
    by_cases hji : j = i
    · subst hji; exact hy.wpOp hi hS ⟨.inr hS, H⟩
    · have h1 := H.2 j (ready_mono hj hji)
      obtain ⟨hjun, oj, hoj, hall⟩ := mem_ready.1 hj
      have hjq : j ≠ q := fun e => hji (by subst e; exact (lastB_spec hl hcl hj hr).symm)
      have hnot : ∀ e ∈ oj.after, Region.binds .any e = true → e.on ≠ i := fun e he hb heq => by
        have h1 := hall e he hb
        have h0 := (mem_ready.1 hr).1
        rw [heq] at h1
        rcases Nat.lt_or_ge i listed.size with h' | h'
        · simp [h'] at h0 h1; rw [h0] at h1; cases h1
        · simp [Array.getElem?_eq_none h'] at h1
      have h2 := wpOp_putIf hoj (hfree j oj hoj hji hjun hnot) (fun cs b => hsel i oi cs b hi) (fun cs b => hsel j oj cs b hoj) hQ hy h1
      have hfree' : ∀ k ok, ops[k]? = some ok → k ≠ i → (listed.setIfInBounds j true).getD k true = false →
          (∀ e ∈ ok.after, Region.binds .any e = true → e.on ≠ i) → oi.apart ops ok = true := fun k ok hk hki hun hno => by
        refine hfree k ok hk hki ?_ hno
        by_cases hjk : j = k
        · subst hjk; exact hjun
        · rw [getD_set_ne true hjk] at hun; exact hun
      refine wpOp_mono (fun a' w' h3 => ?_) h2
      have hS' : S w' := h3.2.1.resolve_left hjq
      refine ⟨.inr hS', ih (listed.setIfInBounds j true) a' w' (closed_set hcl hj) hfree' (ready_mono hr (Ne.symm hji)) h3.1 hS' ?_⟩
      rw [Array.setIfInBounds_comm _ _ hji]
      exact h3.2.2
def mask (n : Nat) : List Nat → Array Bool
  | [] => Array.replicate n false
  | i :: l => (mask n l).setIfInBounds i true
def dr (P : Program) (ops : Array Oper) (Q : Exit → Act → World → Prop) (S : World → Prop) (q fuel : Nat) (l : List Nat) (a : Act) (w : World) : Prop :=
  lastB ops q = true → Region.noSelect ops = true → Closed ops (mask ops.size l) → wpD P ops (calmQ Q) S q fuel (mask ops.size l) a w
theorem calm_put (Q : Exit → Act → World → Prop) (d : Option Tmp) (v : Value) : ∀ c a w, calmQ Q (.panic c) (a.put d v) w → calmQ Q (.panic c) a w := fun _ _ _ h => h
theorem c_draws {c : Code} {N : Nat} (q : Nat) (h : c.kind.1 = 3) (hm : P.follows .mixedOrders = true) (S : World → Prop) (hN : c.ops.size = N) (hl : (lastB c.ops q && Region.noSelect c.ops) = true)
    (hd : ∀ w', Fr nob w w' → dr P c.ops Q S q N [] a w') : c.wp P Q a w := by
  simp only [Bool.and_eq_true] at hl
  cases c <;> simp [Code.kind] at h
  case region i o d =>
    cases d <;> simp at h
    refine c_calm (wp_region_any hm (wpD_any (S := S) (q := q) _ _ _ _ ?_))
    have := hd _ (Fr.drawn w (w.drawn + 1)) hl.1 hl.2 (fun j o _ hj => by simp [mask, Code.ops, Array.getElem?_replicate] at hj; split at hj <;> simp at hj)
    subst hN
    exact this
def canB (ops : Array Oper) (l : List Nat) (j : Nat) : Bool := Region.free .any ops (mask ops.size l) j && (Region.ready .any ops (mask ops.size l)).contains j
theorem dr_take {S : World → Prop} {q fuel j : Nat} {l : List Nat} {d : Option Tmp} {op : Op} {g : Option (Nat × Bool)} {v : Value} (hS : Sl n m a) (hs : sig ops j = some (d, op, g))
    (hw : (canB ops l j && (wantM ops m g == some true) && wid n d && opKnown m op) = true)
    (hr : ∀ w', S w' → Runs P (ev m) op w' v w') (hSw : S w) (k : ∀ a', Sl n (putM m d v) a' → dr P ops Q S q fuel (j :: l) a' w) : dr P ops Q S q (fuel + 1) l a w := by
  intro hl hn hcl
  obtain ⟨o, h1, h2, h3, h4, h5⟩ := sig_spec hs
  simp only at h3 h4 h5
  simp only [Bool.and_eq_true, beq_iff_eq, canB] at hw
  obtain ⟨⟨⟨⟨hf, hc⟩, hw⟩, hd⟩, hk⟩ := hw
  subst h3 h4 h5
  exact wpD_take hl h1 hn (calm_put _ _ _) _ _ _ _ hcl (Region.free_spec h1 hf) (by simpa using hc) (.inl ⟨want_spec hS hw, fun w' hw' => by rw [known_exec hS hk]; exact hr w' hw' o rfl⟩) hSw (k _ (hS.put _ _ hd) hl hn (closed_set hcl (by simpa using hc)))
def drp (P : Program) (ops : Array Oper) (n : Nat) : List Nat → List Nat → List (Nat × Value) → Option (List (Nat × Value))
  | [], _, m => some m
  | j :: js, l, m => match sig ops j with
    | some (d, op, g) => match wid n d && canB ops l j, wantM ops m g with
      | true, some true => match opKnown m op, pureV P (ev m) op with
        | true, some v => drp P ops n js (j :: l) (putM m d v)
        | _, _ => none
      | true, some false => drp P ops n js (j :: l) (putM m d undef)
      | _, _ => none
    | none => none
theorem dr_pures0 {S : World → Prop} {q : Nat} (hSw : S w) : ∀ (js l : List Nat) (m m' : List (Nat × Value)) (a : Act) (fuel : Nat), Sl n m a → drp P ops n js l m = some m' →
    (∀ a', Sl n m' a' → dr P ops Q S q fuel (js.reverse ++ l) a' w) → dr P ops Q S q (fuel + js.length) l a w
  | [], l, m, m', a, fuel, hS, hp, k => by simp [drp] at hp; subst hp; exact k a hS
  | j :: js, l, m, m', a, fuel, hS, hp, k => by
    intro hl hn hcl
    simp only [drp] at hp
    split at hp
    · rename_i d op g hs
      obtain ⟨o, h1, h2, h3, h4, h5⟩ := sig_spec hs
      simp only at h3 h4 h5
      subst h3 h4 h5
      split at hp
      · rename_i hd hw
        simp only [Bool.and_eq_true, canB] at hd
        split at hp
        · rename_i v hk hv
          refine wpD_take hl h1 hn (calm_put _ _ _) (fuel + js.length) _ _ _ hcl (Region.free_spec h1 hd.2.1) (by simpa using hd.2.2) (.inl ⟨want_spec hS hw, fun w' _ => by rw [known_exec hS hk]; exact runs_pure hv w' o rfl⟩) hSw ?_
          exact dr_pures0 hSw js (j :: l) _ m' _ fuel (hS.put _ _ hd.1) hp (fun a' h' => by have := k a' h'; simpa using this) hl hn (closed_set hcl (by simpa using hd.2.2))
        · cases hp
      · rename_i hd hw
        simp only [Bool.and_eq_true, canB] at hd
        refine wpD_take hl h1 hn (calm_put _ _ _) (fuel + js.length) _ _ _ hcl (Region.free_spec h1 hd.2.1) (by simpa using hd.2.2) (.inr ⟨want_spec hS hw, rfl⟩) hSw ?_
        exact dr_pures0 hSw js (j :: l) _ m' _ fuel (hS.put _ _ hd.1) hp (fun a' h' => by have := k a' h'; simpa using this) hl hn (closed_set hcl (by simpa using hd.2.2))
      · cases hp
    · cases hp
/-- Some operations that only compute, one behind the other. -/
theorem dr_pures {S : World → Prop} {q F fuel : Nat} {l l' : List Nat} {m' : List (Nat × Value)} (hS : Sl n m a) (hSw : S w) (js ks : List Nat)
    (hp : (drp P ops n js l m).map (keep · ks) = some m') (hF : fuel + js.length = F) (hl : js.reverse ++ l = l')
    (k : ∀ a', Sl n m' a' → dr P ops Q S q fuel l' a' w) : dr P ops Q S q F l a w := by
  obtain ⟨m1, h1, h2⟩ := Option.map_eq_some_iff.1 hp
  subst hF hl
  exact dr_pures0 hSw js l m m1 a fuel hS h1 (fun a' h' => k a' (h'.keep ks h2))
/-- The only one that may come up, whatever it does. -/
theorem dr_eff {S : World → Prop} {q fuel j : Nat} {l : List Nat} {d : Option Tmp} {op : Op} {g : Option (Nat × Bool)} {K : Value → World → Prop} (hS : Sl n m a) (hs : sig ops j = some (d, op, g))
    (hr : Region.ready .any ops (mask ops.size l) = [j]) (hw : ((wantM ops m g == some true) && wid n d && opKnown m op) = true) (he : Eff P (ev m) op w K)
    (k : ∀ v w', K v w' → (j = q ∨ S w') ∧ ∀ a', Sl n (putM m d v) a' → dr P ops Q S q fuel (j :: l) a' w') : dr P ops Q S q (fuel + 1) l a w := by
  intro hl hn hcl
  obtain ⟨o, h1, h2, h3, h4, h5⟩ := sig_spec hs
  simp only at h3 h4 h5
  simp only [Bool.and_eq_true, beq_iff_eq] at hw
  obtain ⟨⟨hw, hd⟩, hk⟩ := hw
  subst h3 h4 h5
  refine ⟨fun h0 => (by rw [hr] at h0; cases h0), fun i hi => ?_⟩
  rw [hr] at hi
  simp only [List.mem_singleton] at hi
  subst hi
  unfold wpOp
  rw [h1]
  simp only
  rw [if_pos (want_spec hS hw)]
  exact .inl (he o a _ _ rfl (known_exec hS hk) (fun v w' hK => ⟨(k v w' hK).1, (k v w' hK).2 _ (hS.put _ _ hd) hl hn (closed_set hcl (by rw [hr]; simp))⟩))
theorem dr_done {S : World → Prop} {q : Nat} {l : List Nat} (hr : Region.ready .any ops (mask ops.size l) = []) (h : Q .normal a w) : dr P ops Q S q 0 l a w :=
  fun _ _ _ => ⟨hr, h⟩
end
end Go.Proofs.Ytmpnlafggebaiaa
