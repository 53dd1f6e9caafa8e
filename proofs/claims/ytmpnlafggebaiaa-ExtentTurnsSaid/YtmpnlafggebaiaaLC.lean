/- What the operations do: those that only compute, at once and by reckoning; those that read and write memory, one by one. No condition. -/
import Derived.Test.YtmpnlafggebaiaaLB
set_option linter.unusedVariables false
set_option linter.unusedSimpArgs false
namespace Go.Proofs.Ytmpnlafggebaiaa
open Go

/-! ### operations that only compute -/
def isTy (P : Program) (t : TypeId) : Nat :=
  match P.underlying t with
  | some .bool => 1
  | some (.int _) => 2
  | some .string => 3
  | some (.slice _) => 4
  | some (.struct _) => 5
  | some (.array _ _) => 6
  | some (.pointer _) => 7
  | some (.map _ _) => 8
  | some (.func _ _ _) => 9
  | some _ => 10
  | none => 0
def intV (op : BinOp) (k : IntKind) (a b : Int) : Option Value :=
  match op with
  | .add => some (.int k (k.wrap (a + b)))
  | .sub => some (.int k (k.wrap (a - b)))
  | .mul => some (.int k (k.wrap (a * b)))
  | .quo => if b = 0 then none else some (.int k (k.wrap (a.tdiv b)))
  | .rem => if b = 0 then none else some (.int k (a.tmod b))
  | .and => some (.int k (k.wrap (BitVec.ofInt k.bits a &&& BitVec.ofInt k.bits b).toNat))
  | .or => some (.int k (k.wrap (BitVec.ofInt k.bits a ||| BitVec.ofInt k.bits b).toNat))
  | .xor => some (.int k (k.wrap (BitVec.ofInt k.bits a ^^^ BitVec.ofInt k.bits b).toNat))
  | .andNot => some (.int k (k.wrap (BitVec.ofInt k.bits a &&& ~~~(BitVec.ofInt k.bits b)).toNat))
  | .eql => some (.bool (a == b))
  | .neq => some (.bool (a != b))
  | .lss => some (.bool (decide (a < b)))
  | .leq => some (.bool (decide (a ≤ b)))
  | .gtr => some (.bool (decide (a > b)))
  | .geq => some (.bool (decide (a ≥ b)))
  | _ => none
def binV (P : Program) (op : BinOp) (t : TypeId) : Value → Value → Option Value
  | .int k a, .int k' b =>
    match op with
    | .shl => if b < 0 then none else some (.int k (k.wrap (a * 2 ^ (min b.toNat k.bits))))
    | .shr => if b < 0 then none else some (.int k (a.fdiv (2 ^ (min b.toNat k.bits))))
    | _ => if k = k' then intV op k a b else none
  | .bool a, .bool b =>
    match op with
    | .eql => if isTy P t = 1 then some (.bool (a == b)) else none
    | .neq => if isTy P t = 1 then some (.bool (!(a == b))) else none
    | _ => none
  | .string a, .string b =>
    match op with
    | .eql => some (.bool (a.toList == b.toList))
    | .neq => some (.bool (!(a.toList == b.toList)))
    | _ => none
  | _, _ => none
def fieldAt? (P : Program) (s : TypeId) (f : Nat) : Option Nat :=
  match P.underlying s with
  | some (.struct fs) => match fs[f]? with
    | some fd => match P.info? fd.type with
      | some i => if i.size = 0 then none else some fd.offset
      | none => none
    | none => none
  | _ => none
def buildV (P : Program) (t : TypeId) (parts : List (Nat × Value)) : Option Value :=
  match P.info? t, P.underlying t with
  | some i, some (.struct fs) => match i.zero with
    | some z => (Instr.fill (fun j => match fs[j]? with | some f => (P.info? f.type).map fun i => (f.offset, i.size) | none => none) z.cells parts).map .agg
    | none => none
  | _, _ => none
def callV (P : Program) (ρ : Operand → Value) (c : Call) : Option Value :=
  match c.callee with
  | .builtin b => match b, c.args.toList, c.argTypes.toList with
    | .len, [x], [t] => match isTy P t, ρ x with
      | 3, .string s => some (.int .i64 s.size)
      | 4, .slice _ n _ => some (.int .i64 n)
      | _, _ => none
    | .min, [x, y], _ => match ρ x, ρ y with
      | .int k a, .int _ b => some (.int k (if b < a then b else a))
      | _, _ => none
    | .max, [x, y], _ => match ρ x, ρ y with
      | .int k a, .int _ b => some (.int k (if b > a then b else a))
      | _, _ => none
    | _, _, _ => none
  | _ => none
def arrAt? (P : Program) (t : TypeId) : Option (Nat × Nat) :=
  match P.underlying t with
  | some (.array n e) => (P.info? e).map fun i => (n, i.size)
  | _ => none
def pureV (P : Program) (ρ : Operand → Value) : Op → Option Value
  | .move x | .assign x => some (ρ x)
  | .pick c x y => match ρ c with
    | .bool true => some (ρ x)
    | .bool false => some (ρ y)
    | _ => none
  | .binOp op t x y _ => binV P op t (ρ x) (ρ y)
  | .unOp op _ x => match op, ρ x with
    | .not, .bool b => some (.bool (!b))
    | .neg, .int k n => some (.int k (k.wrap (0 - n)))
    | _, _ => none
  | .convert src dst x => match P.underlying src, P.underlying dst, ρ x with
    | some _, some (.int k), .int _ n => some (.int k (k.wrap n))
    | _, _, _ => none
  | .extract t ix => match ρ t with
    | .tuple vs => vs[ix]?
    | _ => none
  | .fieldAddr s x f => match ρ x, fieldAt? P s f with
    | .pointer (some a), some off => some (.pointer (some (a.add off)))
    | _, _ => none
  | .indexAddr t x y => match ρ x, ρ y, arrAt? P t with
    | .pointer (some a), .int _ i, some (n, sz) => if 0 ≤ i ∧ i < n then some (.pointer (some (a.add (i.toNat * sz)))) else none
    | _, _, _ => none
  | .makeFunc fn fs cs => some (.func fn (fs.map ρ) (cs.map ρ))
  | .call c => callV P ρ c
  | _ => none
def Runs (P : Program) (ρ : Operand → Value) (op : Op) (w : World) (v : Value) (w' : World) : Prop :=
  ∀ o : Oper, o.op = op → (execOp ρ o).run P w = .ok (.value v) w'
theorem isTy_spec {P : Program} {t : TypeId} {n : Nat} (h : isTy P t = n) (hn : n ≠ 0) : ∃ d, P.underlying t = some d := by
  unfold isTy at h
  cases hu : P.underlying t with
  | none => rw [hu] at h; exact absurd h.symm hn
  | some d => exact ⟨d, rfl⟩
theorem run_eqGuard_int (P : Program) (w : World) (op : BinOp) (t : TypeId) (x y : Operand) (k k' : IntKind) (a b : Int) : (eqGuard op t x y (.int k a) (.int k' b)).run P w = .ok () w := by
  unfold eqGuard; split <;> rfl
theorem run_eqGuard_bool (P : Program) (w : World) (op : BinOp) (t : TypeId) (x y : Operand) (a b : Bool) : (eqGuard op t x y (.bool a) (.bool b)).run P w = .ok () w := by
  unfold eqGuard; split <;> rfl
theorem run_eqGuard_str (P : Program) (w : World) (op : BinOp) (t : TypeId) (x y : Operand) (a b : ByteArray) : (eqGuard op t x y (.string a) (.string b)).run P w = .ok () w := by
  unfold eqGuard; split <;> rfl
theorem run_intV {P : Program} {w : World} {op : BinOp} {t : TypeId} {k : IntKind} {a b : Int} {v : Value} (hs : op ≠ .shl ∧ op ≠ .shr) (h : intV op k a b = some v) :
    (binOp op t (.int k a) (.int k b)).run P w = .ok v w := by
  cases op <;> simp only [intV] at h
  case quo => split at h <;> first | (cases h; done) | (rename_i hb; cases h; simp [binOp, Op.intDiv, hb])
  case rem => split at h <;> first | (cases h; done) | (rename_i hb; cases h; simp [binOp, Op.intDiv, hb])
  case shl => exact absurd rfl hs.1
  case shr => exact absurd rfl hs.2
  all_goals first | (cases h; done) | (cases h; simp [binOp, Op.intArith, Op.intBits, Op.intCmp])
theorem run_eqBool {P : Program} {t : TypeId} (hu : P.underlying t = some .bool) (d : Nat) (a b : Bool) (w : World) : (Op.equalIn (d + 1) t (.bool a) (.bool b)).run P w = .ok (a == b) w := by
  simp [Op.equalIn, run_underlying hu]
theorem run_equalBool {P : Program} {t : TypeId} (hu : P.underlying t = some .bool) (a b : Bool) (w : World) : (Op.equal t (.bool a) (.bool b)).run P w = .ok (a == b) w :=
  run_eqBool hu 9999 a b w
theorem isTy1 {P : Program} {t : TypeId} (h : isTy P t = 1) : P.underlying t = some .bool := by
  unfold isTy at h
  split at h <;> first | assumption | (exfalso; revert h; decide)
theorem run_binV {P : Program} {w : World} {op : BinOp} {t : TypeId} {x y v : Value} (h : binV P op t x y = some v) : (binOp op t x y).run P w = .ok v w := by
  cases x <;> cases y <;> simp only [binV] at h <;> (try (cases h; done))
  case bool.bool a b =>
    cases op <;> simp only at h <;> (try (cases h; done)) <;> (split at h <;> (try (cases h; done))) <;> (rename_i ht; cases h) <;>
      simp only [binOp, Sem.run_bind, run_equalBool (isTy1 ht), Result.andThen_ok, Sem.run_pure]
  case int.int k a k' b =>
    cases op <;> simp only at h <;> first
      | (split at h <;> first
         | (cases h; done)
         | (rename_i hb; cases h; simp only [binOp, Op.shift, if_neg hb, Sem.run_pure]))
      | (split at h <;> first
         | (cases h; done)
         | (rename_i hk; subst hk; exact run_intV (by simp) h))
  case string.string a b =>
    cases op <;> simp only at h <;> first | (cases h; done) | (cases h; simp only [binOp, Op.stringOp, Sem.run_pure])
theorem isTy3 {P : Program} {t : TypeId} (h : isTy P t = 3) : P.underlying t = some .string := by
  unfold isTy at h
  split at h <;> first | assumption | (exfalso; revert h; decide)
theorem isTy4 {P : Program} {t : TypeId} (h : isTy P t = 4) : ∃ e, P.underlying t = some (.slice e) := by
  unfold isTy at h
  split at h <;> first | exact ⟨_, by assumption⟩ | (exfalso; revert h; decide)
theorem arr_of_list {α : Type} {xs : Array α} {l : List α} (h : xs.toList = l) : xs = l.toArray := by rw [← h]
theorem runs_call {P : Program} {ρ : Operand → Value} {c : Call} {v : Value} (h : callV P ρ c = some v) (w : World) : Runs P ρ (.call c) w v w := by
  intro o ho
  simp only [execOp, ho]
  unfold callV at h
  split at h
  · rename_i b hb
    split at h
    · rename_i x t hx ht
      have hx := arr_of_list hx
      have ht := arr_of_list ht
      split at h
      · rename_i s h3 hs
        cases h
        simp [resolve, hb, invoke, builtin, Builtin.len_, hx, ht, run_underlying (isTy3 h3), hs, goInt]
      · rename_i n cp h4 hs
        cases h
        obtain ⟨e, he⟩ := isTy4 h4
        simp [resolve, hb, invoke, builtin, Builtin.len_, hx, ht, run_underlying he, hs, goInt]
      · cases h
    · rename_i x y _ hx
      have hx := arr_of_list hx
      split at h
      · rename_i k a _ b h1 h2
        cases h
        simp [resolve, hb, invoke, builtin, Builtin.min_, hx, h1, h2, Builtin.min2]
      · cases h
    · rename_i x y _ hx
      have hx := arr_of_list hx
      split at h
      · rename_i k a _ b h1 h2
        cases h
        simp [resolve, hb, invoke, builtin, Builtin.max_, hx, h1, h2, Builtin.max2]
      · cases h
    · cases h
  · cases h
theorem runs_pure {P : Program} {ρ : Operand → Value} {op : Op} {v : Value} (h : pureV P ρ op = some v) (w : World) : Runs P ρ op w v w := by
  cases op <;> simp only [pureV] at h <;> (try (cases h; done))
  case call c => exact runs_call h w
  case move x => cases h; intro o ho; simp [execOp, ho]
  case assign x => cases h; intro o ho; simp [execOp, ho]
  case pick c x y =>
    intro o ho
    split at h
    · rename_i hc; cases h; simp [execOp, ho, hc, asBool]
    · rename_i hc; cases h; simp [execOp, ho, hc, asBool]
    · cases h
  case binOp bop t x y t' =>
    intro o ho
    have hg : (eqGuard bop t x y (ρ x) (ρ y)).run P w = .ok () w := by
      revert h
      cases ρ x <;> cases ρ y <;> simp only [binV] <;> intro h <;> first
        | exact run_eqGuard_int ..
        | exact run_eqGuard_bool ..
        | exact run_eqGuard_str ..
        | (cases h)
    simp [execOp, ho, hg, run_binV h]
  case unOp uop t x =>
    intro o ho
    split at h
    · rename_i hx; cases h; simp [execOp, ho, hx, Op.unary]
    · rename_i hx; cases h; simp [execOp, ho, hx, Op.unary, Op.intArith]
    · cases h
  case convert src dst x =>
    intro o ho
    split at h
    · rename_i h1 h2 hx; cases h; simp [execOp, ho, convert, run_underlying h1, run_underlying h2, hx, Conv.intToInt]
    · cases h
  case extract t ix =>
    intro o ho
    split at h
    · rename_i vs hx; simp [execOp, ho, Instr.extract, hx, h]
    · cases h
  case indexAddr t x y =>
    intro o ho
    split at h
    · rename_i ad i n sz hx hy hf
      split at h
      · rename_i hi
        cases h
        unfold arrAt? at hf
        split at hf
        · rename_i nn e hu
          obtain ⟨q, hq, hs⟩ := Option.map_eq_some_iff.1 hf
          cases hs
          simp [execOp, ho, Instr.indexAt, hx, hy, asIntOf, run_underlying hu, hi.1, hi.2, sizeOf, typeInfo, hq, Instr.sureAddr]
        · cases hf
      · cases h
    · cases h
  case fieldAddr s x f =>
    intro o ho
    split at h
    · rename_i ad off hx hf
      cases h
      unfold fieldAt? at hf
      split at hf
      · rename_i fs hu
        split at hf
        · rename_i fd hfd
          split at hf
          · rename_i i hi
            split at hf
            · cases hf
            · rename_i hsz
              cases hf
              simp [execOp, ho, Instr.fieldAt, run_underlying hu, hfd, hx, Instr.sureAddr, fieldPlace, sizeOf, typeInfo, hi, hsz]
          · cases hf
        · cases hf
      · cases hf
    · cases h
  case makeFunc fn fs cs => cases h; intro o ho; simp [execOp, ho, Instr.makeFunc]
end Go.Proofs.Ytmpnlafggebaiaa
