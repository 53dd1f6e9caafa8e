/- Texts of the proof, put together: part 8. No condition. -/
import Derived.Test.YtindlajlkghneaaGreatDoorT7
/- Library functions: what they compute. No condition. -/
set_option linter.unusedVariables false
set_option linter.unusedSimpArgs false
namespace Go.Proofs.YtindlajlkghneaaGreatDoor
open Go
def zOf (P : Program) (t : TypeId) : Value := match elemInfo P t with
  | some (_, _, _, some z) => z
  | _ => undef
/-! ### bits.Len64 -/
def L_math_bits_Len64 (k : Nat) (x : Int) : Option Int := guardO (0 ≤ x ∧ x ≤ 18446744073709551615) (some ((Lib.bitLen x.toNat : Nat) : Int))
theorem L_math_bits_Len64_ok : ConOk Tryz.prog ⟨125, ⟨[(0, .v (.a (.fl (.int .u64))))], [], []⟩, [⟨[(100000, .v (.a (.fl (.int .i64))))], [], []⟩], L_math_bits_Len64⟩ := by
  refine con_lib1 (t := .int .i64) (pat := ⟨[(0, .v (.a (.fl (.int .u64))))], [], []⟩) rfl rfl (by decide) ?_
  intro k x y S w hf hp
  obtain ⟨z, rfl⟩ : ∃ z : Int, z = x := ⟨x, rfl⟩
  obtain rfl : S = ⟨[(0, .v (.a (.fl (.int .u64) z)))], [], [], .nil⟩ := Option.some.inj (hp.symm.trans rfl)
  unfold L_math_bits_Len64 at hf
  obtain ⟨h, hf⟩ := guardO_some.1 hf
  · cases hf
    refine Calls.mono (Tryz.bits_Len64 z w h.1 h.2) ?_
    rintro e w' ⟨rfl, rfl⟩
    exact ⟨_, rfl, rfl, Fr.refl _ _⟩

/-! ### strings.Join -/
def L_strings_Join (k : Nat) (x : ByteArray × List ByteArray) : Option ByteArray :=
  guardO (2 ≤ x.2.length ∧ x.2.length ≤ 1000000 ∧ (Lib.join (x.2.map (·.data.toList)) x.1.data.toList).length ≤ 140737488355328) (some ⟨(Lib.join (x.2.map (·.data.toList)) x.1.data.toList).toArray⟩)
theorem str_cells : ∀ xs : List ByteArray, xs.flatMap (flatT .str).cells = xs.map Value.string
  | [] => rfl
  | x :: xs => by rw [List.flatMap_cons, str_cells xs]; rfl
theorem L_strings_Join_ok : ConOk Tryz.prog ⟨104, ⟨[(0, .v (.a (.sl 0))), (1, .v (.a (.fl .str)))], [], [.row 9 .str .lent]⟩, [⟨[(100000, .v (.a (.fl .str)))], [], []⟩], L_strings_Join⟩ := by
  refine con_libV (t := .str) (pat := ⟨[(0, .v (.a (.sl 0))), (1, .v (.a (.fl .str)))], [], [.row 9 .str .lent]⟩) (by decide) ?_
  intro k x y S g w hf hp CAL _ hR
  obtain ⟨sep, xs⟩ : ByteArray × List ByteArray := x
  have hf : L_strings_Join k (sep, xs) = some y := hf
  obtain rfl : S = ⟨[(0, .v (.a (.sl 0))), (1, .v (.a (.fl .str sep)))], [.row 9 .str xs .lent false], [], .nil⟩ := Option.some.inj (hp.symm.trans rfl)
  unfold L_strings_Join at hf
  obtain ⟨⟨h1, h2, h3⟩, hf⟩ := guardO_some.1 hf
  cases hf
  simp only at h1 h2 h3
  have hrep : RepL (RepP .str) xs (g 0).cs (g 0).fs := (CAL.ob 0).1
  have hcs := ((RepL_flat .str rfl _ _ _).1 hrep).1
  rw [str_cells] at hcs
  have hrd : Rds (g 0).v xs.length 1 (xs.map Value.string) w := by
    have := hR 0 (⟨(g 0).v, xs.length, 1, (g 0).cs⟩) (List.mem_cons_self ..)
    rw [hcs] at this
    exact this
  obtain ⟨_, ao, c, hv, hc1, hc2, hc3, hcell⟩ := hrd
  obtain ⟨ad, rfl, h0⟩ := hcell 0 (Value.string xs[0]) (by rw [List.getElem?_map, List.getElem?_eq_getElem (by omega)]; rfl)
  obtain ⟨bk, o, spot⟩ := ad
  have hsp : spot = none := by
    cases spot with
    | none => rfl
    | some s =>
      unfold World.cell? at h0
      simp only [Addr.add] at h0
      split at h0
      · simp at h0
      · cases h0
  subst hsp
  have hcells : ∀ (j : Nat) x, xs[j]? = some x → w.cell? ⟨bk, o + j, none⟩ = some (.string x) := fun j x hj => by
    obtain ⟨ad', ha, hc⟩ := hcell j (.string x) (by rw [List.getElem?_map, hj]; rfl)
    cases ha
    rw [add_plain] at hc
    exact hc
  have hbk : bk < w.heap.size := World.block_lt_of_cell? w _ (hcells 0 xs[0] (List.getElem?_eq_getElem (by omega)))
  have hgo := Tryz.strings_Join bk o c xs sep w hcells hbk (by omega) hc1 h3
  have harg : (List.map (fun p => encS g p.2) (⟨[(0, .v (.a (.sl 0))), (1, .v (.a (.fl .str sep)))], [.row 9 .str xs .lent false], [], .nil⟩ : St).slots) = [.slice (some ⟨bk, o, none⟩) xs.length c, .string sep] := by
    simp [encS, encV, val1, hv]
  rw [harg]
  refine Calls.mono hgo ?_
  rintro e w' ⟨rfl, hb⟩
  exact ⟨_, rfl, rfl, fr_below hb⟩

/-! ### strings.Repeat -/
def L_strings_Repeat (k : Nat) (x : ByteArray × Int) : Option ByteArray :=
  guardO (0 ≤ x.2 ∧ x.2 ≤ 9223372036854775807 ∧ x.1.size * x.2.toNat ≤ 140737488355328) (some ⟨(Lib.repeatL x.1.data.toList x.2.toNat).toArray⟩)
theorem L_strings_Repeat_ok : ConOk Tryz.prog ⟨117, ⟨[(0, .v (.a (.fl .str))), (1, .v (.a (.fl (.int .i64))))], [], []⟩, [⟨[(100000, .v (.a (.fl .str)))], [], []⟩], L_strings_Repeat⟩ := by
  refine con_lib1 (t := .str) (pat := ⟨[(0, .v (.a (.fl .str))), (1, .v (.a (.fl (.int .i64))))], [], []⟩) rfl rfl (by decide) ?_
  intro k x y S w hf hp
  obtain ⟨s, m⟩ : ByteArray × Int := x
  have hf : L_strings_Repeat k (s, m) = some y := hf
  obtain rfl : S = ⟨[(0, .v (.a (.fl .str s))), (1, .v (.a (.fl (.int .i64) m)))], [], [], .nil⟩ := Option.some.inj (hp.symm.trans rfl)
  unfold L_strings_Repeat at hf
  obtain ⟨⟨h1, h2, h3⟩, hf⟩ := guardO_some.1 hf
  cases hf
  simp only at h1 h2 h3
  obtain ⟨n, rfl⟩ : ∃ n : Nat, m = (n : Int) := ⟨m.toNat, by omega⟩
  rw [Int.toNat_natCast] at h3
  refine Calls.mono (Tryz.strings_Repeat s n w (by omega) h3) ?_
  rintro e w' ⟨rfl, hb⟩
  exact ⟨_, rfl, by rw [Int.toNat_natCast]; rfl, fr_below hb⟩

/-! ### slices.Clone -/
set_option maxRecDepth 20000 in
theorem clone_walk56 (xs : List (Ty.den (.arr 32 (.int .u8)))) (v : Value) (w : World) (hr : Rds v xs.length (Ty.sz (.arr 32 (.int .u8))) (xs.flatMap (flatT (.arr 32 (.int .u8))).cells) w) (hb : xs.length * 32 ≤ 140737488355328) :
    Fn Tryz.prog 56 [v] w (fun r w' => Fr nob w w' ∧ w'.ownsRow 0 32 (Ty.sz (.arr 32 (.int .u8))) r xs.length (xs.flatMap (flatT (.arr 32 (.int .u8))).cells) ∧ ∀ b, r.ownBlock = some b → w.heap.size ≤ b) := by
  obtain ⟨hcs, ao, c, rfl, hc1, hc2, hc3, hrd⟩ := hr
  refine f_enter (fn := Tryz.f56) (k := 7) rfl rfl rfl fun a hS => ?_
  have hS : Sl 8 [(0, .slice ao xs.length c)] a := hS
  refine c_seq (by kernel_rfl) (c_region (by kernel_rfl) ?_)
  refine wl_pures (j := 1) hS 1 [0] (m' := [(0, .slice ao xs.length c)]) (by kernel_rfl) (by kernel_rfl) fun a hS => wl_nil (by kernel_rfl) (q_then ?_)
  cases ao with
  | none =>
    obtain rfl := hc3 rfl
    have hx : xs = [] := List.eq_nil_of_length_eq_zero (by omega)
    subst hx
    refine c_seq (by kernel_rfl) (c_seq (by kernel_rfl) (c_region (by kernel_rfl) ?_))
    refine wl_pures (j := 1) hS 1 [0, 3] (m' := [(0, .slice none 0 0), (3, .slice none 0 0)]) (by kernel_rfl) (by kernel_rfl) fun a hS => ?_
    refine wl_val hS (v := .bool true) (d := some 4) (op := .binOp .eql 22 (.tmp 3) (.const (.slice none 0 0)) 22) (g := none) (by kernel_rfl) (by kernel_rfl) (r_eqnil (e := 32) (ao := none) rfl rfl (by kernel_rfl)) fun a hS => wl_nil (by kernel_rfl) (q_then ?_)
    refine c_cond (t := true) (by kernel_rfl) (hS.ev (x := .tmp 4) rfl) (fun _ => ?_) (fun h => by cases h)
    refine c_seq (by kernel_rfl) (c_region (by kernel_rfl) ?_)
    refine wl_pures (j := 1) hS 1 [2] (m' := [(2, .slice none 0 0)]) (by kernel_rfl) (by kernel_rfl) fun a hS => wl_nil (by kernel_rfl) (q_then ?_)
    exact c_ret (by kernel_rfl) (q_thenr (q_ret (vs := [.slice none 0 0]) hS rfl ⟨_, rfl, Fr.refl _ _, World.ownsRow_nil w _ _ _, fun b hb => by cases hb⟩))
  | some ad =>
    refine c_seq (by kernel_rfl) (c_seq (by kernel_rfl) (c_region (by kernel_rfl) ?_))
    refine wl_pures (j := 1) hS 1 [0, 3] (m' := [(0, .slice (some ad) xs.length c), (3, .slice (some ad) xs.length c)]) (by kernel_rfl) (by kernel_rfl) fun a hS => ?_
    refine wl_val hS (v := .bool false) (d := some 4) (op := .binOp .eql 22 (.tmp 3) (.const (.slice none 0 0)) 22) (g := none) (by kernel_rfl) (by kernel_rfl) (r_eqnil (e := 32) (ao := some ad) rfl rfl (by kernel_rfl)) fun a hS => wl_nil (by kernel_rfl) (q_then ?_)
    refine c_cond (t := false) (by kernel_rfl) (hS.ev (x := .tmp 4) rfl) (fun h => by cases h) (fun _ => c_skip (by kernel_rfl) (q_then ?_))
    refine c_seq (by kernel_rfl) (c_region (by kernel_rfl) ?_)
    refine wl_eff (d := some 5) (op := .buildSlice 22 0 #[]) (g := none) hS (by kernel_rfl) (by kernel_rfl) (eff_slit (e := 32) (sz := Ty.sz (.arr 32 (.int .u8))) (cs := []) (ctx0 w) (by kernel_rfl) (by simp) (by omega)) ?_
    rintro _ w1 ⟨⟨b, rfl⟩, C⟩ a hS
    refine wl_pures (j := 2) hS 1 [5, 6] (m' := [(5, .slice (some ⟨b, 0, none⟩) 0 0), (6, .slice (some ad) xs.length c)]) (by kernel_rfl) (by kernel_rfl) fun a hS => ?_
    have hsrc : Rds (.slice (some ad) xs.length c) xs.length (Ty.sz (.arr 32 (.int .u8))) (xs.flatMap (flatT (.arr 32 (.int .u8))).cells) w1 := (rdE true _ _ _ _).keep ⟨hcs, some ad, c, rfl, hc1, hc2, hc3, hrd⟩ C.fr (fun _ _ h => h)
    refine wl_eff (d := some 7) (op := .call { callee := .builtin .append, args := #[.tmp 5, .tmp 6], argTypes := #[22, 22] }) (g := none) hS (by kernel_rfl) (by kernel_rfl)
      (eff_append (li := 0) (n := 0) (m := xs.length) (sz := Ty.sz (.arr 32 (.int .u8))) (bytes := 32) (e := 32) (z := zOf Tryz.prog 22) (xs := []) C rfl rfl rfl hsrc (fun u hu => by
        obtain ⟨x, _, hx⟩ := List.mem_flatMap.1 hu
        exact (flatT (.arr 32 (.int .u8))).one x u hx) (by kernel_rfl) (by kernel_rfl) (by decide) (by omega) (by decide)) ?_
    intro r w2 C2 a hS
    refine wl_pures (j := 4) hS 1 [2] (m' := [(2, r)]) (by kernel_rfl) (by kernel_rfl) fun a hS => wl_nil (by kernel_rfl) (q_then ?_)
    have hown : w2.ownsRow 0 32 (Ty.sz (.arr 32 (.int .u8))) r xs.length (xs.flatMap (flatT (.arr 32 (.int .u8))).cells) := by
      have := (C2.okL 0 _ rfl : (rowE r 32 (Ty.sz (.arr 32 (.int .u8))) (0 + xs.length) ([] ++ xs.flatMap (flatT (.arr 32 (.int .u8))).cells)).ok w2)
      rwa [Nat.zero_add, List.nil_append] at this
    refine c_ret (by kernel_rfl) (q_ret (vs := [r]) hS rfl ⟨_, rfl, C2.fr, hown, fun b' hb' => ?_⟩)
    rcases C2.mine 0 _ rfl b' hb' with h | h
    · exact h.elim
    · exact h
def L_clone56 (k : Nat) (x : List (Ty.den (.arr 32 (.int .u8)))) : Option (List (Ty.den (.arr 32 (.int .u8)))) := guardO (x.length * 32 ≤ 140737488355328) (some x)
theorem L_clone56_ok : ConOk Tryz.prog ⟨56, ⟨[(0, .v (.a (.sl 0)))], [], [.row 32 (.arr 32 (.int .u8)) .lent]⟩, [⟨[(100000, .v (.a (.sl 1)))], [], [.row 32 (.arr 32 (.int .u8)) .own]⟩], L_clone56⟩ := by
  refine con_libRow (pat := ⟨[(0, .v (.a (.sl 0)))], [], [.row 32 (.arr 32 (.int .u8)) .lent]⟩) 1 (by decide) (fun x S h => by obtain rfl := (Option.some.inj (h.symm.trans rfl) : S = ⟨[(0, .v (.a (.sl 0)))], [.row 32 (.arr 32 (.int .u8)) x .lent false], [], .nil⟩); rfl) rfl ?_
  intro k (xs : List (Ty.den (.arr 32 (.int .u8)))) y S g w hf hp CAL _ hR
  obtain rfl : S = ⟨[(0, .v (.a (.sl 0)))], [.row 32 (.arr 32 (.int .u8)) xs .lent false], [], .nil⟩ := Option.some.inj (hp.symm.trans rfl)
  have hf : L_clone56 k xs = some y := hf
  unfold L_clone56 at hf
  obtain ⟨h1, hf⟩ := guardO_some.1 hf
  cases hf
  have hrep : RepL (RepP (.arr 32 (.int .u8))) xs (g 0).cs (g 0).fs := (CAL.ob 0).1
  have hcs := ((RepL_flat (.arr 32 (.int .u8)) rfl _ _ _).1 hrep).1
  have hrd : Rds (g 0).v xs.length (Ty.sz (.arr 32 (.int .u8))) (xs.flatMap (flatT (.arr 32 (.int .u8))).cells) w := by
    have := hR 0 (⟨(g 0).v, xs.length, Ty.sz (.arr 32 (.int .u8)), (g 0).cs⟩) (List.mem_cons_self ..)
    rw [hcs] at this
    exact this
  exact clone_walk56 xs (g 0).v w hrd h1

/-! ### slices.Insert of one, ahead of some -/
set_option maxRecDepth 20000 in
theorem insert_walk63 (xs : List (Ty.den (.arr 32 (.int .u8)))) (x : Ty.den (.arr 32 (.int .u8))) (q cap : Nat) (cur : Array Value) (vq vcap : Nat) (vcur : Array Value) (w : World)
    (hg : w.heap[q]? = some (.cells cur 32 (0, 0))) (hvg : w.heap[vq]? = some (.cells vcur 32 (0, 0))) (hne : vq ≠ q) (h1 : 1 ≤ xs.length) (hcap : xs.length ≤ cap) (hcm : cap ≤ maxLen) (hcs : cur.size = cap * Ty.sz (.arr 32 (.int .u8))) (htk : cur.toList.take (xs.length * Ty.sz (.arr 32 (.int .u8))) = xs.flatMap (flatT (.arr 32 (.int .u8))).cells)
    (hv1 : 1 ≤ vcap) (hvm : vcap ≤ maxLen) (hvs : vcur.size = vcap * Ty.sz (.arr 32 (.int .u8))) (hvt : vcur.toList.take (1 * Ty.sz (.arr 32 (.int .u8))) = [x].flatMap (flatT (.arr 32 (.int .u8))).cells) (hb : (xs.length + 1) * 32 ≤ 140737488355328) :
    Fn Tryz.prog 63 [.slice (some ⟨q, 0, none⟩) xs.length cap, .int .i64 0, .slice (some ⟨vq, 0, none⟩) 1 vcap] w (fun r w' => Fr (fun b => b = q) w w' ∧ w'.ownsRow 0 32 (Ty.sz (.arr 32 (.int .u8))) r (x :: xs).length ((x :: xs).flatMap (flatT (.arr 32 (.int .u8))).cells) ∧ ∀ b, r.ownBlock = some b → b = q ∨ w.heap.size ≤ b) := by
  have hz : Ty.sz (.arr 32 (.int .u8)) = 32 := rfl
  have hML : maxLen = 9223372036854775807 := rfl
  obtain ⟨n, hn⟩ : ∃ n, n = xs.length := ⟨_, rfl⟩
  rw [← hn] at h1 hcap htk hb ⊢
  obtain ⟨X, hX⟩ : ∃ X, X = xs.flatMap (flatT (.arr 32 (.int .u8))).cells := ⟨_, rfl⟩
  obtain ⟨Y, hY⟩ : ∃ Y, Y = [x].flatMap (flatT (.arr 32 (.int .u8))).cells := ⟨_, rfl⟩
  have hXl : X.length = n * Ty.sz (.arr 32 (.int .u8)) := by rw [hX, flat_len, hn, flatT_sz]
  have hYl : Y.length = Ty.sz (.arr 32 (.int .u8)) := by rw [hY, flat_len, flatT_sz]; simp
  have hX1 : ∀ v ∈ X, v.oneCell' = true := by rw [hX]; exact flat_one _ _
  have hY1 : ∀ v ∈ Y, v.oneCell' = true := by rw [hY]; exact flat_one _ _
  have hXY : (x :: xs).flatMap (flatT (.arr 32 (.int .u8))).cells = Y ++ X := by rw [hY, hX]; simp
  have hnl : (x :: xs).length = n + 1 := by rw [hn]; rfl
  rw [← hX] at htk
  rw [← hY] at hvt
  rw [hXY, hnl]
  rw [hz] at hXl hYl hcs hvs htk hvt ⊢
  have hqlt : q < w.heap.size := (Array.getElem?_eq_some_iff.1 hg).1
  have hvlt : vq < w.heap.size := (Array.getElem?_eq_some_iff.1 hvg).1
  -- cells of the row, of what is put ahead
  have rdX : ∀ {w' : World}, w'.heap[q]? = some (.cells cur 32 (0, 0)) → ∀ (j : Nat) u, X[j]? = some u → w'.cell? ((⟨q, 0, none⟩ : Addr).add j) = some u := by
    intro w' hw j u hj
    rw [add_plain]
    unfold World.cell?
    simp only [hw, Option.isSome_none, Bool.false_eq_true, if_false, Nat.zero_add]
    have hj' := hj
    rw [← htk, List.getElem?_take] at hj'
    split at hj'
    · simpa using hj'
    · cases hj'
  have rdY : ∀ {w' : World}, w'.heap[vq]? = some (.cells vcur 32 (0, 0)) → ∀ (j : Nat) u, Y[j]? = some u → w'.cell? ((⟨vq, 0, none⟩ : Addr).add j) = some u := by
    intro w' hw j u hj
    rw [add_plain]
    unfold World.cell?
    simp only [hw, Option.isSome_none, Bool.false_eq_true, if_false, Nat.zero_add]
    have hj' := hj
    rw [← hvt, List.getElem?_take] at hj'
    split at hj'
    · simpa using hj'
    · cases hj'
  have hshp : Shp (.slice (some ⟨q, 0, none⟩) n cap) n := ⟨_, cap, rfl, hcap, by omega, fun h => by cases h⟩
  have hvshp : Shp (.slice (some ⟨vq, 0, none⟩) 1 vcap) 1 := ⟨_, vcap, rfl, hv1, by omega, fun h => by cases h⟩
  have hnb : n + 1 ≤ 140737488355328 := Nat.le_trans (Nat.le_mul_of_pos_right _ (by decide : 0 < 32)) hb
  refine f_enter (fn := Tryz.f63) (k := 92) rfl rfl rfl fun a hS => ?_
  have hS : Sl 95 [(0, .slice (some ⟨q, 0, none⟩) n cap), (1, .int .i64 0), (2, .slice (some ⟨vq, 0, none⟩) 1 vcap)] a := hS
  refine c_seq (by kernel_rfl) (c_region (by kernel_rfl) ?_)
  refine wl_pures (j := 1) hS 1 [0, 1, 2] (m' := [(0, .slice (some ⟨q, 0, none⟩) n cap), (1, .int .i64 0), (2, .slice (some ⟨vq, 0, none⟩) 1 vcap)]) (by kernel_rfl) (by kernel_rfl) fun a hS => wl_nil (by kernel_rfl) (q_then ?_)
  refine c_seq (by kernel_rfl) (c_region (by kernel_rfl) ?_)
  refine wl_pures (j := 2) hS 2 [0, 1, 2, 10, 11] (m' := [(0, .slice (some ⟨q, 0, none⟩) n cap), (1, .int .i64 0), (2, .slice (some ⟨vq, 0, none⟩) 1 vcap), (10, .slice (some ⟨q, 0, none⟩) n cap), (11, .int .i64 0)]) (by kernel_rfl) (by kernel_rfl) fun a hS => ?_
  refine wl_val hS (v := cutV (.slice (some ⟨q, 0, none⟩) n cap) 0 n 32) (d := some 12) (op := .slice 22 (.tmp 10) (some (.tmp 11)) none none) (g := none) (by kernel_rfl) (by kernel_rfl) (r_cut (hi := none) (lo := some (.tmp 11)) (h := n) (l := 0) hshp rfl (by kernel_rfl) (by simp [hiOf]) (by exact lo_ok .i64 0 (by omega) (by omega))) fun a hS => wl_nil (by kernel_rfl) (q_then ?_)
  refine c_seq (by kernel_rfl) (c_region (by kernel_rfl) ?_)
  refine wl_pures (j := 1) hS 1 [0, 1, 2, 13] (m' := [(0, .slice (some ⟨q, 0, none⟩) n cap), (1, .int .i64 0), (2, .slice (some ⟨vq, 0, none⟩) 1 vcap), (13, .slice (some ⟨vq, 0, none⟩) 1 vcap)]) (by kernel_rfl) (by kernel_rfl) fun a hS => ?_
  refine wl_val hS (v := .int .i64 1) (d := some 14) (op := .call { callee := .builtin .len, args := #[.tmp 13], argTypes := #[22] }) (g := none) (by kernel_rfl) (by kernel_rfl) (r_len hvshp rfl (by kernel_rfl)) fun a hS => ?_
  refine wl_pures (j := 3) hS 1 [0, 1, 2, 7] (m' := [(0, .slice (some ⟨q, 0, none⟩) n cap), (1, .int .i64 0), (2, .slice (some ⟨vq, 0, none⟩) 1 vcap), (7, .int .i64 1)]) (by kernel_rfl) (by kernel_rfl) fun a hS => wl_nil (by kernel_rfl) (q_then ?_)
  refine c_seq (by kernel_rfl) (c_seq (by kernel_rfl) (c_region (by kernel_rfl) ?_))
  refine wl_pures (j := 2) hS 2 [0, 1, 2, 7, 16] (m' := [(0, .slice (some ⟨q, 0, none⟩) n cap), (1, .int .i64 0), (2, .slice (some ⟨vq, 0, none⟩) 1 vcap), (7, .int .i64 1), (16, .bool false)]) (by kernel_rfl) (by kernel_rfl) fun a hS => wl_nil (by kernel_rfl) (q_then ?_)
  refine c_cond (t := false) (by kernel_rfl) (hS.ev (x := .tmp 16) rfl) (fun h => by cases h) (fun _ => c_skip (by kernel_rfl) (q_then ?_))
  refine c_seq (by kernel_rfl) (c_region (by kernel_rfl) ?_)
  refine wl_pures (j := 1) hS 1 [0, 1, 2, 7, 18] (m' := [(0, .slice (some ⟨q, 0, none⟩) n cap), (1, .int .i64 0), (2, .slice (some ⟨vq, 0, none⟩) 1 vcap), (7, .int .i64 1), (18, .slice (some ⟨q, 0, none⟩) n cap)]) (by kernel_rfl) (by kernel_rfl) fun a hS => ?_
  refine wl_val hS (v := .int .i64 (n : Int)) (d := some 19) (op := .call { callee := .builtin .len, args := #[.tmp 18], argTypes := #[22] }) (g := none) (by kernel_rfl) (by kernel_rfl) (r_len hshp rfl (by kernel_rfl)) fun a hS => ?_
  refine wl_pures (j := 3) hS 1 [0, 1, 2, 7, 8] (m' := [(0, .slice (some ⟨q, 0, none⟩) n cap), (1, .int .i64 0), (2, .slice (some ⟨vq, 0, none⟩) 1 vcap), (7, .int .i64 1), (8, .int .i64 (n : Int))]) (by kernel_rfl) (by kernel_rfl) fun a hS => wl_nil (by kernel_rfl) (q_then ?_)
  refine c_seq (by kernel_rfl) (c_seq (by kernel_rfl) (c_region (by kernel_rfl) ?_))
  refine wl_pures (j := 3) hS 3 [0, 1, 2, 7, 8, 22] (m' := [(0, .slice (some ⟨q, 0, none⟩) n cap), (1, .int .i64 0), (2, .slice (some ⟨vq, 0, none⟩) 1 vcap), (7, .int .i64 1), (8, .int .i64 (n : Int)), (22, .bool (decide ((0 : Int) = (n : Int))))]) (by kernel_rfl) (by kernel_rfl) fun a hS => wl_nil (by kernel_rfl) (q_then ?_)
  refine c_cond (t := decide ((0 : Int) = (n : Int))) (by kernel_rfl) (hS.ev (x := .tmp 22) rfl) (fun h => by simp at h; omega) (fun _ => c_skip (by kernel_rfl) (q_then ?_))
  refine c_seq (by kernel_rfl) (c_seq (by kernel_rfl) (c_region (by kernel_rfl) ?_))
  have hw1 : WK .i64 ((n : Int) + 1) = ((n + 1 : Nat) : Int) := by rw [show ((n + 1 : Nat) : Int) = (n : Int) + 1 by omega]; exact wrap_i64 (by omega) (by omega)
  refine wl_pures (j := 4) hS 4 [0, 1, 2, 7, 8, 28, 29] (m' := [(0, .slice (some ⟨q, 0, none⟩) n cap), (1, .int .i64 0), (2, .slice (some ⟨vq, 0, none⟩) 1 vcap), (7, .int .i64 1), (8, .int .i64 (n : Int)), (28, .int .i64 (WK .i64 ((n : Int) + 1))), (29, .slice (some ⟨q, 0, none⟩) n cap)]) (by kernel_rfl) (by kernel_rfl) fun a hS => ?_
  rw [hw1] at hS
  refine wl_val hS (v := .int .i64 (cap : Int)) (d := some 30) (op := .call { callee := .builtin .cap, args := #[.tmp 29], argTypes := #[22] }) (g := none) (by kernel_rfl) (by kernel_rfl) (r_cap (e := 32) rfl (by kernel_rfl)) fun a hS => ?_
  refine wl_pures (j := 6) hS 1 [0, 1, 2, 7, 8, 31] (m' := [(0, .slice (some ⟨q, 0, none⟩) n cap), (1, .int .i64 0), (2, .slice (some ⟨vq, 0, none⟩) 1 vcap), (7, .int .i64 1), (8, .int .i64 (n : Int)), (31, .bool (decide (((n + 1 : Nat) : Int) > (cap : Int))))]) (by kernel_rfl) (by kernel_rfl) fun a hS => wl_nil (by kernel_rfl) (q_then ?_)
  refine c_cond (t := decide (((n + 1 : Nat) : Int) > (cap : Int))) (by kernel_rfl) (hS.ev (x := .tmp 31) rfl) (fun ht => ?_) (fun ht => c_skip (by kernel_rfl) (q_then ?_))
  · -- no room: a new row
    have hno : cap < n + 1 := by simp at ht; omega
    refine c_seq (by kernel_rfl) (c_region (by kernel_rfl) ?_)
    refine wl_pures (j := 2) hS 2 [0, 1, 2, 7, 8, 32, 33] (m' := [(0, .slice (some ⟨q, 0, none⟩) n cap), (1, .int .i64 0), (2, .slice (some ⟨vq, 0, none⟩) 1 vcap), (7, .int .i64 1), (8, .int .i64 (n : Int)), (32, .slice (some ⟨q, 0, none⟩) n cap), (33, .int .i64 0)]) (by kernel_rfl) (by kernel_rfl) fun a hS => ?_
    refine wl_val hS (v := .slice (some ⟨q, 0, none⟩) 0 cap) (d := some 34) (op := .slice 22 (.tmp 32) none (some (.tmp 33)) none) (g := none) (by kernel_rfl) (by kernel_rfl) (by have := r_cut (P := Tryz.prog) (w := w) (ρ := ev [(0, .slice (some ⟨q, 0, none⟩) n cap), (1, .int .i64 0), (2, .slice (some ⟨vq, 0, none⟩) 1 vcap), (7, .int .i64 1), (8, .int .i64 (n : Int)), (32, .slice (some ⟨q, 0, none⟩) n cap), (33, .int .i64 0)]) (t := 22) (x := .tmp 32) (sz := 32) (hi := some (.tmp 33)) (lo := none) (h := 0) (l := 0) hshp rfl (by kernel_rfl) (by exact hi_ok .i64 0 (by omega) (by omega)) (by simp [loOf]); rwa [cut_all] at this) fun a hS => ?_
    refine wl_pures (j := 8) hS 5 [0, 1, 2, 7, 34, 39] (m' := [(0, .slice (some ⟨q, 0, none⟩) n cap), (1, .int .i64 0), (2, .slice (some ⟨vq, 0, none⟩) 1 vcap), (7, .int .i64 1), (34, .slice (some ⟨q, 0, none⟩) 0 cap), (39, .int .i64 (WK .i64 (WK .i64 ((n : Int) + 1) - 0)))]) (by kernel_rfl) (by kernel_rfl) fun a hS => ?_
    have hw2 : WK .i64 (WK .i64 ((n : Int) + 1) - 0) = ((n + 1 : Nat) : Int) := by rw [hw1, Int.sub_zero]; exact wrap_i64 (by omega) (by omega)
    rw [hw2] at hS
    refine wl_eff (d := some 40) (op := .call { callee := .builtin .append, args := #[.tmp 34, .tmp 39], argTypes := #[22, 3] }) (g := none) hS (by kernel_rfl) (by kernel_rfl) (eff_zeros (e := 32) (sz := 32) (bytes := 32) (ki := .i64) (z := zOf Tryz.prog 22) (by kernel_rfl) (by kernel_rfl) (by kernel_rfl) (by decide) rfl rfl hno hb (by omega)) ?_
    rintro _ w1 ⟨cap1, cur1, rfl, k1, k2, k3, k4, k5⟩ a hS
    obtain ⟨b, hbe⟩ : ∃ b, b = w.heap.size := ⟨_, rfl⟩
    rw [← hbe] at k4 hS
    have hg1 : w1.heap[q]? = some (.cells cur 32 (0, 0)) := (k5.block q hqlt (fun h => h)).trans hg
    have hvg1 : w1.heap[vq]? = some (.cells vcur 32 (0, 0)) := (k5.block vq hvlt (fun h => h)).trans hvg
    refine wl_pures (j := 10) hS 1 [0, 1, 2, 7, 9] (m' := [(0, .slice (some ⟨q, 0, none⟩) n cap), (1, .int .i64 0), (2, .slice (some ⟨vq, 0, none⟩) 1 vcap), (7, .int .i64 1), (9, .slice (some ⟨b, 0, none⟩) (n + 1) cap1)]) (by kernel_rfl) (by kernel_rfl) fun a hS => wl_nil (by kernel_rfl) (q_then ?_)
    have hshb : Shp (.slice (some ⟨b, 0, none⟩) (n + 1) cap1) (n + 1) := ⟨_, cap1, rfl, k1, by omega, fun h => by cases h⟩
    refine c_seq (by kernel_rfl) (c_region (by kernel_rfl) ?_)
    refine wl_pures (j := 2) hS 2 [0, 1, 2, 7, 9, 41, 42] (m' := [(0, .slice (some ⟨q, 0, none⟩) n cap), (1, .int .i64 0), (2, .slice (some ⟨vq, 0, none⟩) 1 vcap), (7, .int .i64 1), (9, .slice (some ⟨b, 0, none⟩) (n + 1) cap1), (41, .slice (some ⟨b, 0, none⟩) (n + 1) cap1), (42, .int .i64 0)]) (by kernel_rfl) (by kernel_rfl) fun a hS => ?_
    refine wl_val hS (v := cutV (.slice (some ⟨b, 0, none⟩) (n + 1) cap1) 0 (n + 1) 32) (d := some 43) (op := .slice 22 (.tmp 41) (some (.tmp 42)) none none) (g := none) (by kernel_rfl) (by kernel_rfl) (r_cut (hi := none) (lo := some (.tmp 42)) (h := n + 1) (l := 0) hshb rfl (by kernel_rfl) (by simp [hiOf]) (by exact lo_ok .i64 0 (by omega) (by omega))) fun a hS => ?_
    rw [cut_all] at hS
    refine wl_pures (j := 4) hS 1 [0, 1, 2, 7, 9, 43, 44] (m' := [(0, .slice (some ⟨q, 0, none⟩) n cap), (1, .int .i64 0), (2, .slice (some ⟨vq, 0, none⟩) 1 vcap), (7, .int .i64 1), (9, .slice (some ⟨b, 0, none⟩) (n + 1) cap1), (43, .slice (some ⟨b, 0, none⟩) (n + 1) cap1), (44, .slice (some ⟨vq, 0, none⟩) 1 vcap)]) (by kernel_rfl) (by kernel_rfl) fun a hS => ?_
    have hm1 : Nat.min 1 (n + 1) = 1 := Nat.min_eq_left (by omega)
    refine wl_eff (d := some 45) (op := .call { callee := .builtin .copy, args := #[.tmp 43, .tmp 44], argTypes := #[22, 22] }) (g := none) hS (by kernel_rfl) (by kernel_rfl) (eff_cp0 (sz := 32) (q := b) (o := 0) (dl := n + 1) (sl := 1) (cs := Y) (by kernel_rfl) rfl rfl k4 (by rw [hm1, hYl]) (rdY hvg1) (by rw [hYl, k3]; omega) hY1) ?_
    rintro _ w2 rfl a hS
    obtain ⟨cur2, hcur2⟩ : ∃ cur2, cur2 = (cur1.toList.take 0 ++ Y ++ cur1.toList.drop (0 + Y.length)).toArray := ⟨_, rfl⟩
    rw [← hcur2]
    have hs2 : cur2.size = cap1 * 32 := by rw [hcur2]; simp [hYl]; omega
    have ht2 : cur2.toList.take 32 = Y := by rw [hcur2]; simp only [List.toList_toArray, List.take_zero, List.nil_append]; exact List.take_left' hYl
    have hbq : q ≠ b := by omega
    have hbv : vq ≠ b := by omega
    have hg2 : (w1.setRow b cur2).heap[b]? = some (.cells cur2 32 (0, 0)) := setRow_heap w1 b cur1 cur2 _ _ k4
    have hgq2 : (w1.setRow b cur2).heap[q]? = some (.cells cur 32 (0, 0)) := (setRow_other w1 b q cur2 hbq).trans hg1
    have hfr2 : Fr nob w (w1.setRow b cur2) := k5.trans (fr_setRow w1 b cur2) (fun x hx => .inr (by omega))
    refine wl_nil (by kernel_rfl) (q_then ?_)
    refine c_seq (by kernel_rfl) (c_draws (N := 9) 8 (by kernel_rfl) (by kernel_rfl) (fun _ => True) (by kernel_rfl) (by kernel_rfl) (fun w3 hw3 => ?_))
    have hblt : b < (w1.setRow b cur2).heap.size := (Array.getElem?_eq_some_iff.1 hg2).1
    have hqlt2 : q < (w1.setRow b cur2).heap.size := (Array.getElem?_eq_some_iff.1 hgq2).1
    have hg3 : w3.heap[b]? = some (.cells cur2 32 (0, 0)) := (hw3.block b hblt (fun h => h)).trans hg2
    have hgq3 : w3.heap[q]? = some (.cells cur 32 (0, 0)) := (hw3.block q hqlt2 (fun h => h)).trans hgq2
    refine dr_pures (fuel := 3) (l' := [6, 5, 3, 2, 1, 0]) hS trivial [0, 1, 2, 3, 5, 6] [9, 46, 49, 51, 52] (m' := [(9, .slice (some ⟨b, 0, none⟩) (n + 1) cap1), (46, .slice (some ⟨b, 0, none⟩) (n + 1) cap1), (49, .int .i64 1), (51, .slice (some ⟨q, 0, none⟩) n cap), (52, .int .i64 0)]) (by kernel_rfl) (by kernel_rfl) (by kernel_rfl) (fun a hS => ?_)
    refine dr_take (fuel := 2) (j := 4) (v := cutV (.slice (some ⟨b, 0, none⟩) (n + 1) cap1) 1 (n + 1) 32) (d := some 50) (op := .slice 22 (.tmp 46) (some (.tmp 49)) none none) (g := none) hS (by kernel_rfl) (by kernel_rfl)
      (fun w' _ => r_cut (hi := none) (lo := some (.tmp 49)) (h := n + 1) (l := 1) hshb rfl (by kernel_rfl) (by simp [hiOf]) (by exact lo_ok .i64 1 (by omega) (by omega))) trivial (fun a hS => ?_)
    refine dr_take (fuel := 1) (j := 7) (v := cutV (.slice (some ⟨q, 0, none⟩) n cap) 0 n 32) (d := some 53) (op := .slice 22 (.tmp 51) (some (.tmp 52)) none none) (g := none) hS (by kernel_rfl) (by kernel_rfl)
      (fun w' _ => r_cut (hi := none) (lo := some (.tmp 52)) (h := n) (l := 0) hshp rfl (by kernel_rfl) (by simp [hiOf]) (by exact lo_ok .i64 0 (by omega) (by omega))) trivial (fun a hS => ?_)
    rw [cut_all, cut_one (by omega)] at hS
    have hmn : Nat.min n (n + 1 - 1) = n := Nat.min_eq_left (by omega)
    refine dr_eff (fuel := 0) (j := 8) (d := some 54) (op := .call { callee := .builtin .copy, args := #[.tmp 50, .tmp 53], argTypes := #[22, 22] }) (g := none) hS (by kernel_rfl) (by kernel_rfl) (by kernel_rfl)
      (eff_cp0 (sz := 32) (q := b) (o := 32) (dl := n + 1 - 1) (sl := n) (cs := X) (by kernel_rfl) rfl rfl hg3 (by rw [hmn, hXl]) (rdX hgq3) (by rw [hXl, hs2]; omega) hX1) ?_
    rintro _ w4 rfl
    refine ⟨.inr trivial, fun a hS => dr_done (by kernel_rfl) (q_then ?_)⟩
    obtain ⟨cur3, hcur3⟩ : ∃ cur3, cur3 = (cur2.toList.take 32 ++ X ++ cur2.toList.drop (32 + X.length)).toArray := ⟨_, rfl⟩
    rw [← hcur3]
    have hs3 : cur3.size = cap1 * 32 := by rw [hcur3]; simp [hXl]; omega
    have ht3 : cur3.toList.take ((n + 1) * 32) = Y ++ X := by
      rw [hcur3, List.toList_toArray, ht2]
      exact List.take_left' (by rw [List.length_append, hYl, hXl]; omega)
    have hg4 : (w3.setRow b cur3).heap[b]? = some (.cells cur3 32 (0, 0)) := setRow_heap w3 b cur2 cur3 _ _ hg3
    refine c_seq (by kernel_rfl) (c_region (by kernel_rfl) ?_)
    refine wl_pures (j := 2) hS 2 [6] (m' := [(6, .slice (some ⟨b, 0, none⟩) (n + 1) cap1)]) (by kernel_rfl) (by kernel_rfl) fun a hS => wl_nil (by kernel_rfl) (q_then ?_)
    refine c_ret (by kernel_rfl) (q_thenr (q_ret (vs := [.slice (some ⟨b, 0, none⟩) (n + 1) cap1]) hS rfl ⟨_, rfl, ?_, ⟨?_, .inr ⟨b, cap1, cur3, rfl, Nat.zero_le _, hg4, k1, k2, hs3, ht3⟩⟩, fun b' hb' => .inr ?_⟩))
    · exact (((hfr2.trans hw3 (fun x hx => hx.elim)).trans (fr_setRow w3 b cur3) (fun x hx => .inr (by omega))) : Fr nob w (w3.setRow b cur3)).mono (fun x hx => hx.elim)
    · rw [List.length_append, hYl, hXl]; omega
    · have : b = b' := Option.some.inj hb'
      omega
  · have hroom : n + 1 ≤ cap := by simp at ht; omega
    refine c_seq (by kernel_rfl) (c_region (by kernel_rfl) ?_)
    refine wl_pures (j := 4) hS 4 [1, 2, 7, 56, 59] (m' := [(1, .int .i64 0), (2, .slice (some ⟨vq, 0, none⟩) 1 vcap), (7, .int .i64 1), (56, .slice (some ⟨q, 0, none⟩) n cap), (59, .int .i64 (WK .i64 ((n : Int) + 1)))]) (by kernel_rfl) (by kernel_rfl) fun a hS => ?_
    rw [hw1] at hS
    refine wl_val hS (v := cutV (.slice (some ⟨q, 0, none⟩) n cap) 0 (((n + 1 : Nat) : Int).toNat) 32) (d := some 60) (op := .slice 22 (.tmp 56) none (some (.tmp 59)) none) (g := none) (by kernel_rfl) (by kernel_rfl) (r_grow rfl (by kernel_rfl) rfl (by omega) (by omega)) fun a hS => ?_
    rw [cut_all, Int.toNat_natCast] at hS
    have hshc : Shp (.slice (some ⟨q, 0, none⟩) (n + 1) cap) (n + 1) := ⟨_, cap, rfl, hroom, by omega, fun h => by cases h⟩
    refine wl_pures (j := 6) hS 1 [0, 1, 2, 7] (m' := [(0, .slice (some ⟨q, 0, none⟩) (n + 1) cap), (1, .int .i64 0), (2, .slice (some ⟨vq, 0, none⟩) 1 vcap), (7, .int .i64 1)]) (by kernel_rfl) (by kernel_rfl) fun a hS => wl_nil (by kernel_rfl) (q_then ?_)
    refine c_seq (by kernel_rfl) (c_seq (by kernel_rfl) (c_region (by kernel_rfl) ?_))
    refine wl_pures (j := 5) hS 5 [0, 1, 2, 7, 61, 62, 65] (m' := [(0, .slice (some ⟨q, 0, none⟩) (n + 1) cap), (1, .int .i64 0), (2, .slice (some ⟨vq, 0, none⟩) 1 vcap), (7, .int .i64 1), (61, .slice (some ⟨vq, 0, none⟩) 1 vcap), (62, .slice (some ⟨q, 0, none⟩) (n + 1) cap), (65, .int .i64 1)]) (by kernel_rfl) (by kernel_rfl) fun a hS => ?_
    refine wl_val hS (v := cutV (.slice (some ⟨q, 0, none⟩) (n + 1) cap) 1 (n + 1) 32) (d := some 66) (op := .slice 22 (.tmp 62) (some (.tmp 65)) none none) (g := none) (by kernel_rfl) (by kernel_rfl) (r_cut (hi := none) (lo := some (.tmp 65)) (h := n + 1) (l := 1) hshc rfl (by kernel_rfl) (by simp [hiOf]) (by exact lo_ok .i64 1 (by omega) (by omega))) fun a hS => ?_
    rw [cut_one (by omega)] at hS
    refine wl_eff (d := some 67) (op := .call { callee := .value (.func 95), args := #[.tmp 61, .tmp 66], argTypes := #[22, 22] }) (g := none) hS (by kernel_rfl) (by kernel_rfl)
      (eff_apart (tS := 22) (tR := 4) (e := 32) (sz := 32) (a := ⟨vq, 0, none⟩) (b := ⟨q, 32, none⟩) (fn := Tryz.f95) Tryz.func95 (by kernel_rfl) (by kernel_rfl) (by kernel_rfl) (by kernel_rfl) (by kernel_rfl) (by kernel_rfl) rfl rfl rfl hne hvg hg (by rw [hcs]; omega)) ?_
    rintro _ _ ⟨rfl, rfl⟩ a hS
    refine wl_pures (j := 8) hS 1 [0, 1, 2, 7, 68] (m' := [(0, .slice (some ⟨q, 0, none⟩) (n + 1) cap), (1, .int .i64 0), (2, .slice (some ⟨vq, 0, none⟩) 1 vcap), (7, .int .i64 1), (68, .bool true)]) (by kernel_rfl) (by kernel_rfl) fun a hS => wl_nil (by kernel_rfl) (q_then ?_)
    refine c_cond (t := true) (by kernel_rfl) (hS.ev (x := .tmp 68) rfl) (fun _ => ?_) (fun h => by cases h)
    refine c_seq (by kernel_rfl) (c_draws (N := 9) 8 (by kernel_rfl) (by kernel_rfl) (fun _ => True) (by kernel_rfl) (by kernel_rfl) (fun w3 hw3 => ?_))
    have hg3 : w3.heap[q]? = some (.cells cur 32 (0, 0)) := (hw3.block q hqlt (fun h => h)).trans hg
    have hvg3 : w3.heap[vq]? = some (.cells vcur 32 (0, 0)) := (hw3.block vq hvlt (fun h => h)).trans hvg
    refine dr_pures (fuel := 3) (l' := [6, 5, 3, 2, 1, 0]) hS trivial [0, 1, 2, 3, 5, 6] [0, 1, 2, 69, 72, 74, 75] (m' := [(0, .slice (some ⟨q, 0, none⟩) (n + 1) cap), (1, .int .i64 0), (2, .slice (some ⟨vq, 0, none⟩) 1 vcap), (69, .slice (some ⟨q, 0, none⟩) (n + 1) cap), (72, .int .i64 1), (74, .slice (some ⟨q, 0, none⟩) (n + 1) cap), (75, .int .i64 0)]) (by kernel_rfl) (by kernel_rfl) (by kernel_rfl) (fun a hS => ?_)
    refine dr_take (fuel := 2) (j := 4) (v := cutV (.slice (some ⟨q, 0, none⟩) (n + 1) cap) 1 (n + 1) 32) (d := some 73) (op := .slice 22 (.tmp 69) (some (.tmp 72)) none none) (g := none) hS (by kernel_rfl) (by kernel_rfl)
      (fun w' _ => r_cut (hi := none) (lo := some (.tmp 72)) (h := n + 1) (l := 1) hshc rfl (by kernel_rfl) (by simp [hiOf]) (by exact lo_ok .i64 1 (by omega) (by omega))) trivial (fun a hS => ?_)
    refine dr_take (fuel := 1) (j := 7) (v := cutV (.slice (some ⟨q, 0, none⟩) (n + 1) cap) 0 (n + 1) 32) (d := some 76) (op := .slice 22 (.tmp 74) (some (.tmp 75)) none none) (g := none) hS (by kernel_rfl) (by kernel_rfl)
      (fun w' _ => r_cut (hi := none) (lo := some (.tmp 75)) (h := n + 1) (l := 0) hshc rfl (by kernel_rfl) (by simp [hiOf]) (by exact lo_ok .i64 0 (by omega) (by omega))) trivial (fun a hS => ?_)
    rw [cut_all, cut_one (by omega)] at hS
    have hmn : Nat.min (n + 1) (n + 1 - 1) = n := Nat.min_eq_right (by omega)
    refine dr_eff (fuel := 0) (j := 8) (d := some 77) (op := .call { callee := .builtin .copy, args := #[.tmp 73, .tmp 76], argTypes := #[22, 22] }) (g := none) hS (by kernel_rfl) (by kernel_rfl) (by kernel_rfl)
      (eff_cp0 (sz := 32) (q := q) (o := 32) (dl := n + 1 - 1) (sl := n + 1) (cs := X) (by kernel_rfl) rfl rfl hg3 (by rw [hmn, hXl]) (rdX hg3) (by rw [hXl, hcs]; omega) hX1) ?_
    rintro _ w4 rfl
    refine ⟨.inr trivial, fun a hS => dr_done (by kernel_rfl) (q_then ?_)⟩
    obtain ⟨cur2, hcur2⟩ : ∃ cur2, cur2 = (cur.toList.take 32 ++ X ++ cur.toList.drop (32 + X.length)).toArray := ⟨_, rfl⟩
    rw [← hcur2]
    have hs2 : cur2.size = cap * 32 := by rw [hcur2]; simp [hXl]; omega
    have hg4 : (w3.setRow q cur2).heap[q]? = some (.cells cur2 32 (0, 0)) := setRow_heap w3 q cur cur2 _ _ hg3
    have hvg4 : (w3.setRow q cur2).heap[vq]? = some (.cells vcur 32 (0, 0)) := (setRow_other w3 q vq cur2 hne).trans hvg3
    have hfr4 := (hw3.mono (E := fun b => b = q) (fun x hx => hx.elim)).trans (fr_setRow w3 q cur2) (fun x hx => .inl hx)
    refine c_seq (by kernel_rfl) (c_region (by kernel_rfl) ?_)
    refine wl_pures (j := 2) hS 2 [0, 2, 78, 79] (m' := [(0, .slice (some ⟨q, 0, none⟩) (n + 1) cap), (2, .slice (some ⟨vq, 0, none⟩) 1 vcap), (78, .slice (some ⟨q, 0, none⟩) (n + 1) cap), (79, .int .i64 0)]) (by kernel_rfl) (by kernel_rfl) fun a hS => ?_
    refine wl_val hS (v := cutV (.slice (some ⟨q, 0, none⟩) (n + 1) cap) 0 (n + 1) 32) (d := some 80) (op := .slice 22 (.tmp 78) (some (.tmp 79)) none none) (g := none) (by kernel_rfl) (by kernel_rfl) (r_cut (hi := none) (lo := some (.tmp 79)) (h := n + 1) (l := 0) hshc rfl (by kernel_rfl) (by simp [hiOf]) (by exact lo_ok .i64 0 (by omega) (by omega))) fun a hS => ?_
    rw [cut_all] at hS
    refine wl_pures (j := 4) hS 1 [0, 80, 81] (m' := [(0, .slice (some ⟨q, 0, none⟩) (n + 1) cap), (80, .slice (some ⟨q, 0, none⟩) (n + 1) cap), (81, .slice (some ⟨vq, 0, none⟩) 1 vcap)]) (by kernel_rfl) (by kernel_rfl) fun a hS => ?_
    have hm1 : Nat.min 1 (n + 1) = 1 := Nat.min_eq_left (by omega)
    refine wl_eff (d := some 82) (op := .call { callee := .builtin .copy, args := #[.tmp 80, .tmp 81], argTypes := #[22, 22] }) (g := none) hS (by kernel_rfl) (by kernel_rfl) (eff_cp0 (sz := 32) (q := q) (o := 0) (dl := n + 1) (sl := 1) (cs := Y) (by kernel_rfl) rfl rfl hg4 (by rw [hm1, hYl]) (rdY hvg4) (by rw [hYl, hs2]; omega) hY1) ?_
    rintro _ w5 rfl a hS
    obtain ⟨cur3, hcur3⟩ : ∃ cur3, cur3 = (cur2.toList.take 0 ++ Y ++ cur2.toList.drop (0 + Y.length)).toArray := ⟨_, rfl⟩
    rw [← hcur3]
    have hs3 : cur3.size = cap * 32 := by rw [hcur3]; simp [hYl]; omega
    have ht3 : cur3.toList.take ((n + 1) * 32) = Y ++ X := by
      have e1 : (cur.toList.take 32).length = 32 := by rw [List.length_take, Array.length_toList, hcs]; omega
      rw [hcur3, List.toList_toArray, List.take_zero, List.nil_append, Nat.zero_add, hYl, hcur2, List.toList_toArray, List.append_assoc, List.drop_left' e1]
      rw [show (n + 1) * 32 = 32 + n * 32 by omega, ← hYl, List.take_length_add_append, hYl]
      congr 1
      exact List.take_left' hXl
    have hg5 : ((w3.setRow q cur2).setRow q cur3).heap[q]? = some (.cells cur3 32 (0, 0)) := setRow_heap _ q cur2 cur3 _ _ hg4
    refine wl_nil (by kernel_rfl) (q_then ?_)
    refine c_seq (by kernel_rfl) (c_region (by kernel_rfl) ?_)
    refine wl_pures (j := 2) hS 2 [6] (m' := [(6, .slice (some ⟨q, 0, none⟩) (n + 1) cap)]) (by kernel_rfl) (by kernel_rfl) fun a hS => wl_nil (by kernel_rfl) (q_then ?_)
    refine c_ret (by kernel_rfl) (q_thenr (q_ret (vs := [.slice (some ⟨q, 0, none⟩) (n + 1) cap]) hS rfl ⟨_, rfl, ?_, ⟨?_, .inr ⟨q, cap, cur3, rfl, Nat.zero_le _, hg5, hroom, hcm, hs3, ht3⟩⟩, fun b' hb' => .inl ?_⟩))
    · exact hfr4.trans (fr_setRow _ q cur3) (fun x hx => .inl hx)
    · rw [List.length_append, hYl, hXl]; omega
    · have : q = b' := Option.some.inj hb'
      exact this.symm
def L_insert63 (k : Nat) (x : Int × List (Ty.den (.arr 32 (.int .u8))) × List (Ty.den (.arr 32 (.int .u8)))) : Option (List (Ty.den (.arr 32 (.int .u8)))) :=
  match x.2.2 with
  | [v] => guardO (x.1 = 0 ∧ 1 ≤ x.2.1.length ∧ (x.2.1.length + 1) * 32 ≤ 140737488355328) (some (v :: x.2.1))
  | _ => none
theorem L_insert63_ok : ConOk Tryz.prog ⟨63, ⟨[(0, .v (.a (.sl 0))), (1, .v (.a (.fl (.int .i64)))), (2, .v (.a (.sl 1)))], [], [.row 32 (.arr 32 (.int .u8)) .own, .row 32 (.arr 32 (.int .u8)) .own]⟩, [⟨[(100000, .v (.a (.sl 2)))], [(0, .gone)], [.row 32 (.arr 32 (.int .u8)) .own]⟩], L_insert63⟩ := by
  refine con_libMove (u := .arr 32 (.int .u8)) rfl ?_
  intro k i xs vs ys v1 v2 w hf h1 h2 hsep
  unfold L_insert63 at hf
  split at hf
  · rename_i v hv
    obtain ⟨⟨h3, h4, h5⟩, hf⟩ := guardO_some.1 hf
    cases hf
    simp only at hv h3 h4 h5
    subst hv h3
    rcases h1.2 with ⟨_, h0⟩ | ⟨q, cap, cur, rfl, _, hg, a1, a2, a3, a4⟩
    · omega
    · rcases h2.2 with ⟨_, h0⟩ | ⟨vq, vcap, vcur, rfl, _, hvg, b1, b2, b3, b4⟩
      · simp at h0
      · have hne : vq ≠ q := fun h => hsep q rfl (by rw [h]; rfl)
        refine Calls.mono (insert_walk63 xs v q cap cur vq vcap vcur w hg hvg hne h4 a1 a2 a3 a4 (by simpa using b1) b2 b3 (by simpa using b4) h5) ?_
        rintro e w' ⟨r, rfl, hfr, hown, hnew⟩
        exact ⟨r, rfl, hfr.mono (fun b hb => by rw [hb]; rfl), hown, fun b hb => (hnew b hb).imp (fun h => by rw [h]; rfl) id⟩
  · cases hf

end Go.Proofs.YtindlajlkghneaaGreatDoor
