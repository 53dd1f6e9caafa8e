/- Texts of the proof, put together: part 7. No condition. -/
import Derived.Test.YtlbidinmgabjbaaT6
import Derived.Shelf.Strings.Builder1
import Derived.Shelf.Strings.Builder2
import Derived.Shelf.Strings.BuilderF
import Derived.Shelf.Strings.BuilderK
import Derived.Shelf.Strings.Builder2Cap
import Derived.Shelf.Strconv.Itoa0
import Derived.Shelf.Strings.Prefix
import Derived.Shelf.Bits.Mul64
import Derived.Shelf.Strings.Repeat
import Derived.Shelf.Strings.BuilderCap
import Derived.Test.YtlbidinmgabjbaaProg
/-
  DERIVED: THE SHELF's CONTRACTS AT THIS DUMP, IN PLAIN WORDS (tools/lay-plain.mjs out of 'TryShelf.lean', which tools/lay-shelf.mjs wrote): THE SAME DECLARATIONS UNDER THE SAME NAMES: 'import', 'namespace', 'open', 'def', 'theorem' AND NOTHING ELSE: no command of the shelf's: FOR A HAND-IN. Each laying: the table of numbers ('.._ren') and one theorem, a field a fact of the dump's own or the kernel's comparison; each contract: ONE APPLICATION.
-/
namespace Go.Proofs
open Go.Shelf
def Try.lays170_ren : Go.Shelf.Ren := ⟨fun | 170 => 53 | n => n, fun | 70 => 78 | 3 => 3 | 0 => 0 | 72 => 80 | 37 => 27 | 5 => 5 | n => n, fun | n => n⟩
theorem Try.lays170 : Go.Proofs.Lays.n170 Try.prog Try.lays170_ren := {
  mixed := by kernel_rfl
  f170 := Try.func53.trans (congrArg some (by kernel_rfl))
  t0 := Try.underlying0
  a0 := Try.isAgg0
  z0 := Try.sizeOf0
  v0 := Try.zeroValue0
  t3 := Try.underlying3
  a3 := Try.isAgg3
  z3 := Try.sizeOf3
  v3 := Try.zeroValue3
  t37 := Try.underlying27
  a37 := Try.isAgg27
  z37 := Try.sizeOf27
  v37 := Try.zeroValue27
  t70 := Try.underlying78
  a70 := Try.isAgg78
  z70 := Try.sizeOf78
  v70 := Try.zeroValue78
  t72 := Try.underlying80
  a72 := Try.isAgg80
  z72 := Try.sizeOf80
  v72 := Try.zeroValue80 }
open Go.RowKit in
/-- (*strings.Builder).Len: "Len returns the number of accumulated bytes; b.Len() == len(b.String()).": the world is as it was. (LAID: no walk: one application.) -/
theorem Try.Builder_Len (B b : Nat) (bs : List Value) (w : World) (h : Lib.IsBuilder 80 5 B b bs w) :
    Calls Try.prog 53 #[.pointer (some ⟨b, 0, none⟩)] w fun e w' => e = .returned (.int .i64 bs.length) ∧ w' = w := Any.Builder_Len Try.lays170 B b bs w h
def Try.lays169_ren : Go.Shelf.Ren := ⟨fun | 169 => 54 | n => n, fun | 70 => 78 | 9 => 9 | 0 => 0 | 72 => 80 | 37 => 27 | 127 => 98 | 3 => 3 | 5 => 5 | n => n, fun | n => n⟩
theorem Try.lays169 : Go.Proofs.Lays.n169 Try.prog Try.lays169_ren := {
  mixed := by kernel_rfl
  f169 := Try.func54.trans (congrArg some (by kernel_rfl))
  t0 := Try.underlying0
  a0 := Try.isAgg0
  z0 := Try.sizeOf0
  v0 := Try.zeroValue0
  t3 := Try.underlying3
  a3 := Try.isAgg3
  z3 := Try.sizeOf3
  v3 := Try.zeroValue3
  t9 := Try.underlying9
  a9 := Try.isAgg9
  z9 := Try.sizeOf9
  v9 := Try.zeroValue9
  t37 := Try.underlying27
  a37 := Try.isAgg27
  z37 := Try.sizeOf27
  v37 := Try.zeroValue27
  t70 := Try.underlying78
  a70 := Try.isAgg78
  z70 := Try.sizeOf78
  v70 := Try.zeroValue78
  t72 := Try.underlying80
  a72 := Try.isAgg80
  z72 := Try.sizeOf80
  v72 := Try.zeroValue80
  t127 := Try.underlying98
  a127 := Try.isAgg98
  z127 := Try.sizeOf98
  v127 := Try.zeroValue98 }
theorem Try.Builder_Extra_169 : Builder.Extra Try.prog Try.lays169_ren := {
  sizeBuilder := by kernel_rfl
  liesBuilder := by kernel_rfl
  t5 := Try.underlying5
  a5 := Try.isAgg5
  z5 := Try.sizeOf5
  v5 := Try.zeroValue5
  infoByte := by kernel_rfl
  cellsByte := by kernel_rfl
  sizeByte := by kernel_rfl
  neB5 := by decide }
open Go.RowKit in
/-- (*strings.Builder).String: "String returns the accumulated string.": OF A BUILDER THAT HOLDS AT LEAST ONE BYTE. ✋ THE MODEL FREEZES THOSE BYTES IN THE BUFFER (unsafe.String): a later write INTO them ends the model's run without an answer; a later append BEHIND them goes on. The statement's order of evaluation is drawn: one draw. (LAID: no walk: one application.) -/
theorem Try.Builder_String (B b : Nat) (l : List UInt8) (w : World) (h : Lib.IsBuilder 80 5 B b (Lib.byteCells l) w) (h0 : l ≠ []) :
    Calls Try.prog 54 #[.pointer (some ⟨b, 0, none⟩)] w fun e w' => e = .returned (.string ⟨l.toArray⟩) ∧ Below B w w' := Any.Builder_String Try.lays169 Try.Builder_Extra_169 B b l w h h0
open Go.RowKit in
/-- (*strings.Builder).String OF A BUILDER THAT HOLDS NO BYTE: the empty string. (Its buffer is nil, or a row of which it has taken nothing yet; where that row has NO capacity the model lays one new block for unsafe.SliceData's 'some address'.) One draw. (LAID: no walk: one application.) -/
theorem Try.Builder_String_empty (B b : Nat) (w : World) (h : Lib.IsBuilder 80 5 B b [] w) (hBw : B ≤ w.heap.size) :
    Calls Try.prog 54 #[.pointer (some ⟨b, 0, none⟩)] w fun e w' => e = .returned (.string ⟨#[]⟩) ∧ Below B w w' := Any.Builder_String_empty Try.lays169 Try.Builder_Extra_169 B b w h hBw
open Go.RowKit in
/-- (*strings.Builder).String: "String returns the accumulated string.": WHATEVER THE BUILDER HOLDS. (LAID: no walk: one application.) -/
theorem Try.Builder_String_any (B b : Nat) (l : List UInt8) (w : World) (h : Lib.IsBuilder 80 5 B b (Lib.byteCells l) w) (hBw : B ≤ w.heap.size) :
    Calls Try.prog 54 #[.pointer (some ⟨b, 0, none⟩)] w fun e w' => e = .returned (.string ⟨l.toArray⟩) ∧ Below B w w' := Any.Builder_String_any Try.lays169 Try.Builder_Extra_169 B b l w h hBw
def Try.lays241_ren : Go.Shelf.Ren := ⟨fun | 241 => 65 | 277 => 70 | n => n, fun | 70 => 78 | 3 => 3 | 0 => 0 | 72 => 80 | 37 => 27 | 5 => 5 | n => n, fun | n => n⟩
theorem Try.lays241 : Go.Proofs.Lays.n241 Try.prog Try.lays241_ren := {
  mixed := by kernel_rfl
  f241 := Try.func65.trans (congrArg some (by kernel_rfl))
  f277 := Try.func70.trans (congrArg some (by kernel_rfl))
  t0 := Try.underlying0
  a0 := Try.isAgg0
  z0 := Try.sizeOf0
  v0 := Try.zeroValue0
  t3 := Try.underlying3
  a3 := Try.isAgg3
  z3 := Try.sizeOf3
  v3 := Try.zeroValue3
  t37 := Try.underlying27
  a37 := Try.isAgg27
  z37 := Try.sizeOf27
  v37 := Try.zeroValue27
  t70 := Try.underlying78
  a70 := Try.isAgg78
  z70 := Try.sizeOf78
  v70 := Try.zeroValue78
  t72 := Try.underlying80
  a72 := Try.isAgg80
  z72 := Try.sizeOf80
  v72 := Try.zeroValue80 }
theorem Try.Builder_Extra_241 : Builder.Extra Try.prog Try.lays241_ren := {
  sizeBuilder := by kernel_rfl
  liesBuilder := by kernel_rfl
  t5 := Try.underlying5
  a5 := Try.isAgg5
  z5 := Try.sizeOf5
  v5 := Try.zeroValue5
  infoByte := by kernel_rfl
  cellsByte := by kernel_rfl
  sizeByte := by kernel_rfl
  neB5 := by decide }
open Go.RowKit in
/-- (*strings.Builder).grow (no doc but "grow copies the buffer to a new, larger buffer so that there are at least n bytes of capacity beyond len(b.buf)."): AT A BUILDER WITHOUT A BUFFER: a new row of whatever bytes for its buffer, none of them its own yet. Three draws. (LAID: no walk: one application.) -/
theorem Try.Builder_grow_fresh (B b n : Nat) (w : World) (hB : B ≤ b) (hbk : w.heap[b]? = some (.cells #[.pointer (some ⟨b, 0, none⟩), .slice none 0 0] 80 (0, 0))) (hBw : B ≤ w.heap.size) (hn : n ≤ 281474976710656) :
    Calls Try.prog 65 #[.pointer (some ⟨b, 0, none⟩), .int .i64 n] w fun e w' => e = .returned (.tuple #[]) ∧ (Lib.BuilderAt 80 5 B b (.pointer (some ⟨b, 0, none⟩)) [] w' ∧ Below B w w') := Any.Builder_grow_fresh Try.lays241 Try.Builder_Extra_241 B b n w hB hbk hBw hn
def Try.lays165_ren : Go.Shelf.Ren := ⟨fun | 165 => 51 | 240 => 64 | 241 => 65 | 276 => 69 | 277 => 70 | n => n, fun | 70 => 78 | 3 => 3 | 0 => 0 | 4 => 4 | 9 => 9 | 20 => 20 | 72 => 80 | 37 => 27 | 164 => 101 | 5 => 5 | n => n, fun | n => n⟩
theorem Try.lays165 : Go.Proofs.Lays.n165 Try.prog Try.lays165_ren := {
  mixed := by kernel_rfl
  f165 := Try.func51.trans (congrArg some (by kernel_rfl))
  f240 := Try.func64.trans (congrArg some (by kernel_rfl))
  f241 := Try.func65.trans (congrArg some (by kernel_rfl))
  f276 := Try.func69.trans (congrArg some (by kernel_rfl))
  f277 := Try.func70.trans (congrArg some (by kernel_rfl))
  t0 := Try.underlying0
  a0 := Try.isAgg0
  z0 := Try.sizeOf0
  v0 := Try.zeroValue0
  t3 := Try.underlying3
  a3 := Try.isAgg3
  z3 := Try.sizeOf3
  v3 := Try.zeroValue3
  t4 := Try.underlying4
  a4 := Try.isAgg4
  z4 := Try.sizeOf4
  v4 := Try.zeroValue4
  t9 := Try.underlying9
  a9 := Try.isAgg9
  z9 := Try.sizeOf9
  v9 := Try.zeroValue9
  t20 := Try.underlying20
  a20 := Try.isAgg20
  z20 := Try.sizeOf20
  v20 := Try.zeroValue20
  t37 := Try.underlying27
  a37 := Try.isAgg27
  z37 := Try.sizeOf27
  v37 := Try.zeroValue27
  t70 := Try.underlying78
  a70 := Try.isAgg78
  z70 := Try.sizeOf78
  v70 := Try.zeroValue78
  t72 := Try.underlying80
  a72 := Try.isAgg80
  z72 := Try.sizeOf80
  v72 := Try.zeroValue80
  t164 := Try.underlying101
  a164 := Try.isAgg101
  z164 := Try.sizeOf101
  v164 := Try.zeroValue101 }
theorem Try.Builder_Extra_165 : Builder.Extra Try.prog Try.lays165_ren := {
  sizeBuilder := by kernel_rfl
  liesBuilder := by kernel_rfl
  t5 := Try.underlying5
  a5 := Try.isAgg5
  z5 := Try.sizeOf5
  v5 := Try.zeroValue5
  infoByte := by kernel_rfl
  cellsByte := by kernel_rfl
  sizeByte := by kernel_rfl
  neB5 := by decide }
open Go.RowKit in
/-- (*strings.Builder).Grow AT A BUILDER THAT HAS NOT BEEN WRITTEN ('var b strings.Builder; b.Grow(n)'): "Grow grows b's capacity, if necessary, to guarantee space for another n bytes.": it holds no byte behind it as before it. (LAID: no walk: one application.) -/
theorem Try.Builder_Grow_fresh (B b n : Nat) (w : World) (hB : B ≤ b) (hbk : w.heap[b]? = some (.cells #[.pointer none, .slice none 0 0] 80 (0, 0))) (hBw : B ≤ w.heap.size) (hn : n ≤ 281474976710656) :
    Calls Try.prog 51 #[.pointer (some ⟨b, 0, none⟩), .int .i64 n] w fun e w' => e = .returned (.tuple #[]) ∧ (Lib.BuilderAt 80 5 B b (.pointer (some ⟨b, 0, none⟩)) [] w' ∧ Below B w w') := Any.Builder_Grow_fresh Try.lays165 Try.Builder_Extra_165 B b n w hB hbk hBw hn
open Go.RowKit in
/-- (*strings.Builder).Len: "Len returns the number of accumulated bytes; b.Len() == len(b.String()).": the world is as it was. (THE FORM '_f': 'Lib.IsBuilderF'.) (LAID: no walk: one application.) -/
theorem Try.Builder_Len_f (B b : Nat) (bs : List Value) (w : World) (h : Lib.IsBuilderF 80 5 B b bs w) :
    Calls Try.prog 53 #[.pointer (some ⟨b, 0, none⟩)] w fun e w' => e = .returned (.int .i64 bs.length) ∧ w' = w := Any.Builder_Len_f Try.lays170 B b bs w h
open Go.RowKit in
/-- (*strings.Builder).String: "String returns the accumulated string.": OF A BUILDER THAT HOLDS AT LEAST ONE BYTE. ✋ THE MODEL FREEZES THOSE BYTES IN THE BUFFER (unsafe.String): a later write INTO them ends the model's run without an answer; a later append BEHIND them goes on. The statement's order of evaluation is drawn: one draw. THE FORM '_f': IT SAYS BESIDES THAT THE BUILDER IS A BUILDER STILL ('Lib.IsBuilderF', the same bytes): SO IT CAN BE WRITTEN ON: 'b.WriteString(b.String()[:k])'. (LAID: no walk: one application.) -/
theorem Try.Builder_String_f (B b : Nat) (l : List UInt8) (w : World) (h : Lib.IsBuilderF 80 5 B b (Lib.byteCells l) w) (h0 : l ≠ []) :
    Calls Try.prog 54 #[.pointer (some ⟨b, 0, none⟩)] w fun e w' => e = .returned (.string ⟨l.toArray⟩) ∧ (Lib.IsBuilderF 80 5 B b (Lib.byteCells l) w' ∧ Below B w w') := Any.Builder_String_f Try.lays169 Try.Builder_Extra_169 B b l w h h0
open Go.RowKit in
/-- (*strings.Builder).String OF A BUILDER THAT HOLDS NO BYTE: the empty string; THE FORM '_f': a builder still. (LAID: no walk: one application.) -/
theorem Try.Builder_String_empty_f (B b : Nat) (w : World) (h : Lib.IsBuilderF 80 5 B b [] w) (hBw : B ≤ w.heap.size) :
    Calls Try.prog 54 #[.pointer (some ⟨b, 0, none⟩)] w fun e w' => e = .returned (.string ⟨#[]⟩) ∧ (Lib.IsBuilderF 80 5 B b [] w' ∧ Below B w w') := Any.Builder_String_empty_f Try.lays169 Try.Builder_Extra_169 B b w h hBw
open Go.RowKit in
/-- (*strings.Builder).String: "String returns the accumulated string.": WHATEVER THE BUILDER HOLDS; THE FORM '_f': OF A BUILDER THAT MAY HAVE BEEN READ BEFORE; AND IT IS A BUILDER STILL, holding the same bytes: it can be written on. (LAID: no walk: one application.) -/
theorem Try.Builder_String_any_f (B b : Nat) (l : List UInt8) (w : World) (h : Lib.IsBuilderF 80 5 B b (Lib.byteCells l) w) (hBw : B ≤ w.heap.size) :
    Calls Try.prog 54 #[.pointer (some ⟨b, 0, none⟩)] w fun e w' => e = .returned (.string ⟨l.toArray⟩) ∧ (Lib.IsBuilderF 80 5 B b (Lib.byteCells l) w' ∧ Below B w w') := Any.Builder_String_any_f Try.lays169 Try.Builder_Extra_169 B b l w h hBw
open Go.RowKit in
/-- (*strings.Builder).String: "String returns the accumulated string.": OF A BUILDER THAT HOLDS AT LEAST ONE BYTE. ✋ THE MODEL FREEZES THOSE BYTES IN THE BUFFER (unsafe.String): a later write INTO them ends the model's run without an answer; a later append BEHIND them goes on. The statement's order of evaluation is drawn: one draw. THE FORM '_k': OVER 'Lib.IsBuilderF' (a builder that 'String()' may have read), AND WITH THE FRAME THAT REACHES ABOVE THE BUILDER: 'Lib.OthersKept': every block that is not b and is no row of uint8's stands as it stood: the iterator of a range among them. (LAID: no walk: one application.) -/
theorem Try.Builder_String_k (B b : Nat) (l : List UInt8) (w : World) (h : Lib.IsBuilderF 80 5 B b (Lib.byteCells l) w) (h0 : l ≠ []) :
    Calls Try.prog 54 #[.pointer (some ⟨b, 0, none⟩)] w fun e w' => e = .returned (.string ⟨l.toArray⟩) ∧ (Lib.IsBuilderF 80 5 B b (Lib.byteCells l) w' ∧ Below B w w' ∧ Lib.OthersKept 5 (some b) w w') := Any.Builder_String_k Try.lays169 Try.Builder_Extra_169 B b l w h h0
open Go.RowKit in
/-- (*strings.Builder).String OF A BUILDER THAT HOLDS NO BYTE: the empty string; THE FORM '_k': OVER 'Lib.IsBuilderF' (a builder that 'String()' may have read), AND WITH THE FRAME THAT REACHES ABOVE THE BUILDER: 'Lib.OthersKept': every block that is not b and is no row of uint8's stands as it stood: the iterator of a range among them. (LAID: no walk: one application.) -/
theorem Try.Builder_String_empty_k (B b : Nat) (w : World) (h : Lib.IsBuilderF 80 5 B b [] w) (hBw : B ≤ w.heap.size) :
    Calls Try.prog 54 #[.pointer (some ⟨b, 0, none⟩)] w fun e w' => e = .returned (.string ⟨#[]⟩) ∧ (Lib.IsBuilderF 80 5 B b [] w' ∧ Below B w w' ∧ Lib.OthersKept 5 (some b) w w') := Any.Builder_String_empty_k Try.lays169 Try.Builder_Extra_169 B b w h hBw
open Go.RowKit in
/-- (*strings.Builder).String: "String returns the accumulated string.": WHATEVER THE BUILDER HOLDS; THE FORM '_k': OVER 'Lib.IsBuilderF' (a builder that 'String()' may have read), AND WITH THE FRAME THAT REACHES ABOVE THE BUILDER: 'Lib.OthersKept': every block that is not b and is no row of uint8's stands as it stood: the iterator of a range among them. (LAID: no walk: one application.) -/
theorem Try.Builder_String_any_k (B b : Nat) (l : List UInt8) (w : World) (h : Lib.IsBuilderF 80 5 B b (Lib.byteCells l) w) (hBw : B ≤ w.heap.size) :
    Calls Try.prog 54 #[.pointer (some ⟨b, 0, none⟩)] w fun e w' => e = .returned (.string ⟨l.toArray⟩) ∧ (Lib.IsBuilderF 80 5 B b (Lib.byteCells l) w' ∧ Below B w w' ∧ Lib.OthersKept 5 (some b) w w') := Any.Builder_String_any_k Try.lays169 Try.Builder_Extra_169 B b l w h hBw
open Go.RowKit in
/-- (*strings.Builder).grow (no doc but "grow copies the buffer to a new, larger buffer so that there are at least n bytes of capacity beyond len(b.buf)."): AT A BUILDER WITHOUT A BUFFER: a new row of whatever bytes for its buffer, none of them its own yet. Three draws. (LAID: no walk: one application.) -/
theorem Try.Builder_grow_fresh_cap (B b n : Nat) (w : World) (hB : B ≤ b) (hbk : w.heap[b]? = some (.cells #[.pointer (some ⟨b, 0, none⟩), .slice none 0 0] 80 (0, 0))) (hBw : B ≤ w.heap.size) (hn : n ≤ 281474976710656) :
    Calls Try.prog 65 #[.pointer (some ⟨b, 0, none⟩), .int .i64 n] w fun e w' => e = .returned (.tuple #[]) ∧ (Lib.BuilderAt 80 5 B b (.pointer (some ⟨b, 0, none⟩)) [] w' ∧ Below B w w') ∧ ∃ p cap, w'.cell? ⟨b, 1, none⟩ = some (.slice p 0 cap) ∧ n ≤ cap := Any.Builder_grow_fresh_cap Try.lays241 Try.Builder_Extra_241 B b n w hB hbk hBw hn
open Go.RowKit in
/-- (*strings.Builder).Grow AT A BUILDER THAT HAS NOT BEEN WRITTEN ('var b strings.Builder; b.Grow(n)'): "Grow grows b's capacity, if necessary, to guarantee space for another n bytes.": it holds no byte behind it as before it. (LAID: no walk: one application.) -/
theorem Try.Builder_Grow_fresh_cap (B b n : Nat) (w : World) (hB : B ≤ b) (hbk : w.heap[b]? = some (.cells #[.pointer none, .slice none 0 0] 80 (0, 0))) (hBw : B ≤ w.heap.size) (hn : n ≤ 281474976710656) :
    Calls Try.prog 51 #[.pointer (some ⟨b, 0, none⟩), .int .i64 n] w fun e w' => e = .returned (.tuple #[]) ∧ (Lib.BuilderAt 80 5 B b (.pointer (some ⟨b, 0, none⟩)) [] w' ∧ Below B w w') ∧ ∃ p cap, w'.cell? ⟨b, 1, none⟩ = some (.slice p 0 cap) ∧ n ≤ cap := Any.Builder_Grow_fresh_cap Try.lays165 Try.Builder_Extra_165 B b n w hB hbk hBw hn
def Try.lays129_ren : Go.Shelf.Ren := ⟨fun | 129 => 71 | n => n, fun | 53 => 88 | 3 => 3 | 4 => 4 | 46 => 75 | 5 => 5 | 9 => 9 | n => n, fun | n => n⟩
theorem Try.lays129 : Go.Proofs.Lays.n129 Try.prog Try.lays129_ren := {
  mixed := by kernel_rfl
  f129 := Try.func71.trans (congrArg some (by kernel_rfl))
  t3 := Try.underlying3
  a3 := Try.isAgg3
  z3 := Try.sizeOf3
  v3 := Try.zeroValue3
  t4 := Try.underlying4
  a4 := Try.isAgg4
  z4 := Try.sizeOf4
  v4 := Try.zeroValue4
  t5 := Try.underlying5
  a5 := Try.isAgg5
  z5 := Try.sizeOf5
  v5 := Try.zeroValue5
  t9 := Try.underlying9
  a9 := Try.isAgg9
  z9 := Try.sizeOf9
  v9 := Try.zeroValue9
  t46 := Try.underlying75
  a46 := Try.isAgg75
  z46 := Try.sizeOf75
  v46 := Try.zeroValue75
  t53 := Try.underlying88
  a53 := Try.isAgg88
  z53 := Try.sizeOf88
  v53 := Try.zeroValue88 }
/-- bits.Len64: "Len64 returns the minimum number of bits required to represent x; the result is 0 for x == 0.": IT RETURNS 'Lib.bitLen x'; the world is as it was. ('h0', 'h1': x is a uint64.) (LAID: no walk: one application.) -/
theorem Try.bits_Len64 (x : Int) (w : World) (h0 : 0 ≤ x) (h1 : x ≤ 18446744073709551615) :
    Calls Try.prog 71 #[.int .u64 x] w fun e w' => e = .returned (.int .i64 (Lib.bitLen x.toNat)) ∧ w' = w := Any.bits_Len64 Try.lays129 x w h0 h1
def Try.lays206_ren : Go.Shelf.Ren := ⟨fun | 206 => 63 | n => n, fun | 9 => 9 | 4 => 4 | 3 => 3 | n => n, fun | n => n⟩
theorem Try.lays206 : Go.Proofs.Lays.n206 Try.prog Try.lays206_ren := {
  mixed := by kernel_rfl
  f206 := Try.func63.trans (congrArg some (by kernel_rfl))
  t3 := Try.underlying3
  a3 := Try.isAgg3
  z3 := Try.sizeOf3
  v3 := Try.zeroValue3
  t4 := Try.underlying4
  a4 := Try.isAgg4
  z4 := Try.sizeOf4
  v4 := Try.zeroValue4
  t9 := Try.underlying9
  a9 := Try.isAgg9
  z9 := Try.sizeOf9
  v9 := Try.zeroValue9 }
open Go.RowKit Go.Lib in
/-- internal/stringslite.HasPrefix (what strings.HasPrefix calls). (LAID: no walk: one application.) -/
theorem Try.stringslite_HasPrefix (s p : ByteArray) (w : World) :
    Calls Try.prog 63 #[.string s, .string p] w fun e w' => e = .returned (.bool (Lib.hasPrefix s.data.toList p.data.toList)) ∧ w' = w := Any.stringslite_HasPrefix Try.lays206 s p w
def Try.lays99_ren : Go.Shelf.Ren := ⟨fun | 99 => 50 | 206 => 63 | n => n, fun | 9 => 9 | 4 => 4 | 3 => 3 | n => n, fun | n => n⟩
theorem Try.lays99 : Go.Proofs.Lays.n99 Try.prog Try.lays99_ren := {
  mixed := by kernel_rfl
  f99 := Try.func50.trans (congrArg some (by kernel_rfl))
  f206 := Try.func63.trans (congrArg some (by kernel_rfl))
  t3 := Try.underlying3
  a3 := Try.isAgg3
  z3 := Try.sizeOf3
  v3 := Try.zeroValue3
  t4 := Try.underlying4
  a4 := Try.isAgg4
  z4 := Try.sizeOf4
  v4 := Try.zeroValue4
  t9 := Try.underlying9
  a9 := Try.isAgg9
  z9 := Try.sizeOf9
  v9 := Try.zeroValue9 }
open Go.RowKit Go.Lib in
/-- strings.HasPrefix: "HasPrefix reports whether the string s begins with prefix.": IT RETURNS 'Lib.hasPrefix s prefix'; the world is as it was. (LAID: no walk: one application.) -/
theorem Try.strings_HasPrefix (s p : ByteArray) (w : World) :
    Calls Try.prog 50 #[.string s, .string p] w fun e w' => e = .returned (.bool (Lib.hasPrefix s.data.toList p.data.toList)) ∧ w' = w := Any.strings_HasPrefix Try.lays99 s p w
def Try.lays264_ren : Go.Shelf.Ren := ⟨fun | 264 => 62 | n => n, fun | 53 => 88 | 46 => 75 | n => n, fun | n => n⟩
theorem Try.lays264 : Go.Proofs.Lays.n264 Try.prog Try.lays264_ren := {
  mixed := by kernel_rfl
  f264 := Try.func62.trans (congrArg some (by kernel_rfl))
  t46 := Try.underlying75
  a46 := Try.isAgg75
  z46 := Try.sizeOf75
  v46 := Try.zeroValue75
  t53 := Try.underlying88
  a53 := Try.isAgg88
  z53 := Try.sizeOf88
  v53 := Try.zeroValue88 }
open Go.RowKit Go.Lib in
theorem Try.bits_Mul64 (x y : Nat) (hx : x < 18446744073709551616) (hy : y < 18446744073709551616) (w : World) :
    Calls Try.prog 62 #[.int .u64 x, .int .u64 y] w fun e w' => e = .returned (.tuple #[.int .u64 ((x * y / 18446744073709551616 : Nat) : Int), .int .u64 ((x * y % 18446744073709551616 : Nat) : Int)]) ∧ w' = w := Any.bits_Mul64 Try.lays264 x y hx hy w
def Try.lays212_ren : Go.Shelf.Ren := ⟨fun | 212 => 49 | 263 => 61 | 264 => 62 | n => n, fun | 46 => 75 | 51 => 93 | 146 => 94 | 53 => 88 | 148 => 96 | n => n, fun | n => n⟩
theorem Try.lays212 : Go.Proofs.Lays.n212 Try.prog Try.lays212_ren := {
  mixed := by kernel_rfl
  f212 := Try.func49.trans (congrArg some (by kernel_rfl))
  f263 := Try.func61.trans (congrArg some (by kernel_rfl))
  f264 := Try.func62.trans (congrArg some (by kernel_rfl))
  t46 := Try.underlying75
  a46 := Try.isAgg75
  z46 := Try.sizeOf75
  v46 := Try.zeroValue75
  t51 := Try.underlying93
  a51 := Try.isAgg93
  z51 := Try.sizeOf93
  v51 := Try.zeroValue93
  t53 := Try.underlying88
  a53 := Try.isAgg88
  z53 := Try.sizeOf88
  v53 := Try.zeroValue88
  t146 := Try.underlying94
  a146 := Try.isAgg94
  z146 := Try.sizeOf94
  v146 := Try.zeroValue94
  t148 := Try.underlying96
  a148 := Try.isAgg96
  z148 := Try.sizeOf96
  v148 := Try.zeroValue96 }
open Go.RowKit Go.Lib in
/-- math/bits.Mul: "Mul returns the full-width product of x and y": on a machine of 64 bits: Mul64's. (LAID: no walk: one application.) -/
theorem Try.bits_Mul (x y : Nat) (hx : x < 18446744073709551616) (hy : y < 18446744073709551616) (w : World) :
    Calls Try.prog 49 #[.int .u64 x, .int .u64 y] w fun e w' => e = .returned (.tuple #[.int .u64 ((x * y / 18446744073709551616 : Nat) : Int), .int .u64 ((x * y % 18446744073709551616 : Nat) : Int)]) ∧ w' = w := Any.bits_Mul Try.lays212 x y hx hy w
def Try.lays105_ren : Go.Shelf.Ren := ⟨fun | 105 => 36 | 212 => 49 | 99 => 50 | 165 => 51 | 166 => 52 | 170 => 53 | 169 => 54 | 263 => 61 | 264 => 62 | 206 => 63 | 240 => 64 | 241 => 65 | 276 => 69 | 277 => 70 | n => n, fun | 9 => 9 | 3 => 3 | 4 => 4 | 20 => 20 | 0 => 0 | 46 => 75 | 109 => 76 | 5 => 5 | 72 => 80 | 76 => 83 | 51 => 93 | 146 => 94 | 53 => 88 | 148 => 96 | 70 => 78 | 37 => 27 | 75 => 82 | 127 => 98 | 164 => 101 | 80 => 85 | n => n, fun | n => n⟩
theorem Try.lays105 : Go.Proofs.Lays.n105 Try.prog Try.lays105_ren := {
  mixed := by kernel_rfl
  f99 := Try.func50.trans (congrArg some (by kernel_rfl))
  f105 := Try.func36.trans (congrArg some (by kernel_rfl))
  f165 := Try.func51.trans (congrArg some (by kernel_rfl))
  f166 := Try.func52.trans (congrArg some (by kernel_rfl))
  f169 := Try.func54.trans (congrArg some (by kernel_rfl))
  f170 := Try.func53.trans (congrArg some (by kernel_rfl))
  f206 := Try.func63.trans (congrArg some (by kernel_rfl))
  f212 := Try.func49.trans (congrArg some (by kernel_rfl))
  f240 := Try.func64.trans (congrArg some (by kernel_rfl))
  f241 := Try.func65.trans (congrArg some (by kernel_rfl))
  f263 := Try.func61.trans (congrArg some (by kernel_rfl))
  f264 := Try.func62.trans (congrArg some (by kernel_rfl))
  f276 := Try.func69.trans (congrArg some (by kernel_rfl))
  f277 := Try.func70.trans (congrArg some (by kernel_rfl))
  t0 := Try.underlying0
  a0 := Try.isAgg0
  z0 := Try.sizeOf0
  v0 := Try.zeroValue0
  t3 := Try.underlying3
  a3 := Try.isAgg3
  z3 := Try.sizeOf3
  v3 := Try.zeroValue3
  t4 := Try.underlying4
  a4 := Try.isAgg4
  z4 := Try.sizeOf4
  v4 := Try.zeroValue4
  t5 := Try.underlying5
  a5 := Try.isAgg5
  z5 := Try.sizeOf5
  v5 := Try.zeroValue5
  t9 := Try.underlying9
  a9 := Try.isAgg9
  z9 := Try.sizeOf9
  v9 := Try.zeroValue9
  t20 := Try.underlying20
  a20 := Try.isAgg20
  z20 := Try.sizeOf20
  v20 := Try.zeroValue20
  t37 := Try.underlying27
  a37 := Try.isAgg27
  z37 := Try.sizeOf27
  v37 := Try.zeroValue27
  t46 := Try.underlying75
  a46 := Try.isAgg75
  z46 := Try.sizeOf75
  v46 := Try.zeroValue75
  t51 := Try.underlying93
  a51 := Try.isAgg93
  z51 := Try.sizeOf93
  v51 := Try.zeroValue93
  t53 := Try.underlying88
  a53 := Try.isAgg88
  z53 := Try.sizeOf88
  v53 := Try.zeroValue88
  t70 := Try.underlying78
  a70 := Try.isAgg78
  z70 := Try.sizeOf78
  v70 := Try.zeroValue78
  t72 := Try.underlying80
  a72 := Try.isAgg80
  z72 := Try.sizeOf80
  v72 := Try.zeroValue80
  t75 := Try.underlying82
  a75 := Try.isAgg82
  z75 := Try.sizeOf82
  v75 := Try.zeroValue82
  t76 := Try.underlying83
  a76 := Try.isAgg83
  z76 := Try.sizeOf83
  v76 := Try.zeroValue83
  t109 := Try.underlying76
  a109 := Try.isAgg76
  z109 := Try.sizeOf76
  v109 := Try.zeroValue76
  t127 := Try.underlying98
  a127 := Try.isAgg98
  z127 := Try.sizeOf98
  v127 := Try.zeroValue98
  t146 := Try.underlying94
  a146 := Try.isAgg94
  z146 := Try.sizeOf94
  v146 := Try.zeroValue94
  t148 := Try.underlying96
  a148 := Try.isAgg96
  z148 := Try.sizeOf96
  v148 := Try.zeroValue96
  t164 := Try.underlying101
  a164 := Try.isAgg101
  z164 := Try.sizeOf101
  v164 := Try.zeroValue101 }
theorem Try.Builder_Extra_105 : Builder.Extra Try.prog Try.lays105_ren := {
  sizeBuilder := by kernel_rfl
  liesBuilder := by kernel_rfl
  t5 := Try.underlying5
  a5 := Try.isAgg5
  z5 := Try.sizeOf5
  v5 := Try.zeroValue5
  infoByte := by kernel_rfl
  cellsByte := by kernel_rfl
  sizeByte := by kernel_rfl
  neB5 := by decide }
open Go.RowKit Go.Lib in
/-- THE MAIN CASE: at least two copies of a string that is not empty. (LAID: no walk: one application.) -/
theorem Try.strings_Repeat_main (s : ByteArray) (c : Nat) (w : World) (hc2 : 2 ≤ c) (hc : c ≤ 9223372036854775807) (hlen : s.size * c ≤ 140737488355328) (h0 : 0 < s.size) :
    Calls Try.prog 36 #[.string s, .int .i64 c] w fun e w' => e = .returned (.string ⟨(Lib.repeatL s.data.toList c).toArray⟩) ∧ Below w.heap.size w w' := Any.strings_Repeat_main Try.lays105 Try.Builder_Extra_105 s c w hc2 hc hlen h0
open Go.RowKit Go.Lib in
theorem Try.strings_Repeat_zero (s : ByteArray) (w : World) :
    Calls Try.prog 36 #[.string s, .int .i64 0] w fun e w' => e = .returned (.string ⟨#[]⟩) ∧ w' = w := Any.strings_Repeat_zero Try.lays105 s w
open Go.RowKit Go.Lib in
theorem Try.strings_Repeat_one (s : ByteArray) (w : World) :
    Calls Try.prog 36 #[.string s, .int .i64 1] w fun e w' => e = .returned (.string s) ∧ w' = w := Any.strings_Repeat_one Try.lays105 s w
open Go.RowKit Go.Lib in
/-- Copies of the empty string. (LAID: no walk: one application.) -/
theorem Try.strings_Repeat_empty (s : ByteArray) (c : Nat) (w : World) (hc2 : 2 ≤ c) (hc : c ≤ 9223372036854775807) (h0 : s.size = 0) :
    Calls Try.prog 36 #[.string s, .int .i64 c] w fun e w' => e = .returned (.string ⟨#[]⟩) ∧ w' = w := Any.strings_Repeat_empty Try.lays105 s c w hc2 hc h0
open Go.RowKit Go.Lib in
/-- count < 0: "It panics if count is negative". (LAID: no walk: one application.) -/
theorem Try.strings_Repeat_negative (s : ByteArray) (c : Int) (w : World) (hc : c < 0) :
    Calls Try.prog 36 #[.string s, .int .i64 c] w fun e w' => e = .panicked [{ v := repeatPanic Try.lays105_ren "strings: negative Repeat count", recovered := false }] ∧ w' = w := Any.strings_Repeat_negative Try.lays105 s c w hc
open Go.RowKit Go.Lib in
/-- len(s) * count is no int: ".. or if the result of (len(s) * count) overflows". (LAID: no walk: one application.) -/
theorem Try.strings_Repeat_overflow (s : ByteArray) (c : Nat) (w : World) (hc : c ≤ 9223372036854775807) (hs : s.size ≤ 9223372036854775807) (hbig : 9223372036854775807 < s.size * c) :
    Calls Try.prog 36 #[.string s, .int .i64 c] w fun e w' => e = .panicked [{ v := repeatPanic Try.lays105_ren "strings: Repeat output length overflow", recovered := false }] ∧ w' = w := Any.strings_Repeat_overflow Try.lays105 s c w hc hs hbig
open Go.RowKit Go.Lib in
/-- **strings.Repeat: count ≥ 0, the result within one allocation: count copies of s.** (LAID: no walk: one application.) -/
theorem Try.strings_Repeat (s : ByteArray) (c : Nat) (w : World) (hc : c ≤ 9223372036854775807) (hlen : s.size * c ≤ 140737488355328) :
    Calls Try.prog 36 #[.string s, .int .i64 c] w fun e w' => e = .returned (.string ⟨(Lib.repeatL s.data.toList c).toArray⟩) ∧ Below w.heap.size w w' := Any.strings_Repeat Try.lays105 Try.Builder_Extra_105 s c w hc hlen
end Go.Proofs
/- Library functions: what they compute. No condition. -/
set_option linter.unusedVariables false
set_option linter.unusedSimpArgs false
namespace Go.Proofs.Ytlbidinmgabjbaa
open Go
/-! ### strings.Repeat, bits.Len64 -/
def L_strings_Repeat (k : Nat) (x : ByteArray × Int) : Option ByteArray :=
  guardO (0 ≤ x.2 ∧ x.2 ≤ 9223372036854775807 ∧ x.1.size * x.2.toNat ≤ 140737488355328) (some ⟨(Lib.repeatL x.1.data.toList x.2.toNat).toArray⟩)
theorem L_strings_Repeat_ok : ConOk Try.prog ⟨36, ⟨[(0, .v (.a (.fl .str))), (1, .v (.a (.fl (.int .i64))))], [], []⟩, [⟨[(100000, .v (.a (.fl .str)))], [], []⟩], L_strings_Repeat⟩ := by
  refine con_lib1 (t := .str) (pat := ⟨[(0, .v (.a (.fl .str))), (1, .v (.a (.fl (.int .i64))))], [], []⟩) rfl rfl ?_
  intro k x y S w hf hp
  obtain ⟨s, m⟩ : ByteArray × Int := x
  have hf : L_strings_Repeat k (s, m) = some y := hf
  obtain rfl : S = ⟨[(0, .v (.a (.fl .str s))), (1, .v (.a (.fl (.int .i64) m)))], [], [], .nil⟩ := Option.some.inj (hp.symm.trans rfl)
  unfold L_strings_Repeat at hf
  obtain ⟨⟨h1, h2, h3⟩, hf⟩ := guardO_some.1 hf
  cases hf
  simp only at h1 h2 h3
  obtain ⟨n, rfl⟩ : ∃ n : Nat, m = (n : Int) := ⟨m.toNat, by omega⟩
  rw [Int.toNat_natCast] at h3
  refine Calls.mono (Try.strings_Repeat s n w (by omega) h3) ?_
  rintro e w' ⟨rfl, hb⟩
  exact ⟨_, rfl, by rw [Int.toNat_natCast]; rfl, fr_below hb⟩
def L_math_bits_Len64 (k : Nat) (x : Int) : Option Int := guardO (0 ≤ x ∧ x ≤ 18446744073709551615) (some ((Lib.bitLen x.toNat : Nat) : Int))
theorem L_math_bits_Len64_ok : ConOk Try.prog ⟨71, ⟨[(0, .v (.a (.fl (.int .u64))))], [], []⟩, [⟨[(100000, .v (.a (.fl (.int .i64))))], [], []⟩], L_math_bits_Len64⟩ := by
  refine con_lib1 (t := .int .i64) (pat := ⟨[(0, .v (.a (.fl (.int .u64))))], [], []⟩) rfl rfl ?_
  intro k x y S w hf hp
  obtain ⟨z, rfl⟩ : ∃ z : Int, z = x := ⟨x, rfl⟩
  obtain rfl : S = ⟨[(0, .v (.a (.fl (.int .u64) z)))], [], [], .nil⟩ := Option.some.inj (hp.symm.trans rfl)
  unfold L_math_bits_Len64 at hf
  obtain ⟨h, hf⟩ := guardO_some.1 hf
  · cases hf
    refine Calls.mono (Try.bits_Len64 z w h.1 h.2) ?_
    rintro e w' ⟨rfl, rfl⟩
    exact ⟨_, rfl, rfl, Fr.refl _ _⟩
/-! ### slices.Repeat of one text -/
theorem cutV_full (q n cap : Nat) : cutV (.slice (some ⟨q, 0, none⟩) n cap) 0 n 1 = .slice (some ⟨q, 0, none⟩) n cap := by
  simp [cutV, add_plain]
theorem row_eq {v : Value} {e sz n n' : Nat} {xs xs' : List Value} (hn : n = n') (hx : xs = xs') : rowE v e sz n xs = rowE v e sz n' xs' := by subst hn hx; rfl
set_option maxRecDepth 20000 in
theorem repeat_walk (s : ByteArray) (n : Nat) (h1 : 1 ≤ n) (h2 : n ≤ 65536) (v : Value) (w : World) (hr : Rds v 1 1 [.string s] w) :
    Fn Try.prog 35 [v, .int .i64 (n : Int)] w (fun r w' => Fr nob w w' ∧ w'.ownsRow 0 9 1 r n (List.replicate n (.string s)) ∧ ∀ b, r.ownBlock = some b → w.heap.size ≤ b) := by
  obtain ⟨hcs, ao, c, rfl, hc1, hc2, hc3, hrd⟩ := hr
  obtain ⟨ad, hao, hcell⟩ := hrd 0 _ rfl
  subst hao
  have hshp : Shp (.slice (some ad) 1 c) 1 := ⟨some ad, c, rfl, hc1, hc2, hc3⟩
  refine f_enter (fn := Try.f35) (k := 46) rfl rfl rfl fun a hS => ?_
  have hS : Sl 48 [(0, .slice (some ad) 1 c), (1, .int .i64 (n : Int))] a := hS
  refine c_seq (by kernel_rfl) (c_region (by kernel_rfl) ?_)
  refine wl_pures (j := 1) hS 1 [0, 1] (m' := [(0, .slice (some ad) 1 c), (1, .int .i64 (n : Int))]) (by kernel_rfl) (by kernel_rfl) fun a hS => wl_nil (by kernel_rfl) (q_then ?_)
  refine c_seq (by kernel_rfl) (c_seq (by kernel_rfl) (c_region (by kernel_rfl) ?_))
  refine wl_pures (j := 2) hS 2 [0, 1, 10] (m' := [(0, .slice (some ad) 1 c), (1, .int .i64 (n : Int)), (10, .bool (decide ((n : Int) < 0)))]) (by kernel_rfl) (by kernel_rfl) fun a hS => wl_nil (by kernel_rfl) (q_then ?_)
  refine c_cond (t := decide ((n : Int) < 0)) (by kernel_rfl) (hS.ev (x := .tmp 10) rfl) (fun h => by simp at h; omega) (fun _ => c_skip (by kernel_rfl) (q_then ?_))
  refine c_seq (by kernel_rfl) (c_region (by kernel_rfl) ?_)
  refine wl_pures (j := 1) hS 1 [0, 1, 13] (m' := [(0, .slice (some ad) 1 c), (1, .int .i64 (n : Int)), (13, .slice (some ad) 1 c)]) (by kernel_rfl) (by kernel_rfl) fun a hS => ?_
  refine wl_val hS (v := .int .i64 1) (d := some 14) (op := .call { callee := .builtin .len, args := #[.tmp 13], argTypes := #[49] }) (g := none) (by kernel_rfl) (by kernel_rfl) (r_len hshp rfl (by kernel_rfl)) fun a hS => ?_
  refine wl_pures (j := 5) hS 3 [0, 1, 15, 17] (m' := [(0, .slice (some ad) 1 c), (1, .int .i64 (n : Int)), (15, .int .u64 1), (17, .int .u64 (WK .u64 (n : Int)))]) (by kernel_rfl) (by kernel_rfl) fun a hS => ?_
  have hwn : WK .u64 (n : Int) = (n : Int) := by
    simp only [WK, IntKind.wrap, IntKind.bits, IntKind.signed]; simp; omega
  rw [hwn] at hS
  refine wl_eff (d := some 18) (op := .call { callee := .value (.func 49), args := #[.tmp 15, .tmp 17], argTypes := #[75, 75] }) (g := none) hS (by kernel_rfl) (by kernel_rfl)
    (eff_fn (K := fun v w' => v = .tuple #[.int .u64 0, .int .u64 (n : Int)] ∧ w = w') rfl rfl (by kernel_rfl) ?_) ?_
  · refine Calls.mono (Try.bits_Mul 1 n (by omega) (by omega) w) ?_
    rintro e w' ⟨rfl, rfl⟩
    refine ⟨_, rfl, ?_, rfl⟩
    have e1 : 1 * n / 18446744073709551616 = 0 := by omega
    have e2 : 1 * n % 18446744073709551616 = n := by omega
    rw [e1, e2]; rfl
  rintro _ _ ⟨rfl, rfl⟩ a hS
  refine wl_pures (j := 11) hS 5 [0, 1, 5, 6] (m' := [(0, .slice (some ad) 1 c), (1, .int .i64 (n : Int)), (5, .int .u64 0), (6, .int .u64 (n : Int))]) (by kernel_rfl) (by kernel_rfl) fun a hS => wl_nil (by kernel_rfl) (q_then ?_)
  refine c_seq (by kernel_rfl) (c_seq (by kernel_rfl) (c_region (by kernel_rfl) ?_))
  refine wl_pures (j := 6) hS 6 [0, 1, 6, 26] (m' := [(0, .slice (some ad) 1 c), (1, .int .i64 (n : Int)), (6, .int .u64 (n : Int)), (26, .bool (decide ((n : Int) > 9223372036854775807)))]) (by kernel_rfl) (by kernel_rfl) fun a hS => wl_nil (by kernel_rfl) (q_then ?_)
  refine c_cond (t := decide ((n : Int) > 9223372036854775807)) (by kernel_rfl) (hS.ev (x := .tmp 26) rfl) (fun h => by simp at h; omega) (fun _ => c_skip (by kernel_rfl) (q_then ?_))
  refine c_seq (by kernel_rfl) (c_region (by kernel_rfl) ?_)
  refine wl_pures (j := 2) hS 2 [0, 1, 29] (m' := [(0, .slice (some ad) 1 c), (1, .int .i64 (n : Int)), (29, .int .i64 (WK .i64 (n : Int)))]) (by kernel_rfl) (by kernel_rfl) fun a hS => ?_
  have hwi : WK .i64 (n : Int) = (n : Int) := wrap_i64 (by omega) (by omega)
  rw [hwi] at hS
  refine wl_eff (d := some 30) (op := .makeSlice 49 (.tmp 29) (.tmp 29)) (g := none) hS (by kernel_rfl) (by kernel_rfl) (eff_make (F := FS) (e := 9) (k := .i64) (k' := .i64) (n := (n : Int)) (bytes := 16) (z := .string ⟨#[]⟩) (ctx0 w) rfl rfl (by kernel_rfl) rfl (by omega) (by omega) (by omega)) ?_
  intro r w1 C a hS
  obtain ⟨l0, hl0⟩ : ∃ l0 : List ByteArray, l0 = List.replicate (n : Int).toNat FS.dflt := ⟨_, rfl⟩
  have hl0n : l0.length = n := by rw [hl0]; simp
  rw [← hl0, List.nil_append, hl0n] at C
  clear hl0
  obtain ⟨q, cap, rfl⟩ : ∃ q cap, r = .slice (some ⟨q, 0, none⟩) n cap := by
    have hown : w1.ownsRow 0 9 1 r n _ := (C.okL 0 _ rfl : (rowE r 9 FS.sz n _).ok w1)
    rcases hown.2 with ⟨_, hn0⟩ | ⟨q, cap, cur, h, _⟩
    · omega
    · exact ⟨q, cap, h⟩
  have hshq : ∀ {w' : World} {l : List ByteArray} (_ : Ctx w nob nob [rowE (.slice (some ⟨q, 0, none⟩) n cap) 9 FS.sz n (l.flatMap FS.cells)] [] w'), Shp (.slice (some ⟨q, 0, none⟩) n cap) n := fun C => rds_shp (rds_of_row (C.okL 0 _ rfl : (rowE _ 9 FS.sz n _).ok _))
  refine wl_pures (j := 4) hS 1 [0, 7] (m' := [(0, .slice (some ad) 1 c), (7, .slice (some ⟨q, 0, none⟩) n cap)]) (by kernel_rfl) (by kernel_rfl) fun a hS => wl_nil (by kernel_rfl) (q_then ?_)
  refine c_seq (by kernel_rfl) (c_region (by kernel_rfl) ?_)
  refine wl_pures (j := 2) hS 2 [7, 31, 32] (m' := [(7, .slice (some ⟨q, 0, none⟩) n cap), (31, .slice (some ⟨q, 0, none⟩) n cap), (32, .slice (some ad) 1 c)]) (by kernel_rfl) (by kernel_rfl) fun a hS => ?_
  have hsrc : Rds (.slice (some ad) 1 c) 1 FS.sz ([s].flatMap FS.cells) w1 := (rdE true (.slice (some ad) 1 c) 1 1 [.string s]).keep ⟨rfl, some ad, c, rfl, hc1, hc2, hc3, hrd⟩ C.fr (fun _ _ h => h)
  refine wl_eff (d := some 33) (op := .call { callee := .builtin .copy, args := #[.tmp 31, .tmp 32], argTypes := #[49, 49] }) (g := none) hS (by kernel_rfl) (by kernel_rfl)
    (eff_copy (F := FS) (l := l0) (src := [s]) (li := 0) (lo := 0) (hi := n) C rfl hl0n.symm (cutV_full q n cap).symm (Nat.zero_le _) (by omega) rfl hsrc rfl (by kernel_rfl)) ?_
  rintro _ w2 ⟨rfl, C2⟩ a hS
  have hm1 : min ([s] : List ByteArray).length (n - 0) = 1 := by simp; omega
  rw [hm1] at C2 hS
  obtain ⟨l1, hl1⟩ : ∃ l1 : List ByteArray, l1 = l0.take 0 ++ ([s] : List ByteArray).take 1 ++ l0.drop (0 + 1) := ⟨_, rfl⟩
  have hl1n : l1.length = n := by rw [hl1]; simp; omega
  have hl1t : l1.take 1 = List.replicate 1 s := by rw [hl1]; simp
  rw [← hl1, hl1n] at C2
  have C2 : Ctx w nob nob [rowE (.slice (some ⟨q, 0, none⟩) n cap) 9 FS.sz n (l1.flatMap FS.cells)] [] w2 := C2
  clear hl1 hsrc C
  refine wl_pures (j := 4) hS 1 [7, 8] (m' := [(7, .slice (some ⟨q, 0, none⟩) n cap), (8, .int .i64 ((1 : Nat) : Int))]) (by kernel_rfl) (by kernel_rfl) fun a hS => wl_nil (by kernel_rfl) (q_then ?_)
  refine c_seq (by kernel_rfl) (c_block (i := 0) (by kernel_rfl) ?_)
  refine c_loop (I := fun k a w' => ∃ m, k = n - m ∧ 1 ≤ m ∧ m ≤ n ∧ (∃ l : List ByteArray, l.length = n ∧ l.take m = List.replicate m s ∧ Ctx w nob nob [rowE (.slice (some ⟨q, 0, none⟩) n cap) 9 FS.sz n (l.flatMap FS.cells)] [] w') ∧ Sl 48 [(7, .slice (some ⟨q, 0, none⟩) n cap), (8, .int .i64 (m : Int))] a) (by kernel_rfl) (n - 1)
    ⟨1, rfl, Nat.le_refl _, h1, ⟨l1, hl1n, hl1t, C2⟩, hS⟩ ?_
  clear C2 hS hl1t hl1n
  rintro _ a w3 ⟨m, rfl, hm1, hm2, ⟨l, hL2, hL3, C⟩, hS⟩
  refine c_seq (by kernel_rfl) (c_seq (by kernel_rfl) (c_region (by kernel_rfl) ?_))
  refine wl_pures (j := 2) hS 2 [7, 8, 34, 35] (m' := [(7, .slice (some ⟨q, 0, none⟩) n cap), (8, .int .i64 (m : Int)), (34, .int .i64 (m : Int)), (35, .slice (some ⟨q, 0, none⟩) n cap)]) (by kernel_rfl) (by kernel_rfl) fun a hS => ?_
  refine wl_val hS (v := .int .i64 (n : Int)) (d := some 36) (op := .call { callee := .builtin .len, args := #[.tmp 35], argTypes := #[49] }) (g := none) (by kernel_rfl) (by kernel_rfl) (r_len (hshq C) rfl (by kernel_rfl)) fun a hS => ?_
  refine wl_pures (j := 4) hS 1 [7, 8, 37] (m' := [(7, .slice (some ⟨q, 0, none⟩) n cap), (8, .int .i64 (m : Int)), (37, .bool (decide ((m : Int) < (n : Int))))]) (by kernel_rfl) (by kernel_rfl) fun a hS => wl_nil (by kernel_rfl) (q_then ?_)
  refine c_cond (t := decide ((m : Int) < (n : Int))) (by kernel_rfl) (hS.ev (x := .tmp 37) rfl) (fun ht => ?_) (fun ht => ?_)
  · have hmn : m < n := by simpa using ht
    refine c_skip (by kernel_rfl) (q_then (c_block (i := 1) (by kernel_rfl) ?_))
    refine c_draws (N := 10) 9 (by kernel_rfl) (by kernel_rfl) (fun _ => True) (by kernel_rfl) (by kernel_rfl) (fun w4 hw4 => ?_)
    refine dr_pures (fuel := 5) (l' := [5, 4, 2, 1, 0]) hS trivial [0, 1, 2, 4, 5] [7, 38, 39, 40, 42, 43] (m' := [(7, .slice (some ⟨q, 0, none⟩) n cap), (38, .int .i64 (m : Int)), (39, .slice (some ⟨q, 0, none⟩) n cap), (40, .int .i64 (m : Int)), (42, .slice (some ⟨q, 0, none⟩) n cap), (43, .int .i64 (m : Int))]) (by kernel_rfl) (by kernel_rfl) (by kernel_rfl) (fun a hS => ?_)
    refine dr_take (fuel := 4) (j := 3) (v := cutV (.slice (some ⟨q, 0, none⟩) n cap) m n 1) (d := some 41) (op := .slice 49 (.tmp 39) (some (.tmp 40)) none none) (g := none) hS (by kernel_rfl) (by kernel_rfl)
      (fun w' _ => r_cut (hi := none) (lo := some (.tmp 40)) (h := n) (l := m) (hshq C) rfl (by kernel_rfl) (by simp [hiOf]) (by exact lo_ok .i64 (m : Int) (by omega) (by omega))) trivial (fun a hS => ?_)
    refine dr_take (fuel := 3) (j := 6) (v := cutV (.slice (some ⟨q, 0, none⟩) n cap) 0 m 1) (d := some 44) (op := .slice 49 (.tmp 42) none (some (.tmp 43)) none) (g := none) hS (by kernel_rfl) (by kernel_rfl)
      (fun w' _ => r_cut (hi := some (.tmp 43)) (lo := none) (h := m) (l := 0) (hshq C) rfl (by kernel_rfl) (by exact hi_ok .i64 (m : Int) (by omega) (by omega)) (by simp [loOf])) trivial (fun a hS => ?_)
    have C4 := ctx_still C hw4
    have hsrc : Rds (cutV (.slice (some ⟨q, 0, none⟩) n cap) 0 m 1) (m - 0) FS.sz ((l.take m).flatMap FS.cells) w4 := by
      have := cut_rds (rds_of_row (C4.okL 0 _ rfl : (rowE (.slice (some ⟨q, 0, none⟩) n cap) 9 FS.sz n (l.flatMap FS.cells)).ok w4)) (l := 0) (h := m) (Nat.zero_le _) hm2
      rw [flat_take] at this
      have e0 : (((l.take m).flatMap FS.cells).drop (0 * FS.sz)) = (l.take m).flatMap FS.cells := by simp
      rw [e0] at this
      exact this
    refine dr_eff (fuel := 2) (j := 7) (d := some 45) (op := .call { callee := .builtin .copy, args := #[.tmp 41, .tmp 44], argTypes := #[49, 49] }) (g := none) hS (by kernel_rfl) (by kernel_rfl) (by kernel_rfl)
      (eff_copy (F := FS) (l := l) (src := l.take m) (li := 0) (lo := m) (hi := n) C4 rfl hL2.symm rfl (by omega) (by omega) rfl hsrc (by simp; omega) (by kernel_rfl)) ?_
    rintro _ w5 ⟨rfl, C5⟩
    obtain ⟨e, he⟩ : ∃ e, e = min (l.take m).length (n - m) := ⟨_, rfl⟩
    have hem : (l.take m).length = m := by rw [List.length_take]; omega
    rw [hem] at he
    have he1 : e ≤ m := by rw [he]; exact Nat.min_le_left ..
    have he2 : e ≤ n - m := by rw [he]; exact Nat.min_le_right ..
    have he3 : 1 ≤ e := by rw [he]; simp only [Nat.min_def]; split <;> omega
    rw [hem, ← he] at C5
    refine ⟨.inr trivial, fun a hS => ?_⟩
    rw [hem, ← he] at hS
    refine dr_pures (fuel := 0) (l' := [9, 8, 7, 6, 3, 5, 4, 2, 1, 0]) hS trivial [8, 9] [7, 8] (m' := [(7, .slice (some ⟨q, 0, none⟩) n cap), (8, .int .i64 (WK .i64 ((m : Int) + (e : Int))))]) (by kernel_rfl) (by kernel_rfl) (by kernel_rfl) (fun a hS => ?_)
    have hw : WK .i64 ((m : Int) + (e : Int)) = ((m + e : Nat) : Int) := by rw [show ((m + e : Nat) : Int) = (m : Int) + (e : Int) by omega]; exact wrap_i64 (by omega) (by omega)
    rw [hw] at hS
    refine dr_done (by kernel_rfl) ?_
    obtain ⟨l2, hl2⟩ : ∃ l2 : List ByteArray, l2 = l.take m ++ (l.take m).take e ++ l.drop (m + e) := ⟨_, rfl⟩
    rw [← hl2] at C5
    have hlen2 : l2.length = n := by rw [hl2]; simp; omega
    have hs2 : (l.take m).take e = List.replicate e s := by rw [hL3, List.take_replicate, Nat.min_eq_left he1]
    have htk : l2.take (m + e) = List.replicate (m + e) s := by
      rw [hl2, hs2, hL3, List.replicate_append_replicate, List.take_left' (by simp)]
    rw [hlen2] at C5
    exact q_in (q_then ⟨n - (m + e), by omega, m + e, rfl, by omega, by omega, ⟨l2, hlen2, htk, C5⟩, hS⟩)
  · have hmn : m = n := by simp at ht; omega
    subst hmn
    have hls : l = List.replicate m s := by rw [← hL3, List.take_of_length_le (by omega)]
    refine c_exit (i := 0) (by kernel_rfl) (q_thenx (q_thenx (q_inx (q_then ?_))))
    refine c_seq (by kernel_rfl) (c_region (by kernel_rfl) ?_)
    refine wl_pures (j := 2) hS 2 [4] (m' := [(4, .slice (some ⟨q, 0, none⟩) m cap)]) (by kernel_rfl) (by kernel_rfl) fun a hS => wl_nil (by kernel_rfl) (q_then ?_)
    refine c_ret (by kernel_rfl) (q_ret (vs := [.slice (some ⟨q, 0, none⟩) m cap]) hS rfl ⟨_, rfl, C.fr, ?_, fun b hb => ?_⟩)
    · have := (C.okL 0 _ rfl : (rowE (.slice (some ⟨q, 0, none⟩) m cap) 9 FS.sz m (l.flatMap FS.cells)).ok w3)
      rw [hls] at this
      have e : (List.replicate m s).flatMap FS.cells = List.replicate m (.string s) := by
        have : ∀ k, (List.replicate k s).flatMap FS.cells = List.replicate k (Value.string s) := by
          intro k
          induction k with
          | zero => rfl
          | succ k ih => rw [List.replicate_succ, List.flatMap_cons, ih]; rfl
        exact this m
      rw [e] at this
      exact this
    · rcases C.mine 0 _ rfl b hb with h | h
      · exact h.elim
      · exact h
def L_slices_Repeat (k : Nat) (x : Int × List ByteArray) : Option (List ByteArray) :=
  match x.2 with
  | [s] => guardO (1 ≤ x.1 ∧ x.1 ≤ 65536) (some (List.replicate x.1.toNat s))
  | _ => none
theorem L_slices_Repeat_ok : ConOk Try.prog ⟨35, ⟨[(0, .v (.a (.sl 0))), (1, .v (.a (.fl (.int .i64))))], [], [.row 9 .str .lent]⟩, [⟨[(100000, .v (.a (.sl 1)))], [], [.row 9 .str .own]⟩], L_slices_Repeat⟩ := by
  intro k x y S hrun hpat hkeys g w D A CAL C
  obtain ⟨m, xs⟩ : Int × List ByteArray := x
  have hrun : L_slices_Repeat k (m, xs) = some y := hrun
  obtain rfl : S = ⟨[(0, .v (.a (.sl 0))), (1, .v (.a (.fl (.int .i64) m)))], [.row 9 .str xs .lent false], [], .nil⟩ := Option.some.inj (hpat.symm.trans rfl)
  unfold L_slices_Repeat at hrun
  split at hrun
  · rename_i s hs
    obtain ⟨h, hrun⟩ := guardO_some.1 hrun
    · obtain ⟨h1, h2⟩ := h
      have hs : xs = [s] := hs
      subst hs
      have h1 : 1 ≤ m := h1
      have h2 : m ≤ 65536 := h2
      obtain ⟨n, rfl⟩ : ∃ n : Nat, m = (n : Int) := ⟨m.toNat, by omega⟩
      have hy : y = List.replicate n s := by
        have h : some (List.replicate (n : Int).toNat s) = some y := hrun
        have h := (Option.some.inj h).symm
        rw [Int.toNat_natCast] at h
        exact h
      subst hy
      have hR := C.okR 0
      have hob := CAL.ob 0
      have hrep : (g 0).cs = [.string s] := by
        have h0 : RepL (RepP .str) [s] (g 0).cs (g 0).fs := hob.1
        have := ((RepL_flat .str rfl _ _ _).1 h0).1
        rw [this]; rfl
      have hrd : Rds (g 0).v 1 1 [.string s] w := by
        have := hR (⟨(g 0).v, 1, 1, (g 0).cs⟩) (List.mem_cons_self ..)
        rw [hrep] at this
        exact this
      refine Calls.mono (repeat_walk s n (by omega) (by omega) (g 0).v w hrd) ?_
      rintro e w' ⟨r, rfl, hfr, hown, hnew⟩
      obtain ⟨q, cap, rfl⟩ : ∃ q cap, r = .slice (some ⟨q, 0, none⟩) n cap := by
        rcases hown.2 with ⟨_, hn0⟩ | ⟨q, cap, cur, h, _⟩
        · omega
        · exact ⟨q, cap, h⟩
      obtain ⟨g', hg'⟩ : ∃ g' : Env, g' = fun i => if i = 1 then ⟨.slice (some ⟨q, 0, none⟩) n cap, rfl, 0, List.replicate n (.string s), []⟩ else g i := ⟨_, rfl⟩
      have g0 : ∀ i, i ≠ 1 → g' i = g i := fun i hi => by rw [hg']; simp [hi]
      have g1 : g' 1 = ⟨.slice (some ⟨q, 0, none⟩) n cap, rfl, 0, List.replicate n (.string s), []⟩ := by rw [hg']; simp
      have hrepn : RepL (RepP .str) (List.replicate n s) (List.replicate n (.string s)) [] := by
        refine (RepL_flat .str rfl _ _ _).2 ⟨?_, rfl⟩
        have : ∀ k, List.replicate k (Value.string s) = (List.replicate k s).flatMap (flatT .str).cells := by
          intro k
          induction k with
          | zero => rfl
          | succ k ih => rw [List.replicate_succ, List.replicate_succ, List.flatMap_cons, ← ih]; rfl
        exact this n
      have ob0 : ∀ i, (afterS ⟨[(0, .v (.a (.sl 0))), (1, .v (.a (.fl (.int .i64) (n : Int))))], [.row 9 .str [s] .lent false], [], .nil⟩ ⟨[(rB, .v (.a (.sl 1)))], [], [.row 9 .str (List.replicate n s) .own false]⟩).ob i = if i = 0 then .row 9 .str [s] .lent false else if i = 1 then .row 9 .str (List.replicate n s) .own false else .gone := by
        intro i
        match i with
        | 0 => rfl
        | 1 => rfl
        | i + 2 => rfl
      refine ⟨_, rfl, 0, [⟨.sl 9 .str, List.replicate n s⟩], _, ⟨[(rB, .v (.a (.sl 1)))], [], [.row 9 .str (List.replicate n s) .own false]⟩, .v (.a (.sl 1)), g', fun R q => rfl, rfl, rfl, rfl, ?_, rfl, ?_, ⟨fun i => ?_, fun p hp => ?_, fun p hp o ho => ?_, fun i T ls hi => ?_⟩, ?_, ?_⟩
      · simp only [encS, encV, val1, g1]
      · intro o ho
        simp only [refS, refV, refA, List.mem_singleton] at ho
        subst ho
        simp [afterS]
      · rw [ob0]
        split
        · rename_i h; subst h; exact obP_ext (g0 0 (by decide)) hob
        · split
          · rename_i h; subst h
            simp only [obP, g1]
            exact ⟨hrepn, ⟨_, _, by rw [List.length_replicate], fun h => by cases h⟩, fun h => by cases h⟩
          · trivial
      · simp only [afterS, List.mem_singleton] at hp; subst hp; rfl
      · simp only [afterS, List.mem_singleton] at hp; subst hp
        simp only [refS, refV, refA, List.mem_singleton] at ho
        subst ho
        simp [afterS]
      · rw [ob0] at hi
        split at hi
        · cases hi
        · split at hi <;> cases hi
      · have C2 : CtxF w D A (fun i => entL g' i ((afterS ⟨[(0, .v (.a (.sl 0))), (1, .v (.a (.fl (.int .i64) (n : Int))))], [.row 9 .str [s] .lent false], [], .nil⟩ ⟨[(rB, .v (.a (.sl 1)))], [], [.row 9 .str (List.replicate n s) .own false]⟩).ob i))
            (fun i => entR g i ((⟨[(0, .v (.a (.sl 0))), (1, .v (.a (.fl (.int .i64) (n : Int))))], [.row 9 .str [s] .lent false], [], .nil⟩ : St).ob i)) w' := by
          refine cf_set 1 (E' := rowE (.slice (some ⟨q, 0, none⟩) n cap) 9 1 n (List.replicate n (.string s))) C (hfr.mono (fun x h => h.elim)) hown (fun b hb => .inr (hnew b hb)) (fun i hi => ?_) ?_
          · simp only [ob0]
            split
            · rename_i h; subst h; rfl
            · rename_i h0
              match i, h0, hi with
              | i + 2, _, _ => rfl
          · simp [ob0, entL, g1, Ty.sz]
        refine cf_remap C2 id (fun i => .inr (Sub1.refl _ _)) (fun i j hij _ _ => hij) (fun i => ?_)
        simp only [ob0]
        split
        · rename_i h; subst h
          refine .inr (.inl ⟨0, ?_, ?_⟩)
          · have : entR g' 0 (.row 9 .str [s] .lent false) = entR g 0 (.row 9 .str [s] .lent false) := entR_ext (g0 0 (by decide))
            rw [this]; exact Sub1.refl _ _
          · exact id
        · split
          · rename_i h; subst h
            refine .inl ⟨fun b hb => ?_, ?_⟩
            · obtain ⟨f, hf, _⟩ := hb
              rw [g1] at hf; cases hf
            · intro f hf
              rw [g1] at hf; cases hf
          · exact .inl ⟨fun b hb => hb.elim, trivial⟩
      · refine ⟨by simp [afterS], fun i hi => ?_, fun i hi hm => ?_, (fun i hi => by cases hi), (fun t ht => absurd trivial ht), fun i hi e t xs m fu he => ?_⟩
        · have : i = 0 := by simpa using hi
          subst this
          rw [g0 0 (by decide)]; exact ⟨rfl, rfl⟩
        · have : i = 0 := by simpa using hi
          subst this
          exact ⟨rfl, g0 0 (by decide)⟩
        · have : i = 0 := by simpa using hi
          subst this
          have he : (afterS ⟨[(0, .v (.a (.sl 0))), (1, .v (.a (.fl (.int .i64) (n : Int))))], [.row 9 .str [s] .lent false], [], .nil⟩ ⟨[(rB, .v (.a (.sl 1)))], [], [.row 9 .str (List.replicate n s) .own false]⟩).ob 0 = .row e t xs m fu := he
          rw [ob0] at he
          simp only [if_true, Ob.row.injEq] at he
          obtain ⟨rfl, rfl, h3, rfl, rfl⟩ := he
          cases h3
          exact ⟨_, _, _, _, rfl, rfl⟩
  · cases hrun
end Go.Proofs.Ytlbidinmgabjbaa
