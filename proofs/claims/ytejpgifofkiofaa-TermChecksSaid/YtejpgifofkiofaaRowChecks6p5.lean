/-
  DERIVED: THE SHELF's CONTRACTS AT THIS DUMP, IN PLAIN WORDS (tools/lay-plain.mjs out of 'TryShelf.lean', which tools/lay-shelf.mjs wrote): THE SAME DECLARATIONS UNDER THE SAME NAMES: 'import', 'namespace', 'open', 'def', 'theorem' AND NOTHING ELSE: no command of the shelf's: FOR A HAND-IN. Each laying: the table of numbers ('.._ren') and one theorem, a field a fact of the dump's own or the kernel's comparison; each contract: ONE APPLICATION. A type's text: the reference's, and the program's.
-/
import Derived.Shelf.Strings.Builder1
import Derived.Shelf.Strings.Builder2
import Derived.Shelf.Strings.OnBuilder
import Derived.Shelf.Small.Bits
import Derived.Shelf.Small.Wraps
import Derived.Shelf.Strings.BuilderF
import Derived.Shelf.Strings.BuilderK
import Derived.Shelf.Strings.Builder2Cap
import Derived.Shelf.Strconv.Itoa0
import Derived.Shelf.Sort.Plain
import Derived.Shelf.Strings.BuilderCap
import Derived.Ground.Names2Prog
import Derived.Shelf.Slices.CompactI
import Derived.Shelf.Slices.SearchI
import Derived.Shelf.Slices.Cells
import Derived.Shelf.Slices.In.SortNone
import Derived.Test.YtejpgifofkiofaaProg
import Derived.Test.YtejpgifofkiofaaRowChecks6p4
namespace Go.Proofs
open Go.Shelf
def Try.lays169_ren : Go.Shelf.Ren := ⟨fun | 169 => 132 | n => n, fun | 70 => 169 | 9 => 9 | 0 => 0 | 72 => 172 | 37 => 170 | 127 => 191 | 3 => 3 | 5 => 5 | n => n, fun | n => n⟩
theorem Try.lays169 : Go.Proofs.Lays.n169 Try.prog Try.lays169_ren := {
  mixed := by kernel_rfl
  f169 := Try.func132.trans (congrArg some (by kernel_rfl))
  t0 := Try.underlying0
  a0 := Try.isAgg0
  z0 := Try.sizeOf0
  v0 := Try.zeroValue0
  t3 := Try.underlying3
  a3 := Try.isAgg3
  z3 := Try.sizeOf3
  v3 := Try.zeroValue3
  t9 := Try.underlying9
  a9 := Try.isAgg9
  z9 := Try.sizeOf9
  v9 := Try.zeroValue9
  t37 := Try.underlying170
  a37 := Try.isAgg170
  z37 := Try.sizeOf170
  v37 := Try.zeroValue170
  t70 := Try.underlying169
  a70 := Try.isAgg169
  z70 := Try.sizeOf169
  v70 := Try.zeroValue169
  t72 := Try.underlying172
  a72 := Try.isAgg172
  z72 := Try.sizeOf172
  v72 := Try.zeroValue172
  t127 := Try.underlying191
  a127 := Try.isAgg191
  z127 := Try.sizeOf191
  v127 := Try.zeroValue191 }
theorem Try.Builder_Extra_169 : Builder.Extra Try.prog Try.lays169_ren := {
  sizeBuilder := by kernel_rfl
  liesBuilder := by kernel_rfl
  t5 := Try.underlying5
  a5 := Try.isAgg5
  z5 := Try.sizeOf5
  v5 := Try.zeroValue5
  infoByte := by kernel_rfl
  cellsByte := by kernel_rfl
  sizeByte := by kernel_rfl
  neB5 := by decide }
open Go.RowKit in
/-- (*strings.Builder).String: "String returns the accumulated string.": OF A BUILDER THAT HOLDS AT LEAST ONE BYTE. ✋ THE MODEL FREEZES THOSE BYTES IN THE BUFFER (unsafe.String): a later write INTO them ends the model's run without an answer; a later append BEHIND them goes on. The statement's order of evaluation is drawn: one draw. (LAID: no walk: one application.) -/
theorem Try.Builder_String (B b : Nat) (l : List UInt8) (w : World) (h : Lib.IsBuilder 172 5 B b (Lib.byteCells l) w) (h0 : l ≠ []) :
    Calls Try.prog 132 #[.pointer (some ⟨b, 0, none⟩)] w fun e w' => e = .returned (.string ⟨l.toArray⟩) ∧ Below B w w' := Any.Builder_String Try.lays169 Try.Builder_Extra_169 B b l w h h0
open Go.RowKit in
/-- (*strings.Builder).String OF A BUILDER THAT HOLDS NO BYTE: the empty string. (Its buffer is nil, or a row of which it has taken nothing yet; where that row has NO capacity the model lays one new block for unsafe.SliceData's 'some address'.) One draw. (LAID: no walk: one application.) -/
theorem Try.Builder_String_empty (B b : Nat) (w : World) (h : Lib.IsBuilder 172 5 B b [] w) (hBw : B ≤ w.heap.size) :
    Calls Try.prog 132 #[.pointer (some ⟨b, 0, none⟩)] w fun e w' => e = .returned (.string ⟨#[]⟩) ∧ Below B w w' := Any.Builder_String_empty Try.lays169 Try.Builder_Extra_169 B b w h hBw
open Go.RowKit in
/-- (*strings.Builder).String: "String returns the accumulated string.": WHATEVER THE BUILDER HOLDS. (LAID: no walk: one application.) -/
theorem Try.Builder_String_any (B b : Nat) (l : List UInt8) (w : World) (h : Lib.IsBuilder 172 5 B b (Lib.byteCells l) w) (hBw : B ≤ w.heap.size) :
    Calls Try.prog 132 #[.pointer (some ⟨b, 0, none⟩)] w fun e w' => e = .returned (.string ⟨l.toArray⟩) ∧ Below B w w' := Any.Builder_String_any Try.lays169 Try.Builder_Extra_169 B b l w h hBw
def Try.lays241_ren : Go.Shelf.Ren := ⟨fun | 241 => 145 | 277 => 152 | n => n, fun | 70 => 169 | 3 => 3 | 0 => 0 | 72 => 172 | 37 => 170 | 5 => 5 | n => n, fun | n => n⟩
theorem Try.lays241 : Go.Proofs.Lays.n241 Try.prog Try.lays241_ren := {
  mixed := by kernel_rfl
  f241 := Try.func145.trans (congrArg some (by kernel_rfl))
  f277 := Try.func152.trans (congrArg some (by kernel_rfl))
  t0 := Try.underlying0
  a0 := Try.isAgg0
  z0 := Try.sizeOf0
  v0 := Try.zeroValue0
  t3 := Try.underlying3
  a3 := Try.isAgg3
  z3 := Try.sizeOf3
  v3 := Try.zeroValue3
  t37 := Try.underlying170
  a37 := Try.isAgg170
  z37 := Try.sizeOf170
  v37 := Try.zeroValue170
  t70 := Try.underlying169
  a70 := Try.isAgg169
  z70 := Try.sizeOf169
  v70 := Try.zeroValue169
  t72 := Try.underlying172
  a72 := Try.isAgg172
  z72 := Try.sizeOf172
  v72 := Try.zeroValue172 }
theorem Try.Builder_Extra_241 : Builder.Extra Try.prog Try.lays241_ren := {
  sizeBuilder := by kernel_rfl
  liesBuilder := by kernel_rfl
  t5 := Try.underlying5
  a5 := Try.isAgg5
  z5 := Try.sizeOf5
  v5 := Try.zeroValue5
  infoByte := by kernel_rfl
  cellsByte := by kernel_rfl
  sizeByte := by kernel_rfl
  neB5 := by decide }
open Go.RowKit in
/-- (*strings.Builder).grow (no doc but "grow copies the buffer to a new, larger buffer so that there are at least n bytes of capacity beyond len(b.buf)."): AT A BUILDER WITHOUT A BUFFER: a new row of whatever bytes for its buffer, none of them its own yet. Three draws. (LAID: no walk: one application.) -/
theorem Try.Builder_grow_fresh (B b n : Nat) (w : World) (hB : B ≤ b) (hbk : w.heap[b]? = some (.cells #[.pointer (some ⟨b, 0, none⟩), .slice none 0 0] 172 (0, 0))) (hBw : B ≤ w.heap.size) (hn : n ≤ 281474976710656) :
    Calls Try.prog 145 #[.pointer (some ⟨b, 0, none⟩), .int .i64 n] w fun e w' => e = .returned (.tuple #[]) ∧ (Lib.BuilderAt 172 5 B b (.pointer (some ⟨b, 0, none⟩)) [] w' ∧ Below B w w') := Any.Builder_grow_fresh Try.lays241 Try.Builder_Extra_241 B b n w hB hbk hBw hn
def Try.lays165_ren : Go.Shelf.Ren := ⟨fun | 165 => 130 | 240 => 144 | 241 => 145 | 276 => 151 | 277 => 152 | n => n, fun | 70 => 169 | 3 => 3 | 0 => 0 | 4 => 4 | 9 => 9 | 20 => 20 | 72 => 172 | 37 => 170 | 164 => 198 | 5 => 5 | n => n, fun | n => n⟩
theorem Try.lays165 : Go.Proofs.Lays.n165 Try.prog Try.lays165_ren := {
  mixed := by kernel_rfl
  f165 := Try.func130.trans (congrArg some (by kernel_rfl))
  f240 := Try.func144.trans (congrArg some (by kernel_rfl))
  f241 := Try.func145.trans (congrArg some (by kernel_rfl))
  f276 := Try.func151.trans (congrArg some (by kernel_rfl))
  f277 := Try.func152.trans (congrArg some (by kernel_rfl))
  t0 := Try.underlying0
  a0 := Try.isAgg0
  z0 := Try.sizeOf0
  v0 := Try.zeroValue0
  t3 := Try.underlying3
  a3 := Try.isAgg3
  z3 := Try.sizeOf3
  v3 := Try.zeroValue3
  t4 := Try.underlying4
  a4 := Try.isAgg4
  z4 := Try.sizeOf4
  v4 := Try.zeroValue4
  t9 := Try.underlying9
  a9 := Try.isAgg9
  z9 := Try.sizeOf9
  v9 := Try.zeroValue9
  t20 := Try.underlying20
  a20 := Try.isAgg20
  z20 := Try.sizeOf20
  v20 := Try.zeroValue20
  t37 := Try.underlying170
  a37 := Try.isAgg170
  z37 := Try.sizeOf170
  v37 := Try.zeroValue170
  t70 := Try.underlying169
  a70 := Try.isAgg169
  z70 := Try.sizeOf169
  v70 := Try.zeroValue169
  t72 := Try.underlying172
  a72 := Try.isAgg172
  z72 := Try.sizeOf172
  v72 := Try.zeroValue172
  t164 := Try.underlying198
  a164 := Try.isAgg198
  z164 := Try.sizeOf198
  v164 := Try.zeroValue198 }
theorem Try.Builder_Extra_165 : Builder.Extra Try.prog Try.lays165_ren := {
  sizeBuilder := by kernel_rfl
  liesBuilder := by kernel_rfl
  t5 := Try.underlying5
  a5 := Try.isAgg5
  z5 := Try.sizeOf5
  v5 := Try.zeroValue5
  infoByte := by kernel_rfl
  cellsByte := by kernel_rfl
  sizeByte := by kernel_rfl
  neB5 := by decide }
open Go.RowKit in
/-- (*strings.Builder).Grow AT A BUILDER THAT HAS NOT BEEN WRITTEN ('var b strings.Builder; b.Grow(n)'): "Grow grows b's capacity, if necessary, to guarantee space for another n bytes.": it holds no byte behind it as before it. (LAID: no walk: one application.) -/
theorem Try.Builder_Grow_fresh (B b n : Nat) (w : World) (hB : B ≤ b) (hbk : w.heap[b]? = some (.cells #[.pointer none, .slice none 0 0] 172 (0, 0))) (hBw : B ≤ w.heap.size) (hn : n ≤ 281474976710656) :
    Calls Try.prog 130 #[.pointer (some ⟨b, 0, none⟩), .int .i64 n] w fun e w' => e = .returned (.tuple #[]) ∧ (Lib.BuilderAt 172 5 B b (.pointer (some ⟨b, 0, none⟩)) [] w' ∧ Below B w w') := Any.Builder_Grow_fresh Try.lays165 Try.Builder_Extra_165 B b n w hB hbk hBw hn
def Try.lays156_ren : Go.Shelf.Ren := ⟨fun | 156 => 121 | 165 => 130 | 166 => 131 | 169 => 132 | 240 => 144 | 241 => 145 | 276 => 151 | 277 => 152 | n => n, fun | 31 => 66 | 9 => 9 | 3 => 3 | 4 => 4 | 0 => 0 | 20 => 20 | 72 => 172 | 76 => 176 | 70 => 169 | 37 => 170 | 75 => 175 | 127 => 191 | 164 => 198 | 5 => 5 | 80 => 178 | n => n, fun | n => n⟩
theorem Try.lays156 : Go.Proofs.Lays.n156 Try.prog Try.lays156_ren := {
  mixed := by kernel_rfl
  f156 := Try.func121.trans (congrArg some (by kernel_rfl))
  f165 := Try.func130.trans (congrArg some (by kernel_rfl))
  f166 := Try.func131.trans (congrArg some (by kernel_rfl))
  f169 := Try.func132.trans (congrArg some (by kernel_rfl))
  f240 := Try.func144.trans (congrArg some (by kernel_rfl))
  f241 := Try.func145.trans (congrArg some (by kernel_rfl))
  f276 := Try.func151.trans (congrArg some (by kernel_rfl))
  f277 := Try.func152.trans (congrArg some (by kernel_rfl))
  t0 := Try.underlying0
  a0 := Try.isAgg0
  z0 := Try.sizeOf0
  v0 := Try.zeroValue0
  t3 := Try.underlying3
  a3 := Try.isAgg3
  z3 := Try.sizeOf3
  v3 := Try.zeroValue3
  t4 := Try.underlying4
  a4 := Try.isAgg4
  z4 := Try.sizeOf4
  v4 := Try.zeroValue4
  t9 := Try.underlying9
  a9 := Try.isAgg9
  z9 := Try.sizeOf9
  v9 := Try.zeroValue9
  t20 := Try.underlying20
  a20 := Try.isAgg20
  z20 := Try.sizeOf20
  v20 := Try.zeroValue20
  t31 := Try.underlying66
  a31 := Try.isAgg66
  z31 := Try.sizeOf66
  v31 := Try.zeroValue66
  t37 := Try.underlying170
  a37 := Try.isAgg170
  z37 := Try.sizeOf170
  v37 := Try.zeroValue170
  t70 := Try.underlying169
  a70 := Try.isAgg169
  z70 := Try.sizeOf169
  v70 := Try.zeroValue169
  t72 := Try.underlying172
  a72 := Try.isAgg172
  z72 := Try.sizeOf172
  v72 := Try.zeroValue172
  t75 := Try.underlying175
  a75 := Try.isAgg175
  z75 := Try.sizeOf175
  v75 := Try.zeroValue175
  t76 := Try.underlying176
  a76 := Try.isAgg176
  z76 := Try.sizeOf176
  v76 := Try.zeroValue176
  t127 := Try.underlying191
  a127 := Try.isAgg191
  z127 := Try.sizeOf191
  v127 := Try.zeroValue191
  t164 := Try.underlying198
  a164 := Try.isAgg198
  z164 := Try.sizeOf198
  v164 := Try.zeroValue198 }
theorem Try.Builder_Extra_156 : Builder.Extra Try.prog Try.lays156_ren := {
  sizeBuilder := by kernel_rfl
  liesBuilder := by kernel_rfl
  t5 := Try.underlying5
  a5 := Try.isAgg5
  z5 := Try.sizeOf5
  v5 := Try.zeroValue5
  infoByte := by kernel_rfl
  cellsByte := by kernel_rfl
  sizeByte := by kernel_rfl
  neB5 := by decide }
open Go.RowKit in
/-- No element: the empty string; the world is as it was. (Whatever the slice's address and capacity: a nil slice too.) (LAID: no walk: one application.) -/
theorem Try.strings_Join_none (a : Option Addr) (c : Nat) (sep : ByteArray) (w : World) :
    Calls Try.prog 121 #[.slice a 0 c, .string sep] w fun e w' => e = .returned (.string ⟨#[]⟩) ∧ w' = w := Any.strings_Join_none Try.lays156 Try.Builder_Extra_156 a c sep w
open Go.RowKit in
/-- strings.Join: "Join concatenates the elements of its first argument to create a single string. The separator string sep is placed between elements in the resulting string.": HOWEVER MANY ELEMENTS. Below the heap's end the world is as it was. (LAID: no walk: one application.) -/
theorem Try.strings_Join (bk o c : Nat) (xs : List ByteArray) (sep : ByteArray) (w : World) (hcells : ∀ (j : Nat) x, xs[j]? = some x → w.cell? ⟨bk, o + j, none⟩ = some (.string x)) (hbk : bk < w.heap.size) (hN : xs.length ≤ 140737488355328) (hcap : xs.length ≤ c) (hlen : (Lib.join (xs.map (·.data.toList)) sep.data.toList).length ≤ 140737488355328) :
    Calls Try.prog 121 #[.slice (some ⟨bk, o, none⟩) xs.length c, .string sep] w fun e w' => e = .returned (.string ⟨(Lib.join (xs.map (·.data.toList)) sep.data.toList).toArray⟩) ∧ Below w.heap.size w w' := Any.strings_Join Try.lays156 Try.Builder_Extra_156 bk o c xs sep w hcells hbk hN hcap hlen
def Try.lays128_ren : Go.Shelf.Ren := ⟨fun | 128 => 142 | n => n, fun | 51 => 189 | 3 => 3 | 4 => 4 | 46 => 167 | 5 => 5 | 9 => 9 | n => n, fun | n => n⟩
theorem Try.lays128 : Go.Proofs.Lays.n128 Try.prog Try.lays128_ren := {
  mixed := by kernel_rfl
  f128 := Try.func142.trans (congrArg some (by kernel_rfl))
  t3 := Try.underlying3
  a3 := Try.isAgg3
  z3 := Try.sizeOf3
  v3 := Try.zeroValue3
  t4 := Try.underlying4
  a4 := Try.isAgg4
  z4 := Try.sizeOf4
  v4 := Try.zeroValue4
  t5 := Try.underlying5
  a5 := Try.isAgg5
  z5 := Try.sizeOf5
  v5 := Try.zeroValue5
  t9 := Try.underlying9
  a9 := Try.isAgg9
  z9 := Try.sizeOf9
  v9 := Try.zeroValue9
  t46 := Try.underlying167
  a46 := Try.isAgg167
  z46 := Try.sizeOf167
  v46 := Try.zeroValue167
  t51 := Try.underlying189
  a51 := Try.isAgg189
  z51 := Try.sizeOf189
  v51 := Try.zeroValue189 }
/-- bits.Len32: "Len32 returns the minimum number of bits required to represent x; the result is 0 for x == 0.": IT RETURNS 'Lib.bitLen x'; the world is as it was. ('h0', 'h1': x is a uint32.) (LAID: no walk: one application.) -/
theorem Try.bits_Len32 (x : Int) (w : World) (h0 : 0 ≤ x) (h1 : x ≤ 4294967295) :
    Calls Try.prog 142 #[.int .u32 x] w fun e w' => e = .returned (.int .i64 (Lib.bitLen x.toNat)) ∧ w' = w := Any.bits_Len32 Try.lays128 x w h0 h1
def Try.lays125_ren : Go.Shelf.Ren := ⟨fun | 125 => 128 | 128 => 142 | 129 => 143 | n => n, fun | 46 => 167 | 3 => 3 | 51 => 189 | 53 => 108 | 4 => 4 | 5 => 5 | 9 => 9 | n => n, fun | n => n⟩
theorem Try.lays125 : Go.Proofs.Lays.n125 Try.prog Try.lays125_ren := {
  mixed := by kernel_rfl
  f125 := Try.func128.trans (congrArg some (by kernel_rfl))
  f128 := Try.func142.trans (congrArg some (by kernel_rfl))
  f129 := Try.func143.trans (congrArg some (by kernel_rfl))
  t3 := Try.underlying3
  a3 := Try.isAgg3
  z3 := Try.sizeOf3
  v3 := Try.zeroValue3
  t4 := Try.underlying4
  a4 := Try.isAgg4
  z4 := Try.sizeOf4
  v4 := Try.zeroValue4
  t5 := Try.underlying5
  a5 := Try.isAgg5
  z5 := Try.sizeOf5
  v5 := Try.zeroValue5
  t9 := Try.underlying9
  a9 := Try.isAgg9
  z9 := Try.sizeOf9
  v9 := Try.zeroValue9
  t46 := Try.underlying167
  a46 := Try.isAgg167
  z46 := Try.sizeOf167
  v46 := Try.zeroValue167
  t51 := Try.underlying189
  a51 := Try.isAgg189
  z51 := Try.sizeOf189
  v51 := Try.zeroValue189
  t53 := Try.underlying108
  a53 := Try.isAgg108
  z53 := Try.sizeOf108
  v53 := Try.zeroValue108 }
/-- bits.Len: "Len returns the minimum number of bits required to represent x; the result is 0 for x == 0.": IT RETURNS 'Lib.bitLen x'; the world is as it was. (A uint has 64 bits in the model.) ITS CALLEE bits.Len64 IS MET BY ITS OWN CONTRACT OFF THE SHELF (lay that first). (LAID: no walk: one application.) -/
theorem Try.bits_Len (x : Int) (w : World) (h0 : 0 ≤ x) (h1 : x ≤ 18446744073709551615) :
    Calls Try.prog 128 #[.int .u64 x] w fun e w' => e = .returned (.int .i64 (Lib.bitLen x.toNat)) ∧ w' = w := Any.bits_Len Try.lays125 x w h0 h1
def Try.lays215_ren : Go.Shelf.Ren := ⟨fun | 215 => 123 | n => n, fun | 3 => 3 | 4 => 4 | n => n, fun | n => n⟩
theorem Try.lays215 : Go.Proofs.Lays.n215 Try.prog Try.lays215_ren := {
  mixed := by kernel_rfl
  f215 := Try.func123.trans (congrArg some (by kernel_rfl))
  t3 := Try.underlying3
  a3 := Try.isAgg3
  z3 := Try.sizeOf3
  v3 := Try.zeroValue3
  t4 := Try.underlying4
  a4 := Try.isAgg4
  z4 := Try.sizeOf4
  v4 := Try.zeroValue4 }
open Go.RowKit in
/-- cmp.isNaN at int: 'x != x': false. (LAID: no walk: one application.) -/
theorem Try.cmp_isNaN_int (x : Int) (w : World) :
    Calls Try.prog 123 #[.int .i64 x] w fun e w' => e = .returned (.bool false) ∧ w' = w := Any.cmp_isNaN_int Try.lays215 x w
def Try.lays122_ren : Go.Shelf.Ren := ⟨fun | 122 => 100 | 215 => 123 | n => n, fun | 3 => 3 | 4 => 4 | n => n, fun | n => n⟩
theorem Try.lays122 : Go.Proofs.Lays.n122 Try.prog Try.lays122_ren := {
  mixed := by kernel_rfl
  f122 := Try.func100.trans (congrArg some (by kernel_rfl))
  f215 := Try.func123.trans (congrArg some (by kernel_rfl))
  t3 := Try.underlying3
  a3 := Try.isAgg3
  z3 := Try.sizeOf3
  v3 := Try.zeroValue3
  t4 := Try.underlying4
  a4 := Try.isAgg4
  z4 := Try.sizeOf4
  v4 := Try.zeroValue4 }
open Go.RowKit in
/-- cmp.Compare at int: "Compare returns -1 if x is less than y, 0 if x equals y, +1 if x is greater than y.": IT RETURNS 'Lib.compareInt x y'; the world is as it was. (LAID: no walk: one application.) -/
theorem Try.cmp_Compare_int (x y : Int) (w : World) :
    Calls Try.prog 100 #[.int .i64 x, .int .i64 y] w fun e w' => e = .returned (.int .i64 (Lib.compareInt x y)) ∧ w' = w := Any.cmp_Compare_int Try.lays122 x y w
open Go.RowKit in
/-- (*strings.Builder).String: "String returns the accumulated string.": OF A BUILDER THAT HOLDS AT LEAST ONE BYTE. ✋ THE MODEL FREEZES THOSE BYTES IN THE BUFFER (unsafe.String): a later write INTO them ends the model's run without an answer; a later append BEHIND them goes on. The statement's order of evaluation is drawn: one draw. THE FORM '_f': IT SAYS BESIDES THAT THE BUILDER IS A BUILDER STILL ('Lib.IsBuilderF', the same bytes): SO IT CAN BE WRITTEN ON: 'b.WriteString(b.String()[:k])'. (LAID: no walk: one application.) -/
theorem Try.Builder_String_f (B b : Nat) (l : List UInt8) (w : World) (h : Lib.IsBuilderF 172 5 B b (Lib.byteCells l) w) (h0 : l ≠ []) :
    Calls Try.prog 132 #[.pointer (some ⟨b, 0, none⟩)] w fun e w' => e = .returned (.string ⟨l.toArray⟩) ∧ (Lib.IsBuilderF 172 5 B b (Lib.byteCells l) w' ∧ Below B w w') := Any.Builder_String_f Try.lays169 Try.Builder_Extra_169 B b l w h h0
open Go.RowKit in
/-- (*strings.Builder).String OF A BUILDER THAT HOLDS NO BYTE: the empty string; THE FORM '_f': a builder still. (LAID: no walk: one application.) -/
theorem Try.Builder_String_empty_f (B b : Nat) (w : World) (h : Lib.IsBuilderF 172 5 B b [] w) (hBw : B ≤ w.heap.size) :
    Calls Try.prog 132 #[.pointer (some ⟨b, 0, none⟩)] w fun e w' => e = .returned (.string ⟨#[]⟩) ∧ (Lib.IsBuilderF 172 5 B b [] w' ∧ Below B w w') := Any.Builder_String_empty_f Try.lays169 Try.Builder_Extra_169 B b w h hBw
open Go.RowKit in
/-- (*strings.Builder).String: "String returns the accumulated string.": WHATEVER THE BUILDER HOLDS; THE FORM '_f': OF A BUILDER THAT MAY HAVE BEEN READ BEFORE; AND IT IS A BUILDER STILL, holding the same bytes: it can be written on. (LAID: no walk: one application.) -/
theorem Try.Builder_String_any_f (B b : Nat) (l : List UInt8) (w : World) (h : Lib.IsBuilderF 172 5 B b (Lib.byteCells l) w) (hBw : B ≤ w.heap.size) :
    Calls Try.prog 132 #[.pointer (some ⟨b, 0, none⟩)] w fun e w' => e = .returned (.string ⟨l.toArray⟩) ∧ (Lib.IsBuilderF 172 5 B b (Lib.byteCells l) w' ∧ Below B w w') := Any.Builder_String_any_f Try.lays169 Try.Builder_Extra_169 B b l w h hBw
open Go.RowKit in
/-- (*strings.Builder).String: "String returns the accumulated string.": OF A BUILDER THAT HOLDS AT LEAST ONE BYTE. ✋ THE MODEL FREEZES THOSE BYTES IN THE BUFFER (unsafe.String): a later write INTO them ends the model's run without an answer; a later append BEHIND them goes on. The statement's order of evaluation is drawn: one draw. THE FORM '_k': OVER 'Lib.IsBuilderF' (a builder that 'String()' may have read), AND WITH THE FRAME THAT REACHES ABOVE THE BUILDER: 'Lib.OthersKept': every block that is not b and is no row of uint8's stands as it stood: the iterator of a range among them. (LAID: no walk: one application.) -/
theorem Try.Builder_String_k (B b : Nat) (l : List UInt8) (w : World) (h : Lib.IsBuilderF 172 5 B b (Lib.byteCells l) w) (h0 : l ≠ []) :
    Calls Try.prog 132 #[.pointer (some ⟨b, 0, none⟩)] w fun e w' => e = .returned (.string ⟨l.toArray⟩) ∧ (Lib.IsBuilderF 172 5 B b (Lib.byteCells l) w' ∧ Below B w w' ∧ Lib.OthersKept 5 (some b) w w') := Any.Builder_String_k Try.lays169 Try.Builder_Extra_169 B b l w h h0
open Go.RowKit in
/-- (*strings.Builder).String OF A BUILDER THAT HOLDS NO BYTE: the empty string; THE FORM '_k': OVER 'Lib.IsBuilderF' (a builder that 'String()' may have read), AND WITH THE FRAME THAT REACHES ABOVE THE BUILDER: 'Lib.OthersKept': every block that is not b and is no row of uint8's stands as it stood: the iterator of a range among them. (LAID: no walk: one application.) -/
theorem Try.Builder_String_empty_k (B b : Nat) (w : World) (h : Lib.IsBuilderF 172 5 B b [] w) (hBw : B ≤ w.heap.size) :
    Calls Try.prog 132 #[.pointer (some ⟨b, 0, none⟩)] w fun e w' => e = .returned (.string ⟨#[]⟩) ∧ (Lib.IsBuilderF 172 5 B b [] w' ∧ Below B w w' ∧ Lib.OthersKept 5 (some b) w w') := Any.Builder_String_empty_k Try.lays169 Try.Builder_Extra_169 B b w h hBw
open Go.RowKit in
/-- (*strings.Builder).String: "String returns the accumulated string.": WHATEVER THE BUILDER HOLDS; THE FORM '_k': OVER 'Lib.IsBuilderF' (a builder that 'String()' may have read), AND WITH THE FRAME THAT REACHES ABOVE THE BUILDER: 'Lib.OthersKept': every block that is not b and is no row of uint8's stands as it stood: the iterator of a range among them. (LAID: no walk: one application.) -/
theorem Try.Builder_String_any_k (B b : Nat) (l : List UInt8) (w : World) (h : Lib.IsBuilderF 172 5 B b (Lib.byteCells l) w) (hBw : B ≤ w.heap.size) :
    Calls Try.prog 132 #[.pointer (some ⟨b, 0, none⟩)] w fun e w' => e = .returned (.string ⟨l.toArray⟩) ∧ (Lib.IsBuilderF 172 5 B b (Lib.byteCells l) w' ∧ Below B w w' ∧ Lib.OthersKept 5 (some b) w w') := Any.Builder_String_any_k Try.lays169 Try.Builder_Extra_169 B b l w h hBw
open Go.RowKit in
/-- (*strings.Builder).grow (no doc but "grow copies the buffer to a new, larger buffer so that there are at least n bytes of capacity beyond len(b.buf)."): AT A BUILDER WITHOUT A BUFFER: a new row of whatever bytes for its buffer, none of them its own yet. Three draws. (LAID: no walk: one application.) -/
theorem Try.Builder_grow_fresh_cap (B b n : Nat) (w : World) (hB : B ≤ b) (hbk : w.heap[b]? = some (.cells #[.pointer (some ⟨b, 0, none⟩), .slice none 0 0] 172 (0, 0))) (hBw : B ≤ w.heap.size) (hn : n ≤ 281474976710656) :
    Calls Try.prog 145 #[.pointer (some ⟨b, 0, none⟩), .int .i64 n] w fun e w' => e = .returned (.tuple #[]) ∧ (Lib.BuilderAt 172 5 B b (.pointer (some ⟨b, 0, none⟩)) [] w' ∧ Below B w w') ∧ ∃ p cap, w'.cell? ⟨b, 1, none⟩ = some (.slice p 0 cap) ∧ n ≤ cap := Any.Builder_grow_fresh_cap Try.lays241 Try.Builder_Extra_241 B b n w hB hbk hBw hn
open Go.RowKit in
/-- (*strings.Builder).Grow AT A BUILDER THAT HAS NOT BEEN WRITTEN ('var b strings.Builder; b.Grow(n)'): "Grow grows b's capacity, if necessary, to guarantee space for another n bytes.": it holds no byte behind it as before it. (LAID: no walk: one application.) -/
theorem Try.Builder_Grow_fresh_cap (B b n : Nat) (w : World) (hB : B ≤ b) (hbk : w.heap[b]? = some (.cells #[.pointer none, .slice none 0 0] 172 (0, 0))) (hBw : B ≤ w.heap.size) (hn : n ≤ 281474976710656) :
    Calls Try.prog 130 #[.pointer (some ⟨b, 0, none⟩), .int .i64 n] w fun e w' => e = .returned (.tuple #[]) ∧ (Lib.BuilderAt 172 5 B b (.pointer (some ⟨b, 0, none⟩)) [] w' ∧ Below B w w') ∧ ∃ p cap, w'.cell? ⟨b, 1, none⟩ = some (.slice p 0 cap) ∧ n ≤ cap := Any.Builder_Grow_fresh_cap Try.lays165 Try.Builder_Extra_165 B b n w hB hbk hBw hn
def Try.lays129_ren : Go.Shelf.Ren := ⟨fun | 129 => 143 | n => n, fun | 53 => 108 | 3 => 3 | 4 => 4 | 46 => 167 | 5 => 5 | 9 => 9 | n => n, fun | n => n⟩
theorem Try.lays129 : Go.Proofs.Lays.n129 Try.prog Try.lays129_ren := {
  mixed := by kernel_rfl
  f129 := Try.func143.trans (congrArg some (by kernel_rfl))
  t3 := Try.underlying3
  a3 := Try.isAgg3
  z3 := Try.sizeOf3
  v3 := Try.zeroValue3
  t4 := Try.underlying4
  a4 := Try.isAgg4
  z4 := Try.sizeOf4
  v4 := Try.zeroValue4
  t5 := Try.underlying5
  a5 := Try.isAgg5
  z5 := Try.sizeOf5
  v5 := Try.zeroValue5
  t9 := Try.underlying9
  a9 := Try.isAgg9
  z9 := Try.sizeOf9
  v9 := Try.zeroValue9
  t46 := Try.underlying167
  a46 := Try.isAgg167
  z46 := Try.sizeOf167
  v46 := Try.zeroValue167
  t53 := Try.underlying108
  a53 := Try.isAgg108
  z53 := Try.sizeOf108
  v53 := Try.zeroValue108 }
/-- bits.Len64: "Len64 returns the minimum number of bits required to represent x; the result is 0 for x == 0.": IT RETURNS 'Lib.bitLen x'; the world is as it was. ('h0', 'h1': x is a uint64.) (LAID: no walk: one application.) -/
theorem Try.bits_Len64 (x : Int) (w : World) (h0 : 0 ≤ x) (h1 : x ≤ 18446744073709551615) :
    Calls Try.prog 143 #[.int .u64 x] w fun e w' => e = .returned (.int .i64 (Lib.bitLen x.toNat)) ∧ w' = w := Any.bits_Len64 Try.lays129 x w h0 h1
def Try.lays189_ren : Go.Shelf.Ren := ⟨fun | 189 => 115 | 125 => 128 | 257 => 127 | 128 => 142 | 129 => 143 | 294 => 133 | 295 => 134 | 296 => 135 | 297 => 136 | 298 => 137 | 299 => 138 | 216 => 139 | 300 => 140 | 301 => 141 | 328 => 146 | 329 => 147 | 330 => 148 | 331 => 149 | 332 => 150 | 215 => 123 | 343 => 153 | n => n, fun | 28 => 105 | 3 => 3 | 46 => 167 | 0 => 0 | 51 => 189 | 53 => 108 | 4 => 4 | 183 => 181 | 182 => 180 | 131 => 186 | 5 => 5 | 9 => 9 | 218 => 192 | 222 => 196 | 228 => 201 | 229 => 202 | n => n, fun | n => n⟩
theorem Try.lays189 : Go.Proofs.Lays.n189 Try.prog Try.lays189_ren := {
  mixed := by kernel_rfl
  f125 := Try.func128.trans (congrArg some (by kernel_rfl))
  f128 := Try.func142.trans (congrArg some (by kernel_rfl))
  f129 := Try.func143.trans (congrArg some (by kernel_rfl))
  f189 := Try.func115.trans (congrArg some (by kernel_rfl))
  f215 := Try.func123.trans (congrArg some (by kernel_rfl))
  f216 := Try.func139.trans (congrArg some (by kernel_rfl))
  f257 := Try.func127.trans (congrArg some (by kernel_rfl))
  f294 := Try.func133.trans (congrArg some (by kernel_rfl))
  f295 := Try.func134.trans (congrArg some (by kernel_rfl))
  f296 := Try.func135.trans (congrArg some (by kernel_rfl))
  f297 := Try.func136.trans (congrArg some (by kernel_rfl))
  f298 := Try.func137.trans (congrArg some (by kernel_rfl))
  f299 := Try.func138.trans (congrArg some (by kernel_rfl))
  f300 := Try.func140.trans (congrArg some (by kernel_rfl))
  f301 := Try.func141.trans (congrArg some (by kernel_rfl))
  f328 := Try.func146.trans (congrArg some (by kernel_rfl))
  f329 := Try.func147.trans (congrArg some (by kernel_rfl))
  f330 := Try.func148.trans (congrArg some (by kernel_rfl))
  f331 := Try.func149.trans (congrArg some (by kernel_rfl))
  f332 := Try.func150.trans (congrArg some (by kernel_rfl))
  f343 := Try.func153.trans (congrArg some (by kernel_rfl))
  t0 := Try.underlying0
  a0 := Try.isAgg0
  z0 := Try.sizeOf0
  v0 := Try.zeroValue0
  t3 := Try.underlying3
  a3 := Try.isAgg3
  z3 := Try.sizeOf3
  v3 := Try.zeroValue3
  t4 := Try.underlying4
  a4 := Try.isAgg4
  z4 := Try.sizeOf4
  v4 := Try.zeroValue4
  t5 := Try.underlying5
  a5 := Try.isAgg5
  z5 := Try.sizeOf5
  v5 := Try.zeroValue5
  t9 := Try.underlying9
  a9 := Try.isAgg9
  z9 := Try.sizeOf9
  v9 := Try.zeroValue9
  t28 := Try.underlying105
  a28 := Try.isAgg105
  z28 := Try.sizeOf105
  v28 := Try.zeroValue105
  t46 := Try.underlying167
  a46 := Try.isAgg167
  z46 := Try.sizeOf167
  v46 := Try.zeroValue167
  t51 := Try.underlying189
  a51 := Try.isAgg189
  z51 := Try.sizeOf189
  v51 := Try.zeroValue189
  t53 := Try.underlying108
  a53 := Try.isAgg108
  z53 := Try.sizeOf108
  v53 := Try.zeroValue108
  t131 := Try.underlying186
  a131 := Try.isAgg186
  z131 := Try.sizeOf186
  v131 := Try.zeroValue186
  t182 := Try.underlying180
  a182 := Try.isAgg180
  z182 := Try.sizeOf180
  v182 := Try.zeroValue180
  t183 := Try.underlying181
  a183 := Try.isAgg181
  z183 := Try.sizeOf181
  v183 := Try.zeroValue181
  t218 := Try.underlying192
  a218 := Try.isAgg192
  z218 := Try.sizeOf192
  v218 := Try.zeroValue192
  t222 := Try.underlying196
  a222 := Try.isAgg196
  z222 := Try.sizeOf196
  v222 := Try.zeroValue196
  t228 := Try.underlying201
  a228 := Try.isAgg201
  z228 := Try.sizeOf201
  v228 := Try.zeroValue201
  t229 := Try.underlying202
  a229 := Try.isAgg202
  z229 := Try.sizeOf202
  v229 := Try.zeroValue202 }
open Go.Sort Go.RowKit in
theorem Try.slices_Sort_int (blk off cap : Nat) (zs : List Int) (w : World) (hH : Holds (Value.int .i64) w blk off zs.toArray) (hblk : blk < w.heap.size) (hsz : zs.length < 4611686018427387904) :
    Calls Try.prog 115 #[.slice (some ⟨blk, off, none⟩) zs.length cap] w fun e w' =>
      e = .returned (.tuple #[]) ∧ ∃ n os, w' = grow (putRow (Value.int .i64) (Sort.ahead w n) blk off (zs.mergeSort fun x y => decide (x ≤ y)).toArray) os := Any.slices_Sort_int Try.lays189 blk off cap zs w hH hblk hsz
def Try.laysNm220_ren : Go.Shelf.Ren := ⟨fun | 20 => 116 | n => n, fun | 22 => 105 | 3 => 3 | 4 => 4 | 0 => 0 | n => n, fun | n => n⟩
theorem Try.laysNm220 : Go.Proofs.Lays2.n20 Try.prog Try.laysNm220_ren := {
  mixed := by kernel_rfl
  f20 := Try.func116.trans (congrArg some (by kernel_rfl))
  t0 := Try.underlying0
  a0 := Try.isAgg0
  z0 := Try.sizeOf0
  v0 := Try.zeroValue0
  t3 := Try.underlying3
  a3 := Try.isAgg3
  z3 := Try.sizeOf3
  v3 := Try.zeroValue3
  t4 := Try.underlying4
  a4 := Try.isAgg4
  z4 := Try.sizeOf4
  v4 := Try.zeroValue4
  t22 := Try.underlying105
  a22 := Try.isAgg105
  z22 := Try.sizeOf105
  v22 := Try.zeroValue105
  i3 := by kernel_rfl }
open Go.RowKit Go.Lib Go.Sort in
/-- slices.Compact at []int, over an array: the library's two loops are walked. (LAID: no walk: one application.) -/
theorem Try.slices_Compact_int_arr (blk off cap : Nat) (d : Array Int) (w : World) (hH : Holds encI w blk off d) (hsz : d.size ≤ 9223372036854775807) (hcap : d.size ≤ cap) :
    Calls Try.prog 116 #[.slice (some ⟨blk, off, none⟩) d.size cap] w fun e w' => e = .returned (.slice (some ⟨blk, off, none⟩) (compactUpTo d d.size).length cap) ∧ ∃ q, w' = putRow encI (Sort.ahead w q) blk off (compactUpTo d d.size ++ List.replicate (d.size - (compactUpTo d d.size).length) 0).toArray := Any.slices_Compact_int_arr Try.laysNm220 blk off cap d w hH hsz hcap
open Go.RowKit Go.Lib Go.Sort in
/-- slices.Compact at []int: "Compact replaces consecutive runs of equal elements with a single copy. This is like the uniq command found on Unix. Compact modifies the contents of the slice s and returns the modified slice, which may have a smaller length. Compact zeroes the elements between the new length and the original length. The result preserves the nilness of s.": IT RETURNS THE SLICE CUT TO 'Lib.compact zs'; ITS CELLS HOLD 'Lib.compact zs', THEN ZERO VALUES up to the old length; all else is as it was, but for the count of draws. IN THE WORDS OF slices.Sort's CONTRACT ('Holds', 'putRow'): so the everyday 'slices.Sort(xs); xs = slices.Compact(xs)' goes from the one contract to the other. It asks 'zs.length ≤ cap' (every slice's: the reslicing 's[:k]' looks at it). Length 0, nil: '.._empty'. (LAID: no walk: one application.) -/
theorem Try.slices_Compact_int (blk off cap : Nat) (zs : List Int) (w : World) (hH : Holds (Value.int .i64) w blk off zs.toArray) (hsz : zs.length ≤ 9223372036854775807) (hcap : zs.length ≤ cap) :
    Calls Try.prog 116 #[.slice (some ⟨blk, off, none⟩) zs.length cap] w fun e w' => e = .returned (.slice (some ⟨blk, off, none⟩) (Lib.compact zs).length cap) ∧ ∃ q, w' = putRow (Value.int .i64) (Sort.ahead w q) blk off (Lib.compact zs ++ List.replicate (zs.length - (Lib.compact zs).length) 0).toArray := Any.slices_Compact_int Try.laysNm220 blk off cap zs w hH hsz hcap
open Go.RowKit Go.Lib Go.Sort in
/-- The same at a slice of length 0, a nil one too: it comes back as it is. (LAID: no walk: one application.) -/
theorem Try.slices_Compact_int_empty (a : Option Addr) (cap : Nat) (w : World) :
    Calls Try.prog 116 #[.slice a 0 cap] w fun e w' => e = .returned (.slice a 0 cap) ∧ w' = w := Any.slices_Compact_int_empty Try.laysNm220 a cap w
def Try.laysNm237_ren : Go.Shelf.Ren := ⟨fun | 37 => 123 | n => n, fun | 3 => 3 | 4 => 4 | n => n, fun | n => n⟩
theorem Try.laysNm237 : Go.Proofs.Lays2.n37 Try.prog Try.laysNm237_ren := {
  mixed := by kernel_rfl
  f37 := Try.func123.trans (congrArg some (by kernel_rfl))
  t3 := Try.underlying3
  a3 := Try.isAgg3
  z3 := Try.sizeOf3
  v3 := Try.zeroValue3
  t4 := Try.underlying4
  a4 := Try.isAgg4
  z4 := Try.sizeOf4
  v4 := Try.zeroValue4 }
open Go.RowKit Go.Lib in
/-- cmp.isNaN[int]: 'x != x': false. (LAID: no walk: one application.) -/
theorem Try.cmp_isNaN_int2 (x : Int) (w : World) :
    Calls Try.prog 123 #[.int .i64 x] w fun e w' => e = .returned (.bool false) ∧ w' = w := Any.cmp_isNaN_int2 Try.laysNm237 x w
def Try.laysNm231_ren : Go.Shelf.Ren := ⟨fun | 31 => 139 | 37 => 123 | n => n, fun | 3 => 3 | 4 => 4 | n => n, fun | n => n⟩
theorem Try.laysNm231 : Go.Proofs.Lays2.n31 Try.prog Try.laysNm231_ren := {
  mixed := by kernel_rfl
  f31 := Try.func139.trans (congrArg some (by kernel_rfl))
  f37 := Try.func123.trans (congrArg some (by kernel_rfl))
  t3 := Try.underlying3
  a3 := Try.isAgg3
  z3 := Try.sizeOf3
  v3 := Try.zeroValue3
  t4 := Try.underlying4
  a4 := Try.isAgg4
  z4 := Try.sizeOf4
  v4 := Try.zeroValue4 }
open Go.RowKit Go.Lib in
/-- cmp.Less[int]: "Less reports whether x is less than y.": 'x < y'; the world is as it was. (LAID: no walk: one application.) -/
theorem Try.cmp_Less_int2 (x y : Int) (w : World) :
    Calls Try.prog 139 #[.int .i64 x, .int .i64 y] w fun e w' => e = .returned (.bool (decide (x < y))) ∧ w' = w := Any.cmp_Less_int2 Try.laysNm231 x y w
open Go.RowKit Go.Lib Go.Sort in
/-- slices.Compact at []int, of an argument: the slice cut to 'Lib.compact (elements)'; the n cells hold that, then zeros. (LAID: no walk: one application.) -/
theorem Try.slices_Compact_int_cells (b off n c : Nat) (zs : List Int) (w : World) (hz : n ≤ zs.length) (hbig : n ≤ 9223372036854775807) (hcap : n ≤ c) (hc : ∀ j, j < zs.length → w.cell? ⟨b, off + j, none⟩ = some (.int .i64 (zs.getD j 0))) (hf : ∀ j, j < n → w.frozen? ⟨b, off + j, none⟩ = false) :
    Calls Try.prog 116 #[.slice (some ⟨b, off, none⟩) n c] w fun e w' => e = .returned (.slice (some ⟨b, off, none⟩) (Lib.compact (zs.take n)).length c) ∧ ∃ q, w' = (w.drewN q).setCells b off ((Lib.compact (zs.take n) ++ List.replicate (n - (Lib.compact (zs.take n)).length) 0).map (Value.int .i64)) := Any.slices_Compact_int_cells Try.laysNm220 b off n c zs w hz hbig hcap hc hf
open Go.RowKit Go.Sort in
/-- .. and plain. (LAID: no walk: one application.) -/
theorem Try.slices_Sort_int_none (p : Option Addr) (cap : Nat) (w : World) :
    Calls Try.prog 115 #[.slice p 0 cap] w fun e w' => e = .returned (.tuple #[]) ∧ w' = w := Any.slices_Sort_int_none Try.lays189 p cap w
end Go.Proofs

namespace Go.Proofs.Ytejpgifofkiofaa
open Go.RowKit

def rpStr : Rp ByteArray where
  n := 1
  R _ _ x s := x = [.string s]
  len := by rintro F w x a rfl; rfl
  one := by rintro F w x a rfl u hu; simp at hu; subst hu; rfl
  keep := by intro F w w' x a h _; exact h
  weaken := by intro F F' w x a h _; exact h

/-- cell i of a slice of strings -/
theorem isSl_str {F : Nat → Prop} {w : World} {v : Value} {l : List ByteArray} (h : IsSl rpStr F w v l) : ∃ a c bl off, v = .slice a l.length c ∧ (l.length ≤ maxLen ∧ l.length ≤ c) ∧ (0 < l.length → a = some ⟨bl, off, none⟩ ∧ F bl) ∧ ∀ i (h : i < l.length), w.cell? ⟨bl, off + i, none⟩ = some (.string l[i]) := by
  obtain ⟨a, c, bl, off, X, hv, hm, ha, h1, h2⟩ := h
  refine ⟨a, c, bl, off, hv, hm, ha, fun i hi => ?_⟩
  have hx : X i = [.string l[i]] := h2 i hi
  have := h1 i 0 (.string l[i]) hi (by rw [hx]; rfl)
  simpa [rpStr] using this

def RetS (l : List UInt8) (w : World) (e : Ending) (w' : World) : Prop := ∃ s : ByteArray, e = .returned (.string s) ∧ s.data.toList = l ∧ Below w.heap.size w w'

namespace Ty
mutual
def text (names : List ByteArray) : Ty → List UInt8
  | .mk l b => texts names l ++ (names.getD b.toNat default).data.toList
def texts (names : List ByteArray) : List Ty → List UInt8
  | [] => []
  | t :: l => (if t.args = [] then text names t else 40 :: text names t ++ [41]) ++ [32, 45, 62, 32] ++ texts names l
end
def part (names : List ByteArray) (t : Ty) : List UInt8 := if t.args = [] then text names t else 40 :: text names t ++ [41]
theorem texts_append (names : List ByteArray) (l r : List Ty) : texts names (l ++ r) = texts names l ++ texts names r := by
  induction l with
  | nil => simp [texts]
  | cons t l ih => simp [texts, ih]
theorem texts_take (names : List ByteArray) (l : List Ty) (i : Nat) (h : i < l.length) : texts names (l.take (i + 1)) = texts names (l.take i) ++ part names l[i] ++ [32, 45, 62, 32] := by
  rw [List.take_succ_eq_append_getElem h, texts_append]; simp [texts, part]
theorem text_len (names : List ByteArray) (M : Nat) (hM : ∀ s ∈ names, s.size ≤ M) (t : Ty) : (text names t).length + 6 ≤ t.size * (M + 12) := by
  induction t using Ty.ind with
  | h args base ih =>
    have : ∀ l : List Ty, (∀ t ∈ l, (text names t).length + 6 ≤ t.size * (M + 12)) → (texts names l).length ≤ sizes l * (M + 12) := by
      intro l
      induction l with
      | nil => intro _; simp [texts]
      | cons t l ih2 =>
        intro h
        have h1 := h t (by simp)
        have h2 := ih2 (fun t ht => h t (by simp [ht]))
        simp only [texts, sizes, Nat.add_mul, List.length_append]
        split
        · simp; omega
        · simp; omega
    have h1 := this args ih
    have h2 : (names.getD base.toNat default).data.toList.length ≤ M := by
      rw [List.getD_eq_getElem?_getD]
      cases hx : names[base.toNat]? with
      | none => simp; show (default : ByteArray).data.size ≤ M; exact Nat.zero_le _
      | some x => simp; exact hM x (List.mem_of_getElem? hx)
    simp only [text, size, Nat.add_mul, List.length_append]; omega
theorem texts_len (names : List ByteArray) (M : Nat) (hM : ∀ s ∈ names, s.size ≤ M) (l : List Ty) : (texts names l).length ≤ sizes l * (M + 12) := by
  have h := text_len names M hM (.mk l 0)
  simp only [text, size, Nat.add_mul, List.length_append] at h
  induction l with
  | nil => simp [texts]
  | cons t l ih =>
    have h1 := text_len names M hM t
    have h2 := text_len names M hM (.mk l 0)
    simp only [text, size, Nat.add_mul, List.length_append] at h2
    have h3 := ih h2
    simp only [texts, sizes, Nat.add_mul, List.length_append]
    split
    · simp; omega
    · simp; omega
end Ty

set_option maxHeartbeats 1000000 in
theorem text_r {F F2 : Nat → Prop} {w0 : World} {s b : Value} {t : Ty} (ht : IsTy F w0 s b t) {nv : Value} {names : List ByteArray} (hn : IsSl rpStr F2 w0 nv names) (hM : ∀ s ∈ names, s.size ≤ 1048576) : ∀ w : World, t.size ≤ 1000 → Ty.Low names.length t → Keep F w0 w → Keep F2 w0 w →
    Calls Try.prog 43 #[.agg #[s, b], nv] w (RetS (t.text names) w) := by
  obtain ⟨na, nc, nbl, noff, rfl, hnm, hna, hnc⟩ := isSl_str hn
  clear hn
  induction ht with
  | mk a n c b args bl off A N' C B hn hm ha h1 h2 h3 ih =>
  intro w hsz hlow hw hw2
  rw [Ty.low_iff] at hlow
  obtain ⟨hb0, hb1, hlow⟩ := hlow
  have Hlow := Lib.hid hlow; clear hlow
  have hargs : Hid (∀ i (h : i < args.length), args[i].args.length = N' i) := fun i h => by
    obtain ⟨a', c', e1, _⟩ := (h3 i h).shape; exact (Value.slice.inj e1).2.1.symm
  have Hlen : Hid (∀ i (h : i < args.length), (Ty.text names args[i]).length ≤ 1100000000) := fun i h => by
    have h1 := Ty.text_len names _ hM args[i]; have h2 := Ty.size_get (b := b) i h
    have : args[i].size * (1048576 + 12) ≤ 1000 * (1048576 + 12) := Nat.mul_le_mul_right _ (by omega)
    omega
  have Hlens : Hid (∀ k, (Ty.texts names (args.take k)).length ≤ 1100000000) := fun k => by
    have h1 := Ty.texts_len names _ hM (args.take k); have h2 := Ty.sizes_take_le args k
    have : Ty.sizes (args.take k) * (1048576 + 12) ≤ 1000 * (1048576 + 12) := Nat.mul_le_mul_right _ (by rw [Ty.size_eq] at hsz; omega)
    omega
  clear h3 hm
  subst hn
  have hlen : args.length ≤ 1000 := by have := Ty.length_lt (l := args) (b := b); omega
  have Hsz : Hid (∀ i (h : i < args.length), args[i].size ≤ 1000) := fun i h => by
    have := Ty.size_get (b := b) i h; omega
  have Hih := Lib.hid ih; clear ih hsz
  have HM := Lib.hid hM; clear hM
  obtain ⟨k0, hk0⟩ : ∃ k0 : Nat, b = k0 := ⟨b.toNat, by omega⟩
  subst hk0
  have hk1 : k0 < names.length := by omega
  obtain ⟨rfl, hnF⟩ := hna (by omega)
  have cn : w.cell? ⟨nbl, noff + k0, none⟩ = some (.string names[k0]) := hw2 _ _ _ hnF (hnc k0 hk1)
  have Hend : Hid ((Ty.mk args (k0 : Int)).text names = Ty.texts names args ++ names[k0].data.toList) := by
    show _ = _
    simp [Ty.text, List.getElem?_eq_getElem hk1]
  unfold maxLen at hnm
  go_enter Try.func43, Try.ntmps43
  go_wp2_with fail
  go_loopw [5, 6, 7] (fun x i y wr => ∃ (k : Nat) (s : ByteArray), i = .int .i64 k ∧ x = .string s ∧ Hid (s.data.toList = Ty.texts names (args.take k)) ∧ k ≤ args.length ∧ Below w.heap.size w wr ∧ Blk wr w.heap.size #[.slice a args.length c, .int .i64 (k0 : Int)] 26) (fun _ i _ _ => args.length - (intOf i).toNat)
  case atStart => exact ⟨0, _, rfl, rfl, by show _ = _; simp [Ty.texts], by omega, (Below.refl _ _).alloc (Nat.le_refl _) _, Blk.new _ _ _ rfl⟩
  case round =>
    obtain ⟨k, s, rfl, rfl, hs, hk, hb, hbox⟩ := hrel
    have c0 : wr.cell? ⟨w.heap.size, 0, none⟩ = some (.slice a args.length c) := hbox.cell rfl
    have c1 : wr.cell? ⟨w.heap.size, 1, none⟩ = some (.int .i64 (k0 : Int)) := hbox.cell rfl
    have hlt0 := hbox.lt
    have hss : s.size ≤ 1100000000 := by have := Hlens.out k; rw [← hs.out] at this; simpa using this
    by_cases hlt : k < args.length
    · obtain ⟨rfl, hF⟩ := ha (by omega)
      have e1 : wr.cell? ⟨bl, off + k * 2, none⟩ = some (.slice (A k) (N' k) (C k)) := (hw.below hb) _ _ _ hF (h1 k hlt)
      have e2 : wr.cell? ⟨bl, off + k * 2 + 1, none⟩ = some (.int .i64 (B k)) := (hw.below hb) _ _ _ hF (h2 k hlt)
      go_wp2_with fail
      refine (Hih.out k hlt _ (Hsz.out k hlt) (Hlow.out _ (List.getElem_mem hlt)) (hw.below hb) (hw2.below hb)).mono ?_
      rintro e w1 ⟨s1, rfl, hs1, hb1⟩
      have hss1 : s1.size ≤ 1100000000 := by have := Hlen.out k hlt; rw [← hs1] at this; simpa using this
      have Hs1 := Lib.hid hs1; clear hs1
      have f1 : w1.cell? ⟨bl, off + k * 2, none⟩ = some (.slice (A k) (N' k) (C k)) := ((hw.below hb).below hb1) _ _ _ hF (h1 k hlt)
      have x1 := hbox.below hb1
      have d0 : w1.cell? ⟨w.heap.size, 0, none⟩ = some (.slice (some ⟨bl, off, none⟩) args.length c) := x1.cell rfl
      by_cases hN : N' k = 0
      · have hnil : Hid (args[k].args = []) := List.eq_nil_of_length_eq_zero (by rw [hargs.out k hlt]; exact hN)
        go_wp2_with fail
        go_roundw
        case rel => exact ⟨k + 1, _, by go_num, rfl, by show _ = _; rw [Ty.texts_take _ _ _ hlt]; simp [hs.out, Hs1.out, Ty.part, hnil.out, ByteArray.data_append], by omega, hb.trans (hb1.mono (by omega)), x1⟩
        case measure => simp [intOf]; omega
      · have hnil : Hid (args[k].args ≠ []) := fun h => hN (by rw [← hargs.out k hlt, h]; rfl)
        go_wp2_with fail
        go_roundw
        case rel => exact ⟨k + 1, _, by go_num, rfl, by show _ = _; rw [Ty.texts_take _ _ _ hlt]; simp [hs.out, Hs1.out, Ty.part, hnil.out, ByteArray.data_append], by omega, hb.trans (hb1.mono (by omega)), x1⟩
        case measure => simp [intOf]; omega
    · have cn1 : wr.cell? ⟨nbl, noff + k0, none⟩ = some (.string names[k0]) := (hw2.below hb) _ _ _ hnF (hnc k0 hk1)
      have hss2 : names[k0].size ≤ 1048576 := HM.out _ (List.getElem_mem hk1)
      go_wp2_with fail
      go_ret
      have h := hs.out
      rw [List.take_of_length_le (by omega)] at h
      exact ⟨s ++ names[k0], rfl, by rw [Hend.out, ByteArray.data_append, Array.toList_append, h], hb⟩

theorem infoStr : (Try.prog.info? 9).map (fun i => (i.zero, i.size, i.bytes)) = some (some (.string ⟨#[]⟩), 1, 16) := by kernel_rfl

theorem acc_cap {α : Type} {r : Rp α} {E : TypeId} {base : Nat} {F : Nat → Prop} {w : World} {a : Option Addr} {n c : Nat} {l : List α} (h : Acc r E base F w (.slice a n c) l) : n = l.length ∧ n ≤ c := by
  obtain ⟨X, h1, h2, h3⟩ := h
  rcases h2.2 with ⟨h, h0⟩ | ⟨g, cap, cur, hv, _, _, hn, _⟩
  · cases h; exact ⟨by omega, by omega⟩
  · cases hv; exact ⟨rfl, hn⟩

theorem intercalate_snoc {α : Type} (sep : List α) (l : List (List α)) (x : List α) : sep.intercalate (l ++ [x]) = (l.map (· ++ sep)).flatten ++ x := by
  induction l with
  | nil => simp [List.intercalate]
  | cons a l ih =>
    cases l with
    | nil => simp [List.intercalate]
    | cons b l =>
      have e : ∀ m : List (List α), sep.intercalate (a :: b :: m) = a ++ sep ++ sep.intercalate (b :: m) := fun m => by simp [List.intercalate]
      rw [List.cons_append, List.cons_append, e, ← List.cons_append, ih]; simp
theorem Ty.texts_eq (names : List ByteArray) (l : List Ty) : Ty.texts names l = ((l.map (Ty.part names)).map (· ++ [32, 45, 62, 32])).flatten := by
  induction l with
  | nil => simp [Ty.texts]
  | cons t l ih => simp [Ty.texts, ih, Ty.part]

set_option maxRecDepth 100000 in
set_option maxHeartbeats 1000000 in
theorem text_k {F F2 : Nat → Prop} {w0 : World} {s b : Value} {t : Ty} (ht : IsTy F w0 s b t) {nv : Value} {names : List ByteArray} (hn : IsSl rpStr F2 w0 nv names) (hM : ∀ s ∈ names, s.size ≤ 1048576) : ∀ w : World, t.size ≤ 1000 → Ty.Low names.length t → Keep F w0 w → Keep F2 w0 w →
    Calls Try.prog 96 #[.agg #[s, b], nv] w (RetS (t.text names) w) := by
  obtain ⟨na, nc, nbl, noff, rfl, hnm, hna, hnc⟩ := isSl_str hn
  clear hn
  induction ht with
  | mk a n c b args bl off A N' C B hn hm ha h1 h2 h3 ih =>
  intro w hsz hlow hw hw2
  rw [Ty.low_iff] at hlow
  obtain ⟨hb0, hb1, hlow⟩ := hlow
  have Hlow := Lib.hid hlow; clear hlow
  have hargs : Hid (∀ i (h : i < args.length), args[i].args.length = N' i) := fun i h => by
    obtain ⟨a', c', e1, _⟩ := (h3 i h).shape; exact (Value.slice.inj e1).2.1.symm
  have Hlen : Hid (∀ i (h : i < args.length), (Ty.text names args[i]).length ≤ 1100000000) := fun i h => by
    have h1 := Ty.text_len names _ hM args[i]; have h2 := Ty.size_get (b := b) i h
    have : args[i].size * (1048576 + 12) ≤ 1000 * (1048576 + 12) := Nat.mul_le_mul_right _ (by omega)
    omega
  have Hall : Hid ((Ty.text names (.mk args b)).length ≤ 1100000000) := by
    have h1 := Ty.text_len names _ hM (.mk args b)
    have : (Ty.mk args b).size * (1048576 + 12) ≤ 1000 * (1048576 + 12) := Nat.mul_le_mul_right _ (by omega)
    show _ ≤ _
    omega
  clear h3 hm
  subst hn
  have hlen : args.length ≤ 1000 := by have := Ty.length_lt (l := args) (b := b); omega
  have Hsz : Hid (∀ i (h : i < args.length), args[i].size ≤ 1000) := fun i h => by
    have := Ty.size_get (b := b) i h; omega
  have Hih := Lib.hid ih; clear ih hsz
  have HM := Lib.hid hM; clear hM
  obtain ⟨k0, hk0⟩ : ∃ k0 : Nat, b = k0 := ⟨b.toNat, by omega⟩
  subst hk0
  have hk1 : k0 < names.length := by omega
  obtain ⟨rfl, hnF⟩ := hna (by omega)
  have Hend : Hid ((Ty.mk args (k0 : Int)).text names = Ty.texts names args ++ names[k0].data.toList) := by
    show _ = _
    simp [Ty.text, List.getElem?_eq_getElem hk1]
  unfold maxLen at hnm
  obtain ⟨i0, hi0, hz0, hz1, hz2⟩ := info_parts infoStr
  go_enter Try.func96, Try.ntmps96
  go_wp2_with fail
  go_loopw [5, 7, 8, 12] (fun x _ _ i wr => ∃ (k : Nat) (v : Value) (ps : List ByteArray), i = .int .i64 k ∧ x = v ∧ Hid (ps.map (·.data.toList) = (args.take k).map (Ty.part names)) ∧ k ≤ args.length ∧ Below w.heap.size w wr ∧ Blk wr w.heap.size #[.slice a args.length c, .int .i64 (k0 : Int)] 40 ∧ Acc rpStr 9 (w.heap.size + 1) (fun _ => True) wr v ps) (fun _ _ _ i _ => args.length - (intOf i).toNat)
  case atStart => exact ⟨0, _, [], rfl, rfl, by show _ = _; simp, by omega, (Below.refl _ _).alloc (Nat.le_refl _) _, Blk.new _ _ _ rfl, Acc.nil _ _ _ _ _⟩
  case round =>
    obtain ⟨k, v, ps, rfl, hv, hps, hk, hb, hbox, hacc⟩ := hrel
    subst hv
    have Hacc := Lib.hid hacc; clear hacc
    have c0 : wr.cell? ⟨w.heap.size, 0, none⟩ = some (.slice a args.length c) := hbox.cell rfl
    have c1 : wr.cell? ⟨w.heap.size, 1, none⟩ = some (.int .i64 (k0 : Int)) := hbox.cell rfl
    have hlt0 := hbox.lt
    have hpl : Hid (ps.length = k) := by
      show _ = _
      have := congrArg List.length hps.out
      simp at this; omega
    by_cases hlt : k < args.length
    · obtain ⟨rfl, hF⟩ := ha (by omega)
      have e1 : wr.cell? ⟨bl, off + k * 2, none⟩ = some (.slice (A k) (N' k) (C k)) := (hw.below hb) _ _ _ hF (h1 k hlt)
      have e2 : wr.cell? ⟨bl, off + k * 2 + 1, none⟩ = some (.int .i64 (B k)) := (hw.below hb) _ _ _ hF (h2 k hlt)
      go_wp2_with fail
      refine (Hih.out k hlt _ (Hsz.out k hlt) (Hlow.out _ (List.getElem_mem hlt)) ((hw.below hb).alloc _) ((hw2.below hb).alloc _)).mono ?_
      rintro e w1 ⟨s1, rfl, hs1, hb1⟩
      have hss1 : s1.size ≤ 1100000000 := by have := Hlen.out k hlt; rw [← hs1] at this; simpa using this
      have Hs1 := Lib.hid hs1; clear hs1
      have hB1 : Below w.heap.size w w1 := (hb.alloc (by omega) _).trans (hb1.mono (by simp; omega))
      have hsz1 : wr.heap.size < w1.heap.size := by have := hb1.size; simp at this; omega
      have x1 := (hbox.alloc (.cells #[.slice (A k) (N' k) (C k), .int .i64 (B k)] 40)).below hb1
      have xa : w1.cell? ⟨wr.heap.size, 0, none⟩ = some (.slice (A k) (N' k) (C k)) := ((Blk.new wr #[.slice (A k) (N' k) (C k), .int .i64 (B k)] 40 rfl).below hb1).cell rfl
      have A1 := Lib.hid ((Hacc.out.alloc (.cells #[.slice (A k) (N' k) (C k), .int .i64 (B k)] 40)).below hb1)
      have hne : Hid (u5.ownBlock ≠ some w.heap.size) := fun e => by have := (A1.out.base_le _ e).1; omega
      by_cases hN : N' k = 0
      · have hnil : Hid (args[k].args = []) := List.eq_nil_of_length_eq_zero (by rw [hargs.out k hlt]; exact hN)
        go_wp2_with (at_builtin; refine wpList_push rpStr (by decide) rfl _ _ _ rfl (w.heap.size + 1) 9 i0 _ 16 Try.underlying66 hi0 hz0 hz1 hz2 rfl (by decide) (fun _ => True) u5 ps rfl (A1.out.alloc _) (by rw [hpl.out]; omega) w1.heap.size _ [.string s1] s1 rfl (heap_alloc_new _ _) rfl (by simp; omega) ?_; intro g cap w2 hacc2 hgrow hat hlt2)
        have Hacc2 := Lib.hid hacc2; clear hacc2
        go_roundw
        case rel => exact ⟨k + 1, _, ps ++ [s1], by go_num, rfl, by show _ = _; rw [List.map_append, hps.out, List.take_succ_eq_append_getElem hlt, List.map_append]; simp [Hs1.out, Ty.part, hnil.out], by omega, (hB1.alloc (by omega) _).grown hgrow (by simp; omega) (fun q hq => by have := (A1.out.base_le q hq).1; omega), (x1.alloc _).grown hgrow hne.out, by simpa using Hacc2.out⟩
        case measure => simp [intOf]; omega
      · have hnil : Hid (args[k].args ≠ []) := fun h => hN (by rw [← hargs.out k hlt, h]; rfl)
        go_wp2_with (at_builtin; refine wpList_push rpStr (by decide) rfl _ _ _ rfl (w.heap.size + 1) 9 i0 _ 16 Try.underlying66 hi0 hz0 hz1 hz2 rfl (by decide) (fun _ => True) u5 ps rfl (A1.out.alloc _) (by rw [hpl.out]; omega) w1.heap.size _ [.string (ByteArray.mk #[40] ++ s1 ++ ByteArray.mk #[41])] (ByteArray.mk #[40] ++ s1 ++ ByteArray.mk #[41]) rfl (heap_alloc_new _ _) rfl (by simp; omega) ?_; intro g cap w2 hacc2 hgrow hat hlt2)
        have Hacc2 := Lib.hid hacc2; clear hacc2
        go_roundw
        case rel => exact ⟨k + 1, _, ps ++ [ByteArray.mk #[40] ++ s1 ++ ByteArray.mk #[41]], by go_num, rfl, by show _ = _; rw [List.map_append, hps.out, List.take_succ_eq_append_getElem hlt, List.map_append]; simp [Hs1.out, Ty.part, hnil.out, ByteArray.data_append], by omega, (hB1.alloc (by omega) _).grown hgrow (by simp; omega) (fun q hq => by have := (A1.out.base_le q hq).1; omega), (x1.alloc _).grown hgrow hne.out, by simpa using Hacc2.out⟩
        case measure => simp [intOf]; omega
    · have cn1 : wr.cell? ⟨nbl, noff + k0, none⟩ = some (.string names[k0]) := (hw2.below hb) _ _ _ hnF (hnc k0 hk1)
      have i0' : (0 : Int) ≤ (k0 : Int) := by omega
      have hk1' : (k0 : Int) < (names.length : Int) := by omega
      go_wp2_with (at_builtin; refine wpList_push rpStr (by decide) rfl _ _ _ rfl (w.heap.size + 1) 9 i0 _ 16 Try.underlying66 hi0 hz0 hz1 hz2 rfl (by decide) (fun _ => True) u5 ps rfl (Hacc.out.alloc _) (by rw [hpl.out]; omega) wr.heap.size _ [.string names[k0]] names[k0] rfl (heap_alloc_new _ _) rfl (by simp; omega) ?_; intro g cap w2 hacc2 hgrow hat hlt2)
      have hsl := hacc2.sl (F' := fun _ => True) (fun _ _ _ => trivial) (fun _ _ => trivial)
      have hcap := (acc_cap hacc2).2
      obtain ⟨_, _, bl', off', hv, _, hg, hcell⟩ := isSl_str hsl
      have hlx : (ps ++ [names[k0]]).length = ps.length + 1 := by simp
      obtain ⟨he, _⟩ := hg (by omega)
      have hv1 := (Value.slice.inj hv).1
      rw [he] at hv1
      cases hv1
      have hjoin : Lib.join ((ps ++ [names[k0]]).map (·.data.toList)) [32, 45, 62, 32] = (Ty.mk args (k0 : Int)).text names := by
        have h := hps.out
        rw [List.take_of_length_le (by omega)] at h
        unfold Lib.join
        rw [List.map_append, List.map_cons, List.map_nil, intercalate_snoc, h, Hend.out, Ty.texts_eq]
      have hj := Try.strings_Join g 0 cap (ps ++ [names[k0]]) ⟨#[32, 45, 62, 32]⟩ w2 (fun j x hx => by
        have hj : j < (ps ++ [names[k0]]).length := (List.getElem?_eq_some_iff.1 hx).1
        rw [hcell j hj]; congr 2; exact (List.getElem?_eq_some_iff.1 hx).2) hlt2 (by have := hpl.out; omega) (by omega) (by
          show (Lib.join ((ps ++ [names[k0]]).map (·.data.toList)) [32, 45, 62, 32]).length ≤ _
          rw [hjoin]; have := Hall.out; omega)
      rw [hlx] at hj
      refine hj.mono ?_
      clear hj
      rintro e w3 ⟨rfl, hb3⟩
      have Hjoin := Lib.hid hjoin; clear hjoin
      go_wp2_with fail
      go_ret
      have hB2 : Below w.heap.size w w2 := (hb.alloc (by omega) _).grown hgrow (by simp; omega) (fun q hq => by have := (Hacc.out.base_le q hq).1; omega)
      exact ⟨_, rfl, by have h := Hjoin.out; simpa using h, hB2.trans (hb3.mono hB2.size)⟩
end Go.Proofs.Ytejpgifofkiofaa

