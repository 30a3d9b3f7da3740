/-
  DERIVED: THE SHELF's CONTRACTS AT THIS DUMP, IN PLAIN WORDS (tools/lay-plain.mjs out of 'TryShelf.lean', which tools/lay-shelf.mjs wrote): THE SAME DECLARATIONS UNDER THE SAME NAMES: 'import', 'namespace', 'open', 'def', 'theorem' AND NOTHING ELSE: no command of the shelf's: FOR A HAND-IN. Each laying: the table of numbers ('.._ren') and one theorem, a field a fact of the dump's own or the kernel's comparison; each contract: ONE APPLICATION.
-/
import Derived.Shelf.Strings.Builder1
import Derived.Shelf.Small.Bits
import Derived.Shelf.Small.Strs
import Derived.Shelf.Strings.BuilderF
import Derived.Shelf.Strings.BuilderK
import Derived.Shelf.Strconv.Itoa0
import Derived.Shelf.Strings.Search1
import Derived.Ground.SlgmProg
import Derived.Shelf.SortM.Plain
import Derived.Shelf.SortM.SortNone
import Derived.Shelf.SlGeneric
import Derived.Shelf.SlIter.Nil
import Derived.Ground.GgzProg
import Derived.Test.YtobcpafalfdpkaaProg
namespace Go.Proofs
open Go.Shelf
def Try.lays169_ren : Go.Shelf.Ren := ⟨fun | 169 => 72 | n => n, fun | 70 => 104 | 9 => 9 | 0 => 0 | 72 => 107 | 37 => 105 | 127 => 127 | 3 => 3 | 5 => 5 | n => n, fun | n => n⟩
theorem Try.lays169 : Go.Proofs.Lays.n169 Try.prog Try.lays169_ren := {
  mixed := by kernel_rfl
  f169 := Try.func72.trans (congrArg some (by kernel_rfl))
  t0 := Try.underlying0
  a0 := Try.isAgg0
  z0 := Try.sizeOf0
  v0 := Try.zeroValue0
  t3 := Try.underlying3
  a3 := Try.isAgg3
  z3 := Try.sizeOf3
  v3 := Try.zeroValue3
  t9 := Try.underlying9
  a9 := Try.isAgg9
  z9 := Try.sizeOf9
  v9 := Try.zeroValue9
  t37 := Try.underlying105
  a37 := Try.isAgg105
  z37 := Try.sizeOf105
  v37 := Try.zeroValue105
  t70 := Try.underlying104
  a70 := Try.isAgg104
  z70 := Try.sizeOf104
  v70 := Try.zeroValue104
  t72 := Try.underlying107
  a72 := Try.isAgg107
  z72 := Try.sizeOf107
  v72 := Try.zeroValue107
  t127 := Try.underlying127
  a127 := Try.isAgg127
  z127 := Try.sizeOf127
  v127 := Try.zeroValue127 }
theorem Try.Builder_Extra_169 : Builder.Extra Try.prog Try.lays169_ren := {
  sizeBuilder := by kernel_rfl
  liesBuilder := by kernel_rfl
  t5 := Try.underlying5
  a5 := Try.isAgg5
  z5 := Try.sizeOf5
  v5 := Try.zeroValue5
  infoByte := by kernel_rfl
  cellsByte := by kernel_rfl
  sizeByte := by kernel_rfl
  neB5 := by decide }
open Go.RowKit in
/-- (*strings.Builder).String: "String returns the accumulated string.": OF A BUILDER THAT HOLDS AT LEAST ONE BYTE. ✋ THE MODEL FREEZES THOSE BYTES IN THE BUFFER (unsafe.String): a later write INTO them ends the model's run without an answer; a later append BEHIND them goes on. The statement's order of evaluation is drawn: one draw. (LAID: no walk: one application.) -/
theorem Try.Builder_String (B b : Nat) (l : List UInt8) (w : World) (h : Lib.IsBuilder 107 5 B b (Lib.byteCells l) w) (h0 : l ≠ []) :
    Calls Try.prog 72 #[.pointer (some ⟨b, 0, none⟩)] w fun e w' => e = .returned (.string ⟨l.toArray⟩) ∧ Below B w w' := Any.Builder_String Try.lays169 Try.Builder_Extra_169 B b l w h h0
open Go.RowKit in
/-- (*strings.Builder).String OF A BUILDER THAT HOLDS NO BYTE: the empty string. (Its buffer is nil, or a row of which it has taken nothing yet; where that row has NO capacity the model lays one new block for unsafe.SliceData's 'some address'.) One draw. (LAID: no walk: one application.) -/
theorem Try.Builder_String_empty (B b : Nat) (w : World) (h : Lib.IsBuilder 107 5 B b [] w) (hBw : B ≤ w.heap.size) :
    Calls Try.prog 72 #[.pointer (some ⟨b, 0, none⟩)] w fun e w' => e = .returned (.string ⟨#[]⟩) ∧ Below B w w' := Any.Builder_String_empty Try.lays169 Try.Builder_Extra_169 B b w h hBw
open Go.RowKit in
/-- (*strings.Builder).String: "String returns the accumulated string.": WHATEVER THE BUILDER HOLDS. (LAID: no walk: one application.) -/
theorem Try.Builder_String_any (B b : Nat) (l : List UInt8) (w : World) (h : Lib.IsBuilder 107 5 B b (Lib.byteCells l) w) (hBw : B ≤ w.heap.size) :
    Calls Try.prog 72 #[.pointer (some ⟨b, 0, none⟩)] w fun e w' => e = .returned (.string ⟨l.toArray⟩) ∧ Below B w w' := Any.Builder_String_any Try.lays169 Try.Builder_Extra_169 B b l w h hBw
def Try.lays128_ren : Go.Shelf.Ren := ⟨fun | 128 => 82 | n => n, fun | 51 => 122 | 3 => 3 | 4 => 4 | 46 => 98 | 5 => 5 | 9 => 9 | n => n, fun | n => n⟩
theorem Try.lays128 : Go.Proofs.Lays.n128 Try.prog Try.lays128_ren := {
  mixed := by kernel_rfl
  f128 := Try.func82.trans (congrArg some (by kernel_rfl))
  t3 := Try.underlying3
  a3 := Try.isAgg3
  z3 := Try.sizeOf3
  v3 := Try.zeroValue3
  t4 := Try.underlying4
  a4 := Try.isAgg4
  z4 := Try.sizeOf4
  v4 := Try.zeroValue4
  t5 := Try.underlying5
  a5 := Try.isAgg5
  z5 := Try.sizeOf5
  v5 := Try.zeroValue5
  t9 := Try.underlying9
  a9 := Try.isAgg9
  z9 := Try.sizeOf9
  v9 := Try.zeroValue9
  t46 := Try.underlying98
  a46 := Try.isAgg98
  z46 := Try.sizeOf98
  v46 := Try.zeroValue98
  t51 := Try.underlying122
  a51 := Try.isAgg122
  z51 := Try.sizeOf122
  v51 := Try.zeroValue122 }
/-- bits.Len32: "Len32 returns the minimum number of bits required to represent x; the result is 0 for x == 0.": IT RETURNS 'Lib.bitLen x'; the world is as it was. ('h0', 'h1': x is a uint32.) (LAID: no walk: one application.) -/
theorem Try.bits_Len32 (x : Int) (w : World) (h0 : 0 ≤ x) (h1 : x ≤ 4294967295) :
    Calls Try.prog 82 #[.int .u32 x] w fun e w' => e = .returned (.int .i64 (Lib.bitLen x.toNat)) ∧ w' = w := Any.bits_Len32 Try.lays128 x w h0 h1
def Try.lays125_ren : Go.Shelf.Ren := ⟨fun | 125 => 58 | 128 => 82 | 129 => 83 | n => n, fun | 46 => 98 | 3 => 3 | 51 => 122 | 53 => 124 | 4 => 4 | 5 => 5 | 9 => 9 | n => n, fun | n => n⟩
theorem Try.lays125 : Go.Proofs.Lays.n125 Try.prog Try.lays125_ren := {
  mixed := by kernel_rfl
  f125 := Try.func58.trans (congrArg some (by kernel_rfl))
  f128 := Try.func82.trans (congrArg some (by kernel_rfl))
  f129 := Try.func83.trans (congrArg some (by kernel_rfl))
  t3 := Try.underlying3
  a3 := Try.isAgg3
  z3 := Try.sizeOf3
  v3 := Try.zeroValue3
  t4 := Try.underlying4
  a4 := Try.isAgg4
  z4 := Try.sizeOf4
  v4 := Try.zeroValue4
  t5 := Try.underlying5
  a5 := Try.isAgg5
  z5 := Try.sizeOf5
  v5 := Try.zeroValue5
  t9 := Try.underlying9
  a9 := Try.isAgg9
  z9 := Try.sizeOf9
  v9 := Try.zeroValue9
  t46 := Try.underlying98
  a46 := Try.isAgg98
  z46 := Try.sizeOf98
  v46 := Try.zeroValue98
  t51 := Try.underlying122
  a51 := Try.isAgg122
  z51 := Try.sizeOf122
  v51 := Try.zeroValue122
  t53 := Try.underlying124
  a53 := Try.isAgg124
  z53 := Try.sizeOf124
  v53 := Try.zeroValue124 }
/-- bits.Len: "Len returns the minimum number of bits required to represent x; the result is 0 for x == 0.": IT RETURNS 'Lib.bitLen x'; the world is as it was. (A uint has 64 bits in the model.) ITS CALLEE bits.Len64 IS MET BY ITS OWN CONTRACT OFF THE SHELF (lay that first). (LAID: no walk: one application.) -/
theorem Try.bits_Len (x : Int) (w : World) (h0 : 0 ≤ x) (h1 : x ≤ 18446744073709551615) :
    Calls Try.prog 58 #[.int .u64 x] w fun e w' => e = .returned (.int .i64 (Lib.bitLen x.toNat)) ∧ w' = w := Any.bits_Len Try.lays125 x w h0 h1
def Try.lays137_ren : Go.Shelf.Ren := ⟨fun | 137 => 70 | 217 => 87 | 266 => 95 | n => n, fun | 9 => 9 | 5 => 5 | 3 => 3 | n => n, fun | n => n⟩
theorem Try.lays137 : Go.Proofs.Lays.n137 Try.prog Try.lays137_ren := {
  mixed := by kernel_rfl
  f137 := Try.func70.trans (congrArg some (by kernel_rfl))
  f217 := Try.func87.trans (congrArg some (by kernel_rfl))
  f266 := Try.func95.trans (congrArg some (by kernel_rfl))
  t3 := Try.underlying3
  a3 := Try.isAgg3
  z3 := Try.sizeOf3
  v3 := Try.zeroValue3
  t5 := Try.underlying5
  a5 := Try.isAgg5
  z5 := Try.sizeOf5
  v5 := Try.zeroValue5
  t9 := Try.underlying9
  a9 := Try.isAgg9
  z9 := Try.sizeOf9
  v9 := Try.zeroValue9 }
open Go.RowKit in
/-- strings.IndexByte: "IndexByte returns the index of the first instance of c in s, or -1 if c is not present in s.": IT RETURNS 'Lib.indexByte s c'; the world is as it was. (LAID: no walk: one application.) -/
theorem Try.strings_IndexByte (s : ByteArray) (c : Int) (w : World) :
    Calls Try.prog 70 #[.string s, .int .u8 c] w fun e w' => e = .returned (.int .i64 (Lib.indexByte s.data.toList c.toNat.toUInt8)) ∧ w' = w := Any.strings_IndexByte Try.lays137 s c w
open Go.RowKit in
/-- (*strings.Builder).String: "String returns the accumulated string.": OF A BUILDER THAT HOLDS AT LEAST ONE BYTE. ✋ THE MODEL FREEZES THOSE BYTES IN THE BUFFER (unsafe.String): a later write INTO them ends the model's run without an answer; a later append BEHIND them goes on. The statement's order of evaluation is drawn: one draw. THE FORM '_f': IT SAYS BESIDES THAT THE BUILDER IS A BUILDER STILL ('Lib.IsBuilderF', the same bytes): SO IT CAN BE WRITTEN ON: 'b.WriteString(b.String()[:k])'. (LAID: no walk: one application.) -/
theorem Try.Builder_String_f (B b : Nat) (l : List UInt8) (w : World) (h : Lib.IsBuilderF 107 5 B b (Lib.byteCells l) w) (h0 : l ≠ []) :
    Calls Try.prog 72 #[.pointer (some ⟨b, 0, none⟩)] w fun e w' => e = .returned (.string ⟨l.toArray⟩) ∧ (Lib.IsBuilderF 107 5 B b (Lib.byteCells l) w' ∧ Below B w w') := Any.Builder_String_f Try.lays169 Try.Builder_Extra_169 B b l w h h0
open Go.RowKit in
/-- (*strings.Builder).String OF A BUILDER THAT HOLDS NO BYTE: the empty string; THE FORM '_f': a builder still. (LAID: no walk: one application.) -/
theorem Try.Builder_String_empty_f (B b : Nat) (w : World) (h : Lib.IsBuilderF 107 5 B b [] w) (hBw : B ≤ w.heap.size) :
    Calls Try.prog 72 #[.pointer (some ⟨b, 0, none⟩)] w fun e w' => e = .returned (.string ⟨#[]⟩) ∧ (Lib.IsBuilderF 107 5 B b [] w' ∧ Below B w w') := Any.Builder_String_empty_f Try.lays169 Try.Builder_Extra_169 B b w h hBw
open Go.RowKit in
/-- (*strings.Builder).String: "String returns the accumulated string.": WHATEVER THE BUILDER HOLDS; THE FORM '_f': OF A BUILDER THAT MAY HAVE BEEN READ BEFORE; AND IT IS A BUILDER STILL, holding the same bytes: it can be written on. (LAID: no walk: one application.) -/
theorem Try.Builder_String_any_f (B b : Nat) (l : List UInt8) (w : World) (h : Lib.IsBuilderF 107 5 B b (Lib.byteCells l) w) (hBw : B ≤ w.heap.size) :
    Calls Try.prog 72 #[.pointer (some ⟨b, 0, none⟩)] w fun e w' => e = .returned (.string ⟨l.toArray⟩) ∧ (Lib.IsBuilderF 107 5 B b (Lib.byteCells l) w' ∧ Below B w w') := Any.Builder_String_any_f Try.lays169 Try.Builder_Extra_169 B b l w h hBw
open Go.RowKit in
/-- (*strings.Builder).String: "String returns the accumulated string.": OF A BUILDER THAT HOLDS AT LEAST ONE BYTE. ✋ THE MODEL FREEZES THOSE BYTES IN THE BUFFER (unsafe.String): a later write INTO them ends the model's run without an answer; a later append BEHIND them goes on. The statement's order of evaluation is drawn: one draw. THE FORM '_k': OVER 'Lib.IsBuilderF' (a builder that 'String()' may have read), AND WITH THE FRAME THAT REACHES ABOVE THE BUILDER: 'Lib.OthersKept': every block that is not b and is no row of uint8's stands as it stood: the iterator of a range among them. (LAID: no walk: one application.) -/
theorem Try.Builder_String_k (B b : Nat) (l : List UInt8) (w : World) (h : Lib.IsBuilderF 107 5 B b (Lib.byteCells l) w) (h0 : l ≠ []) :
    Calls Try.prog 72 #[.pointer (some ⟨b, 0, none⟩)] w fun e w' => e = .returned (.string ⟨l.toArray⟩) ∧ (Lib.IsBuilderF 107 5 B b (Lib.byteCells l) w' ∧ Below B w w' ∧ Lib.OthersKept 5 (some b) w w') := Any.Builder_String_k Try.lays169 Try.Builder_Extra_169 B b l w h h0
open Go.RowKit in
/-- (*strings.Builder).String OF A BUILDER THAT HOLDS NO BYTE: the empty string; THE FORM '_k': OVER 'Lib.IsBuilderF' (a builder that 'String()' may have read), AND WITH THE FRAME THAT REACHES ABOVE THE BUILDER: 'Lib.OthersKept': every block that is not b and is no row of uint8's stands as it stood: the iterator of a range among them. (LAID: no walk: one application.) -/
theorem Try.Builder_String_empty_k (B b : Nat) (w : World) (h : Lib.IsBuilderF 107 5 B b [] w) (hBw : B ≤ w.heap.size) :
    Calls Try.prog 72 #[.pointer (some ⟨b, 0, none⟩)] w fun e w' => e = .returned (.string ⟨#[]⟩) ∧ (Lib.IsBuilderF 107 5 B b [] w' ∧ Below B w w' ∧ Lib.OthersKept 5 (some b) w w') := Any.Builder_String_empty_k Try.lays169 Try.Builder_Extra_169 B b w h hBw
open Go.RowKit in
/-- (*strings.Builder).String: "String returns the accumulated string.": WHATEVER THE BUILDER HOLDS; THE FORM '_k': OVER 'Lib.IsBuilderF' (a builder that 'String()' may have read), AND WITH THE FRAME THAT REACHES ABOVE THE BUILDER: 'Lib.OthersKept': every block that is not b and is no row of uint8's stands as it stood: the iterator of a range among them. (LAID: no walk: one application.) -/
theorem Try.Builder_String_any_k (B b : Nat) (l : List UInt8) (w : World) (h : Lib.IsBuilderF 107 5 B b (Lib.byteCells l) w) (hBw : B ≤ w.heap.size) :
    Calls Try.prog 72 #[.pointer (some ⟨b, 0, none⟩)] w fun e w' => e = .returned (.string ⟨l.toArray⟩) ∧ (Lib.IsBuilderF 107 5 B b (Lib.byteCells l) w' ∧ Below B w w' ∧ Lib.OthersKept 5 (some b) w w') := Any.Builder_String_any_k Try.lays169 Try.Builder_Extra_169 B b l w h hBw
def Try.lays129_ren : Go.Shelf.Ren := ⟨fun | 129 => 83 | n => n, fun | 53 => 124 | 3 => 3 | 4 => 4 | 46 => 98 | 5 => 5 | 9 => 9 | n => n, fun | n => n⟩
theorem Try.lays129 : Go.Proofs.Lays.n129 Try.prog Try.lays129_ren := {
  mixed := by kernel_rfl
  f129 := Try.func83.trans (congrArg some (by kernel_rfl))
  t3 := Try.underlying3
  a3 := Try.isAgg3
  z3 := Try.sizeOf3
  v3 := Try.zeroValue3
  t4 := Try.underlying4
  a4 := Try.isAgg4
  z4 := Try.sizeOf4
  v4 := Try.zeroValue4
  t5 := Try.underlying5
  a5 := Try.isAgg5
  z5 := Try.sizeOf5
  v5 := Try.zeroValue5
  t9 := Try.underlying9
  a9 := Try.isAgg9
  z9 := Try.sizeOf9
  v9 := Try.zeroValue9
  t46 := Try.underlying98
  a46 := Try.isAgg98
  z46 := Try.sizeOf98
  v46 := Try.zeroValue98
  t53 := Try.underlying124
  a53 := Try.isAgg124
  z53 := Try.sizeOf124
  v53 := Try.zeroValue124 }
/-- bits.Len64: "Len64 returns the minimum number of bits required to represent x; the result is 0 for x == 0.": IT RETURNS 'Lib.bitLen x'; the world is as it was. ('h0', 'h1': x is a uint64.) (LAID: no walk: one application.) -/
theorem Try.bits_Len64 (x : Int) (w : World) (h0 : 0 ≤ x) (h1 : x ≤ 18446744073709551615) :
    Calls Try.prog 83 #[.int .u64 x] w fun e w' => e = .returned (.int .i64 (Lib.bitLen x.toNat)) ∧ w' = w := Any.bits_Len64 Try.lays129 x w h0 h1
def Try.lays217_ren : Go.Shelf.Ren := ⟨fun | 217 => 87 | 266 => 95 | n => n, fun | 9 => 9 | 5 => 5 | 3 => 3 | n => n, fun | n => n⟩
theorem Try.lays217 : Go.Proofs.Lays.n217 Try.prog Try.lays217_ren := {
  mixed := by kernel_rfl
  f217 := Try.func87.trans (congrArg some (by kernel_rfl))
  f266 := Try.func95.trans (congrArg some (by kernel_rfl))
  t3 := Try.underlying3
  a3 := Try.isAgg3
  z3 := Try.sizeOf3
  v3 := Try.zeroValue3
  t5 := Try.underlying5
  a5 := Try.isAgg5
  z5 := Try.sizeOf5
  v5 := Try.zeroValue5
  t9 := Try.underlying9
  a9 := Try.isAgg9
  z9 := Try.sizeOf9
  v9 := Try.zeroValue9 }
open Go.RowKit Go.Lib in
/-- internal/stringslite.IndexByte (what strings.IndexByte calls): IT RETURNS 'Lib.indexByte s c'; the world is as it was. (LAID: no walk: one application.) -/
theorem Try.stringslite_IndexByte (s : ByteArray) (c : Int) (w : World) :
    Calls Try.prog 87 #[.string s, .int .u8 c] w fun e w' => e = .returned (.int .i64 (Lib.indexByte s.data.toList c.toNat.toUInt8)) ∧ w' = w := Any.stringslite_IndexByte Try.lays217 s c w
def Try.laysSlM6_f31_ren : Go.Shelf.Ren := ⟨fun | 6 => 31 | 8 => 58 | 9 => 57 | 19 => 82 | 20 => 83 | 21 => 73 | 22 => 74 | 23 => 75 | 24 => 76 | 25 => 77 | 26 => 78 | 27 => 79 | 28 => 80 | 29 => 81 | 36 => 89 | 31 => 90 | 32 => 91 | 37 => 92 | 38 => 93 | 39 => 94 | 41 => 97 | n => n, fun | 27 => 32 | 29 => 9 | 3 => 3 | 32 => 98 | 26 => 32 | 0 => 0 | 44 => 122 | 46 => 124 | 4 => 4 | 36 => 115 | 35 => 114 | 41 => 53 | 5 => 5 | 9 => 9 | 53 => 128 | 57 => 132 | 63 => 136 | 64 => 137 | n => n, fun | n => n⟩
theorem Try.laysSlM6_f31 : Go.Proofs.SlLaysM.n6 Try.prog Try.laysSlM6_f31_ren := {
  mixed := by kernel_rfl
  f6 := ⟨Try.f31.name, by decide, Try.func31.trans (congrArg some (by kernel_rfl))⟩
  f8 := Try.func58.trans (congrArg some (by kernel_rfl))
  f9 := ⟨Try.f57.name, by decide, Try.func57.trans (congrArg some (by kernel_rfl))⟩
  f19 := Try.func82.trans (congrArg some (by kernel_rfl))
  f20 := Try.func83.trans (congrArg some (by kernel_rfl))
  f21 := ⟨Try.f73.name, by decide, Try.func73.trans (congrArg some (by kernel_rfl))⟩
  f22 := ⟨Try.f74.name, by decide, Try.func74.trans (congrArg some (by kernel_rfl))⟩
  f23 := ⟨Try.f75.name, by decide, Try.func75.trans (congrArg some (by kernel_rfl))⟩
  f24 := ⟨Try.f76.name, by decide, Try.func76.trans (congrArg some (by kernel_rfl))⟩
  f25 := ⟨Try.f77.name, by decide, Try.func77.trans (congrArg some (by kernel_rfl))⟩
  f26 := ⟨Try.f78.name, by decide, Try.func78.trans (congrArg some (by kernel_rfl))⟩
  f27 := ⟨Try.f79.name, by decide, Try.func79.trans (congrArg some (by kernel_rfl))⟩
  f28 := ⟨Try.f80.name, by decide, Try.func80.trans (congrArg some (by kernel_rfl))⟩
  f29 := ⟨Try.f81.name, by decide, Try.func81.trans (congrArg some (by kernel_rfl))⟩
  f31 := Try.func90.trans (congrArg some (by kernel_rfl))
  f32 := Try.func91.trans (congrArg some (by kernel_rfl))
  f36 := ⟨Try.f89.name, by decide, Try.func89.trans (congrArg some (by kernel_rfl))⟩
  f37 := ⟨Try.f92.name, by decide, Try.func92.trans (congrArg some (by kernel_rfl))⟩
  f38 := ⟨Try.f93.name, by decide, Try.func93.trans (congrArg some (by kernel_rfl))⟩
  f39 := ⟨Try.f94.name, by decide, Try.func94.trans (congrArg some (by kernel_rfl))⟩
  f41 := ⟨Try.f97.name, by decide, Try.func97.trans (congrArg some (by kernel_rfl))⟩
  t0 := Try.underlying0
  a0 := Try.isAgg0
  z0 := Try.sizeOf0
  v0 := Try.zeroValue0
  t3 := Try.underlying3
  a3 := Try.isAgg3
  z3 := Try.sizeOf3
  v3 := Try.zeroValue3
  t4 := Try.underlying4
  a4 := Try.isAgg4
  z4 := Try.sizeOf4
  v4 := Try.zeroValue4
  t5 := Try.underlying5
  a5 := Try.isAgg5
  z5 := Try.sizeOf5
  v5 := Try.zeroValue5
  t9 := Try.underlying9
  a9 := Try.isAgg9
  z9 := Try.sizeOf9
  v9 := Try.zeroValue9
  t26 := Try.underlying32
  a26 := Try.isAgg32
  z26 := Try.sizeOf32
  v26 := Try.zeroValue32
  t27 := Try.underlying32
  a27 := Try.isAgg32
  z27 := Try.sizeOf32
  v27 := Try.zeroValue32
  t29 := Try.underlying9
  a29 := Try.isAgg9
  z29 := Try.sizeOf9
  v29 := Try.zeroValue9
  t32 := Try.underlying98
  a32 := Try.isAgg98
  z32 := Try.sizeOf98
  v32 := Try.zeroValue98
  t35 := Try.underlying114
  a35 := Try.isAgg114
  z35 := Try.sizeOf114
  v35 := Try.zeroValue114
  t36 := Try.underlying115
  a36 := Try.isAgg115
  z36 := Try.sizeOf115
  v36 := Try.zeroValue115
  t41 := Try.underlying53
  a41 := Try.isAgg53
  z41 := Try.sizeOf53
  v41 := Try.zeroValue53
  t44 := Try.underlying122
  a44 := Try.isAgg122
  z44 := Try.sizeOf122
  v44 := Try.zeroValue122
  t46 := Try.underlying124
  a46 := Try.isAgg124
  z46 := Try.sizeOf124
  v46 := Try.zeroValue124
  t53 := Try.underlying128
  a53 := Try.isAgg128
  z53 := Try.sizeOf128
  v53 := Try.zeroValue128
  t57 := Try.underlying132
  a57 := Try.isAgg132
  z57 := Try.sizeOf132
  v57 := Try.zeroValue132
  t63 := Try.underlying136
  a63 := Try.isAgg136
  z63 := Try.sizeOf136
  v63 := Try.zeroValue136
  t64 := Try.underlying137
  a64 := Try.isAgg137
  z64 := Try.sizeOf137
  v64 := Try.zeroValue137 }
open Go.Sort Go.RowKit in
theorem Try.slices_Sort_string (blk off cap : Nat) (ss : List (List UInt8)) (w : World) (hH : Holds encStr w blk off ss.toArray) (hblk : blk < w.heap.size) (hsz : ss.length < 4611686018427387904) :
    Calls Try.prog 31 #[.slice (some ⟨blk, off, none⟩) ss.length cap] w fun e w' =>
      e = .returned (.tuple #[]) ∧ ∃ n os, w' = grow (putRow encStr (Sort.ahead w n) blk off (ss.mergeSort fun x y => decide (x ≤ y)).toArray) os := AnyM.slices_Sort_string Try.laysSlM6_f31 blk off cap ss w hH hblk hsz
open Go.RowKit Go.Sort in
/-- .. and plain. (LAID AT THE INSTANCE 'slices.Sort[[]string,string]': no walk: one application.) -/
theorem Try.slices_Sort_string_none (p : Option Addr) (cap : Nat) (w : World) :
    Calls Try.prog 31 #[.slice p 0 cap] w fun e w' => e = .returned (.tuple #[]) ∧ w' = w := AnyM.slices_Sort_string_none Try.laysSlM6_f31 p cap w
def Try.keys35_ren : Go.Shelf.Ren := ⟨fun | 7 => 35 | 10 => 60 | n => n, fun | 23 => 75 | 26 => 9 | 3 => 4 | 28 => 80 | 0 => 0 | 27 => 79 | 33 => 99 | 4 => 4 | n => n, fun | n => n⟩
theorem Try.keys35 : Go.Proofs.SlLaysZ.n7 Try.prog Try.keys35_ren := {
  mixed := by kernel_rfl
  f7 := ⟨Try.f35.name, by decide, Try.func35.trans (congrArg some (by kernel_rfl))⟩
  f10 := ⟨Try.f60.name, by decide, Try.func60.trans (congrArg some (by kernel_rfl))⟩
  t0 := Try.underlying0
  a0 := Try.isAgg0
  z0 := Try.sizeOf0
  v0 := Try.zeroValue0
  t4 := Try.underlying4
  a4 := Try.isAgg4
  z4 := Try.sizeOf4
  v4 := Try.zeroValue4
  t23 := Try.underlying75
  a23 := Try.isAgg75
  z23 := Try.sizeOf75
  v23 := Try.zeroValue75
  t26 := Try.underlying9
  a26 := Try.isAgg9
  z26 := Try.sizeOf9
  v26 := Try.zeroValue9
  t27 := Try.underlying79
  a27 := Try.isAgg79
  z27 := Try.sizeOf79
  v27 := Try.zeroValue79
  t28 := Try.underlying80
  a28 := Try.isAgg80
  z28 := Try.sizeOf80
  v28 := Try.zeroValue80
  t33 := Try.underlying99
  a33 := Try.isAgg99
  z33 := Try.sizeOf99
  v33 := Try.zeroValue99 }
def Try.sorted34_ren : Go.Shelf.Ren := ⟨fun | 6 => 34 | 8 => 59 | 9 => 31 | 11 => 84 | 13 => 58 | 12 => 57 | 23 => 82 | 24 => 83 | 14 => 73 | 15 => 74 | 16 => 75 | 17 => 76 | 18 => 77 | 19 => 78 | 20 => 79 | 21 => 80 | 22 => 81 | 25 => 89 | 26 => 90 | 27 => 91 | 28 => 92 | 29 => 93 | 30 => 94 | 31 => 97 | n => n, fun | 26 => 9 | 28 => 80 | 24 => 32 | 0 => 0 | 3 => 3 | 37 => 98 | 48 => 122 | 50 => 124 | 4 => 4 | 40 => 115 | 39 => 114 | 45 => 53 | 5 => 5 | 9 => 9 | 51 => 128 | 55 => 132 | 57 => 136 | 58 => 137 | 33 => 99 | n => n, fun | n => n⟩
theorem Try.sorted34 : Go.Proofs.SlLaysZ.n6 Try.prog Try.sorted34_ren := {
  mixed := by kernel_rfl
  f6 := ⟨Try.f34.name, by decide, Try.func34.trans (congrArg some (by kernel_rfl))⟩
  f8 := ⟨Try.f59.name, by decide, Try.func59.trans (congrArg some (by kernel_rfl))⟩
  f11 := ⟨Try.f84.name, by decide, Try.func84.trans (congrArg some (by kernel_rfl))⟩
  t0 := Try.underlying0
  a0 := Try.isAgg0
  z0 := Try.sizeOf0
  v0 := Try.zeroValue0
  t24 := Try.underlying32
  a24 := Try.isAgg32
  z24 := Try.sizeOf32
  v24 := Try.zeroValue32
  t26 := Try.underlying9
  a26 := Try.isAgg9
  z26 := Try.sizeOf9
  v26 := Try.zeroValue9
  t28 := Try.underlying80
  a28 := Try.isAgg80
  z28 := Try.sizeOf80
  v28 := Try.zeroValue80
  i26 := by kernel_rfl }
def Try.sort31_ren : Go.Shelf.Ren := ⟨fun | 6 => 31 | 8 => 58 | 9 => 57 | 19 => 82 | 20 => 83 | 21 => 73 | 22 => 74 | 23 => 75 | 24 => 76 | 25 => 77 | 26 => 78 | 27 => 79 | 28 => 80 | 29 => 81 | 36 => 89 | 31 => 90 | 32 => 91 | 37 => 92 | 38 => 93 | 39 => 94 | 41 => 97 | n => n, fun | 27 => 32 | 29 => 9 | 3 => 3 | 32 => 98 | 26 => 32 | 0 => 0 | 44 => 122 | 46 => 124 | 4 => 4 | 36 => 115 | 35 => 114 | 41 => 53 | 5 => 5 | 9 => 9 | 53 => 128 | 57 => 132 | 63 => 136 | 64 => 137 | n => n, fun | n => n⟩
theorem Try.sort31 : Go.Proofs.SlLaysM.n6 Try.prog Try.sort31_ren := {
  mixed := by kernel_rfl
  f6 := ⟨Try.f31.name, by decide, Try.func31.trans (congrArg some (by kernel_rfl))⟩
  f8 := Try.func58.trans (congrArg some (by kernel_rfl))
  f9 := ⟨Try.f57.name, by decide, Try.func57.trans (congrArg some (by kernel_rfl))⟩
  f19 := Try.func82.trans (congrArg some (by kernel_rfl))
  f20 := Try.func83.trans (congrArg some (by kernel_rfl))
  f21 := ⟨Try.f73.name, by decide, Try.func73.trans (congrArg some (by kernel_rfl))⟩
  f22 := ⟨Try.f74.name, by decide, Try.func74.trans (congrArg some (by kernel_rfl))⟩
  f23 := ⟨Try.f75.name, by decide, Try.func75.trans (congrArg some (by kernel_rfl))⟩
  f24 := ⟨Try.f76.name, by decide, Try.func76.trans (congrArg some (by kernel_rfl))⟩
  f25 := ⟨Try.f77.name, by decide, Try.func77.trans (congrArg some (by kernel_rfl))⟩
  f26 := ⟨Try.f78.name, by decide, Try.func78.trans (congrArg some (by kernel_rfl))⟩
  f27 := ⟨Try.f79.name, by decide, Try.func79.trans (congrArg some (by kernel_rfl))⟩
  f28 := ⟨Try.f80.name, by decide, Try.func80.trans (congrArg some (by kernel_rfl))⟩
  f29 := ⟨Try.f81.name, by decide, Try.func81.trans (congrArg some (by kernel_rfl))⟩
  f31 := Try.func90.trans (congrArg some (by kernel_rfl))
  f32 := Try.func91.trans (congrArg some (by kernel_rfl))
  f36 := ⟨Try.f89.name, by decide, Try.func89.trans (congrArg some (by kernel_rfl))⟩
  f37 := ⟨Try.f92.name, by decide, Try.func92.trans (congrArg some (by kernel_rfl))⟩
  f38 := ⟨Try.f93.name, by decide, Try.func93.trans (congrArg some (by kernel_rfl))⟩
  f39 := ⟨Try.f94.name, by decide, Try.func94.trans (congrArg some (by kernel_rfl))⟩
  f41 := ⟨Try.f97.name, by decide, Try.func97.trans (congrArg some (by kernel_rfl))⟩
  t0 := Try.underlying0
  a0 := Try.isAgg0
  z0 := Try.sizeOf0
  v0 := Try.zeroValue0
  t3 := Try.underlying3
  a3 := Try.isAgg3
  z3 := Try.sizeOf3
  v3 := Try.zeroValue3
  t4 := Try.underlying4
  a4 := Try.isAgg4
  z4 := Try.sizeOf4
  v4 := Try.zeroValue4
  t5 := Try.underlying5
  a5 := Try.isAgg5
  z5 := Try.sizeOf5
  v5 := Try.zeroValue5
  t9 := Try.underlying9
  a9 := Try.isAgg9
  z9 := Try.sizeOf9
  v9 := Try.zeroValue9
  t26 := Try.underlying32
  a26 := Try.isAgg32
  z26 := Try.sizeOf32
  v26 := Try.zeroValue32
  t27 := Try.underlying32
  a27 := Try.isAgg32
  z27 := Try.sizeOf32
  v27 := Try.zeroValue32
  t29 := Try.underlying9
  a29 := Try.isAgg9
  z29 := Try.sizeOf9
  v29 := Try.zeroValue9
  t32 := Try.underlying98
  a32 := Try.isAgg98
  z32 := Try.sizeOf98
  v32 := Try.zeroValue98
  t35 := Try.underlying114
  a35 := Try.isAgg114
  z35 := Try.sizeOf114
  v35 := Try.zeroValue114
  t36 := Try.underlying115
  a36 := Try.isAgg115
  z36 := Try.sizeOf115
  v36 := Try.zeroValue115
  t41 := Try.underlying53
  a41 := Try.isAgg53
  z41 := Try.sizeOf53
  v41 := Try.zeroValue53
  t44 := Try.underlying122
  a44 := Try.isAgg122
  z44 := Try.sizeOf122
  v44 := Try.zeroValue122
  t46 := Try.underlying124
  a46 := Try.isAgg124
  z46 := Try.sizeOf124
  v46 := Try.zeroValue124
  t53 := Try.underlying128
  a53 := Try.isAgg128
  z53 := Try.sizeOf128
  v53 := Try.zeroValue128
  t57 := Try.underlying132
  a57 := Try.isAgg132
  z57 := Try.sizeOf132
  v57 := Try.zeroValue132
  t63 := Try.underlying136
  a63 := Try.isAgg136
  z63 := Try.sizeOf136
  v63 := Try.zeroValue136
  t64 := Try.underlying137
  a64 := Try.isAgg137
  z64 := Try.sizeOf137
  v64 := Try.zeroValue137 }
def Try.keys37_ren : Go.Shelf.Ren := ⟨fun | 7 => 37 | 10 => 63 | n => n, fun | 23 => 74 | 26 => 9 | 3 => 75 | 28 => 80 | 0 => 0 | 27 => 79 | 33 => 99 | 4 => 4 | n => n, fun | n => n⟩
theorem Try.keys37 : Go.Proofs.SlLaysZ.n7 Try.prog Try.keys37_ren := {
  mixed := by kernel_rfl
  f7 := ⟨Try.f37.name, by decide, Try.func37.trans (congrArg some (by kernel_rfl))⟩
  f10 := ⟨Try.f63.name, by decide, Try.func63.trans (congrArg some (by kernel_rfl))⟩
  t0 := Try.underlying0
  a0 := Try.isAgg0
  z0 := Try.sizeOf0
  v0 := Try.zeroValue0
  t4 := Try.underlying4
  a4 := Try.isAgg4
  z4 := Try.sizeOf4
  v4 := Try.zeroValue4
  t23 := Try.underlying74
  a23 := Try.isAgg74
  z23 := Try.sizeOf74
  v23 := Try.zeroValue74
  t26 := Try.underlying9
  a26 := Try.isAgg9
  z26 := Try.sizeOf9
  v26 := Try.zeroValue9
  t27 := Try.underlying79
  a27 := Try.isAgg79
  z27 := Try.sizeOf79
  v27 := Try.zeroValue79
  t28 := Try.underlying80
  a28 := Try.isAgg80
  z28 := Try.sizeOf80
  v28 := Try.zeroValue80
  t33 := Try.underlying99
  a33 := Try.isAgg99
  z33 := Try.sizeOf99
  v33 := Try.zeroValue99 }
def Try.keys38_ren : Go.Shelf.Ren := ⟨fun | 7 => 38 | 10 => 64 | n => n, fun | 23 => 68 | 26 => 9 | 3 => 31 | 28 => 80 | 0 => 0 | 27 => 79 | 33 => 99 | 4 => 4 | n => n, fun | n => n⟩
theorem Try.keys38 : Go.Proofs.SlLaysZ.n7 Try.prog Try.keys38_ren := {
  mixed := by kernel_rfl
  f7 := ⟨Try.f38.name, by decide, Try.func38.trans (congrArg some (by kernel_rfl))⟩
  f10 := ⟨Try.f64.name, by decide, Try.func64.trans (congrArg some (by kernel_rfl))⟩
  t0 := Try.underlying0
  a0 := Try.isAgg0
  z0 := Try.sizeOf0
  v0 := Try.zeroValue0
  t4 := Try.underlying4
  a4 := Try.isAgg4
  z4 := Try.sizeOf4
  v4 := Try.zeroValue4
  t23 := Try.underlying68
  a23 := Try.isAgg68
  z23 := Try.sizeOf68
  v23 := Try.zeroValue68
  t26 := Try.underlying9
  a26 := Try.isAgg9
  z26 := Try.sizeOf9
  v26 := Try.zeroValue9
  t27 := Try.underlying79
  a27 := Try.isAgg79
  z27 := Try.sizeOf79
  v27 := Try.zeroValue79
  t28 := Try.underlying80
  a28 := Try.isAgg80
  z28 := Try.sizeOf80
  v28 := Try.zeroValue80
  t33 := Try.underlying99
  a33 := Try.isAgg99
  z33 := Try.sizeOf99
  v33 := Try.zeroValue99 }
def Try.keys52_ren : Go.Shelf.Ren := ⟨fun | 7 => 52 | 10 => 67 | n => n, fun | 23 => 69 | 26 => 9 | 3 => 74 | 28 => 80 | 0 => 0 | 27 => 79 | 33 => 99 | 4 => 4 | n => n, fun | n => n⟩
theorem Try.keys52 : Go.Proofs.SlLaysZ.n7 Try.prog Try.keys52_ren := {
  mixed := by kernel_rfl
  f7 := ⟨Try.f52.name, by decide, Try.func52.trans (congrArg some (by kernel_rfl))⟩
  f10 := ⟨Try.f67.name, by decide, Try.func67.trans (congrArg some (by kernel_rfl))⟩
  t0 := Try.underlying0
  a0 := Try.isAgg0
  z0 := Try.sizeOf0
  v0 := Try.zeroValue0
  t4 := Try.underlying4
  a4 := Try.isAgg4
  z4 := Try.sizeOf4
  v4 := Try.zeroValue4
  t23 := Try.underlying69
  a23 := Try.isAgg69
  z23 := Try.sizeOf69
  v23 := Try.zeroValue69
  t26 := Try.underlying9
  a26 := Try.isAgg9
  z26 := Try.sizeOf9
  v26 := Try.zeroValue9
  t27 := Try.underlying79
  a27 := Try.isAgg79
  z27 := Try.sizeOf79
  v27 := Try.zeroValue79
  t28 := Try.underlying80
  a28 := Try.isAgg80
  z28 := Try.sizeOf80
  v28 := Try.zeroValue80
  t33 := Try.underlying99
  a33 := Try.isAgg99
  z33 := Try.sizeOf99
  v33 := Try.zeroValue99 }
def Try.keys53_ren : Go.Shelf.Ren := ⟨fun | 7 => 53 | 10 => 68 | n => n, fun | 23 => 70 | 26 => 9 | 3 => 3 | 28 => 80 | 0 => 0 | 27 => 79 | 33 => 99 | 4 => 4 | n => n, fun | n => n⟩
theorem Try.keys53 : Go.Proofs.SlLaysZ.n7 Try.prog Try.keys53_ren := {
  mixed := by kernel_rfl
  f7 := ⟨Try.f53.name, by decide, Try.func53.trans (congrArg some (by kernel_rfl))⟩
  f10 := ⟨Try.f68.name, by decide, Try.func68.trans (congrArg some (by kernel_rfl))⟩
  t0 := Try.underlying0
  a0 := Try.isAgg0
  z0 := Try.sizeOf0
  v0 := Try.zeroValue0
  t4 := Try.underlying4
  a4 := Try.isAgg4
  z4 := Try.sizeOf4
  v4 := Try.zeroValue4
  t23 := Try.underlying70
  a23 := Try.isAgg70
  z23 := Try.sizeOf70
  v23 := Try.zeroValue70
  t26 := Try.underlying9
  a26 := Try.isAgg9
  z26 := Try.sizeOf9
  v26 := Try.zeroValue9
  t27 := Try.underlying79
  a27 := Try.isAgg79
  z27 := Try.sizeOf79
  v27 := Try.zeroValue79
  t28 := Try.underlying80
  a28 := Try.isAgg80
  z28 := Try.sizeOf80
  v28 := Try.zeroValue80
  t33 := Try.underlying99
  a33 := Try.isAgg99
  z33 := Try.sizeOf99
  v33 := Try.zeroValue99 }
open Go.RowKit Go.Maps Go.Sort Go.Shelf
/-- slices.Sort's two contracts at this dump, at the fence that asks nothing. -/
theorem Try.sorts34 (m : Nat) : AnyZ.SortsIn Try.prog Try.sorted34_ren Fence.wide m :=
  ⟨fun blk off cap ss W hH hblk hsz => callsIn_wide.2 (AnyM.slices_Sort_string Try.sort31 blk off cap ss W hH hblk hsz),
   fun p cap W => callsIn_wide.2 (AnyM.slices_Sort_string_none Try.sort31 p cap W)⟩
/-- **maps.Keys[map[string]bool,string,bool], at whatever map, the nil one too:** a function value over ONE NEW BLOCK, which holds the map. -/
theorem Try.maps_Keys_35 (mb : Option Nat) (W : World) : CallsIn Fence.wide 5 Try.prog 35 #[.map mb] W fun e w' => e = .returned (.func (.func 60) #[] #[.pointer (some ⟨W.heap.size, 0, none⟩)]) ∧ w' = W.alloc (.cells #[.map mb] 75) :=
  AnyZ.keys_in Try.keys35 Fence.wide 5 trivial rfl mb W
set_option maxHeartbeats 1000000 in
/-- **slices.Sorted[string] AT WHAT maps.Keys[map[string]bool,string,bool] HANDED BACK FOR A MAP THAT IS NOT nil** ('w': the world AHEAD of maps.Keys' call): A NEW SLICE THAT HOLDS THE MAP's KEYS, SORTED; nil just where it has none; nothing that lay before has turned. -/
theorem Try.slices_Sorted_keys_34_35 {H : Type} (b nn : Nat) (D0 : DataW H) (R : Value → Option (DataW H × List MemPlace)) (w : World) (hown : w.ownsMap Try.prog 9 R b nn D0) (hmax : Maps.size D0 ≤ maxLen) (hbytes : Maps.size D0 * 16 ≤ 140737488355328) :
    CallsIn Fence.wide 5 Try.prog 34 #[.func (.func 60) #[] #[.pointer (some ⟨w.heap.size, 0, none⟩)]] (w.alloc (.cells #[.map (some b)] 75)) fun e w' => ∃ (v : Value) (ss : List (List UInt8)), e = .returned v ∧ ss.Perm (strKeys D0) ∧
      w'.ownsRow (w.alloc (.cells #[.map (some b)] 75)).heap.size 9 1 v ss.length ((ss.mergeSort (fun x y => decide (x ≤ y))).map encStr) ∧ (v = .slice none 0 0 ↔ ss = []) ∧ Below (w.alloc (.cells #[.map (some b)] 75)).heap.size (w.alloc (.cells #[.map (some b)] 75)) w' := by
  have hbl := hown.lt
  have hseq : SeqGives Fence.wide 2 Try.prog 60 #[.pointer (some ⟨w.heap.size, 0, none⟩)] encStr (fun ss => ss.Perm (strKeys D0)) (Maps.size D0) (w.alloc (.cells #[.map (some b)] 75)) :=
    AnyZ.keys_gives (ρ := Try.keys35_ren) { Try.keys35 with } Fence.wide _ trivial rfl (by omega) w.heap.size b nn D0 _ (by simp) (by simp) (by
      obtain ⟨es, clock, hb, Ft, hs, hD⟩ := hown
      exact ⟨es, clock, (Below.heap_alloc _ _ b hbl).trans hb, Ft, hs, hD⟩)
  exact AnyZ.sorted_in Try.sorted34 Fence.wide 5 trivial trivial trivial trivial rfl (by omega) (Try.sorts34 _) (enters_of Try.func31 (by kernel_rfl) rfl) 60 #[.pointer (some ⟨w.heap.size, 0, none⟩)] trivial (enters_of Try.func60 (by kernel_rfl) rfl) _ _ hmax hbytes _ hseq
set_option maxHeartbeats 1000000 in
/-- **.. AND FOR THE nil MAP: nil.** -/
theorem Try.slices_Sorted_keys_nil_34_35 (w : World) :
    CallsIn Fence.wide 5 Try.prog 34 #[.func (.func 60) #[] #[.pointer (some ⟨w.heap.size, 0, none⟩)]] (w.alloc (.cells #[.map none] 75)) fun e w' => ∃ (v : Value) (ss : List (List UInt8)), e = .returned v ∧ ss = [] ∧
      w'.ownsRow (w.alloc (.cells #[.map none] 75)).heap.size 9 1 v ss.length ((ss.mergeSort (fun x y => decide (x ≤ y))).map encStr) ∧ (v = .slice none 0 0 ↔ ss = []) ∧ Below (w.alloc (.cells #[.map none] 75)).heap.size (w.alloc (.cells #[.map none] 75)) w' := by
  have hseq : SeqGives Fence.wide 2 Try.prog 60 #[.pointer (some ⟨w.heap.size, 0, none⟩)] encStr (fun ss : List (List UInt8) => ss = []) 0 (w.alloc (.cells #[.map none] 75)) :=
    AnyZ.keys_gives_nil (ρ := Try.keys35_ren) { Try.keys35 with } Fence.wide _ trivial rfl w.heap.size _ (by simp) (by simp)
  exact AnyZ.sorted_in Try.sorted34 Fence.wide 5 trivial trivial trivial trivial rfl (by omega) (Try.sorts34 _) (enters_of Try.func31 (by kernel_rfl) rfl) 60 #[.pointer (some ⟨w.heap.size, 0, none⟩)] trivial (enters_of Try.func60 (by kernel_rfl) rfl) _ 0 (Nat.zero_le _) (by omega) _ hseq
/-- **maps.Keys[map[string]map[string]bool,string,map[string]bool], at whatever map, the nil one too:** a function value over ONE NEW BLOCK, which holds the map. -/
theorem Try.maps_Keys_37 (mb : Option Nat) (W : World) : CallsIn Fence.wide 5 Try.prog 37 #[.map mb] W fun e w' => e = .returned (.func (.func 63) #[] #[.pointer (some ⟨W.heap.size, 0, none⟩)]) ∧ w' = W.alloc (.cells #[.map mb] 74) :=
  AnyZ.keys_in Try.keys37 Fence.wide 5 trivial rfl mb W
set_option maxHeartbeats 1000000 in
/-- **slices.Sorted[string] AT WHAT maps.Keys[map[string]map[string]bool,string,map[string]bool] HANDED BACK FOR A MAP THAT IS NOT nil** ('w': the world AHEAD of maps.Keys' call): A NEW SLICE THAT HOLDS THE MAP's KEYS, SORTED; nil just where it has none; nothing that lay before has turned. -/
theorem Try.slices_Sorted_keys_34_37 {H : Type} (b nn : Nat) (D0 : DataW H) (R : Value → Option (DataW H × List MemPlace)) (w : World) (hown : w.ownsMap Try.prog 9 R b nn D0) (hmax : Maps.size D0 ≤ maxLen) (hbytes : Maps.size D0 * 16 ≤ 140737488355328) :
    CallsIn Fence.wide 5 Try.prog 34 #[.func (.func 63) #[] #[.pointer (some ⟨w.heap.size, 0, none⟩)]] (w.alloc (.cells #[.map (some b)] 74)) fun e w' => ∃ (v : Value) (ss : List (List UInt8)), e = .returned v ∧ ss.Perm (strKeys D0) ∧
      w'.ownsRow (w.alloc (.cells #[.map (some b)] 74)).heap.size 9 1 v ss.length ((ss.mergeSort (fun x y => decide (x ≤ y))).map encStr) ∧ (v = .slice none 0 0 ↔ ss = []) ∧ Below (w.alloc (.cells #[.map (some b)] 74)).heap.size (w.alloc (.cells #[.map (some b)] 74)) w' := by
  have hbl := hown.lt
  have hseq : SeqGives Fence.wide 2 Try.prog 63 #[.pointer (some ⟨w.heap.size, 0, none⟩)] encStr (fun ss => ss.Perm (strKeys D0)) (Maps.size D0) (w.alloc (.cells #[.map (some b)] 74)) :=
    AnyZ.keys_gives (ρ := Try.keys37_ren) { Try.keys37 with } Fence.wide _ trivial rfl (by omega) w.heap.size b nn D0 _ (by simp) (by simp) (by
      obtain ⟨es, clock, hb, Ft, hs, hD⟩ := hown
      exact ⟨es, clock, (Below.heap_alloc _ _ b hbl).trans hb, Ft, hs, hD⟩)
  exact AnyZ.sorted_in Try.sorted34 Fence.wide 5 trivial trivial trivial trivial rfl (by omega) (Try.sorts34 _) (enters_of Try.func31 (by kernel_rfl) rfl) 63 #[.pointer (some ⟨w.heap.size, 0, none⟩)] trivial (enters_of Try.func63 (by kernel_rfl) rfl) _ _ hmax hbytes _ hseq
set_option maxHeartbeats 1000000 in
/-- **.. AND FOR THE nil MAP: nil.** -/
theorem Try.slices_Sorted_keys_nil_34_37 (w : World) :
    CallsIn Fence.wide 5 Try.prog 34 #[.func (.func 63) #[] #[.pointer (some ⟨w.heap.size, 0, none⟩)]] (w.alloc (.cells #[.map none] 74)) fun e w' => ∃ (v : Value) (ss : List (List UInt8)), e = .returned v ∧ ss = [] ∧
      w'.ownsRow (w.alloc (.cells #[.map none] 74)).heap.size 9 1 v ss.length ((ss.mergeSort (fun x y => decide (x ≤ y))).map encStr) ∧ (v = .slice none 0 0 ↔ ss = []) ∧ Below (w.alloc (.cells #[.map none] 74)).heap.size (w.alloc (.cells #[.map none] 74)) w' := by
  have hseq : SeqGives Fence.wide 2 Try.prog 63 #[.pointer (some ⟨w.heap.size, 0, none⟩)] encStr (fun ss : List (List UInt8) => ss = []) 0 (w.alloc (.cells #[.map none] 74)) :=
    AnyZ.keys_gives_nil (ρ := Try.keys37_ren) { Try.keys37 with } Fence.wide _ trivial rfl w.heap.size _ (by simp) (by simp)
  exact AnyZ.sorted_in Try.sorted34 Fence.wide 5 trivial trivial trivial trivial rfl (by omega) (Try.sorts34 _) (enters_of Try.func31 (by kernel_rfl) rfl) 63 #[.pointer (some ⟨w.heap.size, 0, none⟩)] trivial (enters_of Try.func63 (by kernel_rfl) rfl) _ 0 (Nat.zero_le _) (by omega) _ hseq
/-- **maps.Keys[map[string]grist/api.Series,string,grist/api.Series], at whatever map, the nil one too:** a function value over ONE NEW BLOCK, which holds the map. -/
theorem Try.maps_Keys_38 (mb : Option Nat) (W : World) : CallsIn Fence.wide 5 Try.prog 38 #[.map mb] W fun e w' => e = .returned (.func (.func 64) #[] #[.pointer (some ⟨W.heap.size, 0, none⟩)]) ∧ w' = W.alloc (.cells #[.map mb] 68) :=
  AnyZ.keys_in Try.keys38 Fence.wide 5 trivial rfl mb W
set_option maxHeartbeats 1000000 in
/-- **slices.Sorted[string] AT WHAT maps.Keys[map[string]grist/api.Series,string,grist/api.Series] HANDED BACK FOR A MAP THAT IS NOT nil** ('w': the world AHEAD of maps.Keys' call): A NEW SLICE THAT HOLDS THE MAP's KEYS, SORTED; nil just where it has none; nothing that lay before has turned. -/
theorem Try.slices_Sorted_keys_34_38 {H : Type} (b nn : Nat) (D0 : DataW H) (R : Value → Option (DataW H × List MemPlace)) (w : World) (hown : w.ownsMap Try.prog 9 R b nn D0) (hmax : Maps.size D0 ≤ maxLen) (hbytes : Maps.size D0 * 16 ≤ 140737488355328) :
    CallsIn Fence.wide 5 Try.prog 34 #[.func (.func 64) #[] #[.pointer (some ⟨w.heap.size, 0, none⟩)]] (w.alloc (.cells #[.map (some b)] 68)) fun e w' => ∃ (v : Value) (ss : List (List UInt8)), e = .returned v ∧ ss.Perm (strKeys D0) ∧
      w'.ownsRow (w.alloc (.cells #[.map (some b)] 68)).heap.size 9 1 v ss.length ((ss.mergeSort (fun x y => decide (x ≤ y))).map encStr) ∧ (v = .slice none 0 0 ↔ ss = []) ∧ Below (w.alloc (.cells #[.map (some b)] 68)).heap.size (w.alloc (.cells #[.map (some b)] 68)) w' := by
  have hbl := hown.lt
  have hseq : SeqGives Fence.wide 2 Try.prog 64 #[.pointer (some ⟨w.heap.size, 0, none⟩)] encStr (fun ss => ss.Perm (strKeys D0)) (Maps.size D0) (w.alloc (.cells #[.map (some b)] 68)) :=
    AnyZ.keys_gives (ρ := Try.keys38_ren) { Try.keys38 with } Fence.wide _ trivial rfl (by omega) w.heap.size b nn D0 _ (by simp) (by simp) (by
      obtain ⟨es, clock, hb, Ft, hs, hD⟩ := hown
      exact ⟨es, clock, (Below.heap_alloc _ _ b hbl).trans hb, Ft, hs, hD⟩)
  exact AnyZ.sorted_in Try.sorted34 Fence.wide 5 trivial trivial trivial trivial rfl (by omega) (Try.sorts34 _) (enters_of Try.func31 (by kernel_rfl) rfl) 64 #[.pointer (some ⟨w.heap.size, 0, none⟩)] trivial (enters_of Try.func64 (by kernel_rfl) rfl) _ _ hmax hbytes _ hseq
set_option maxHeartbeats 1000000 in
/-- **.. AND FOR THE nil MAP: nil.** -/
theorem Try.slices_Sorted_keys_nil_34_38 (w : World) :
    CallsIn Fence.wide 5 Try.prog 34 #[.func (.func 64) #[] #[.pointer (some ⟨w.heap.size, 0, none⟩)]] (w.alloc (.cells #[.map none] 68)) fun e w' => ∃ (v : Value) (ss : List (List UInt8)), e = .returned v ∧ ss = [] ∧
      w'.ownsRow (w.alloc (.cells #[.map none] 68)).heap.size 9 1 v ss.length ((ss.mergeSort (fun x y => decide (x ≤ y))).map encStr) ∧ (v = .slice none 0 0 ↔ ss = []) ∧ Below (w.alloc (.cells #[.map none] 68)).heap.size (w.alloc (.cells #[.map none] 68)) w' := by
  have hseq : SeqGives Fence.wide 2 Try.prog 64 #[.pointer (some ⟨w.heap.size, 0, none⟩)] encStr (fun ss : List (List UInt8) => ss = []) 0 (w.alloc (.cells #[.map none] 68)) :=
    AnyZ.keys_gives_nil (ρ := Try.keys38_ren) { Try.keys38 with } Fence.wide _ trivial rfl w.heap.size _ (by simp) (by simp)
  exact AnyZ.sorted_in Try.sorted34 Fence.wide 5 trivial trivial trivial trivial rfl (by omega) (Try.sorts34 _) (enters_of Try.func31 (by kernel_rfl) rfl) 64 #[.pointer (some ⟨w.heap.size, 0, none⟩)] trivial (enters_of Try.func64 (by kernel_rfl) rfl) _ 0 (Nat.zero_le _) (by omega) _ hseq
/-- **maps.Keys[map[string]map[string]map[string]bool,string,map[string]map[string]bool], at whatever map, the nil one too:** a function value over ONE NEW BLOCK, which holds the map. -/
theorem Try.maps_Keys_52 (mb : Option Nat) (W : World) : CallsIn Fence.wide 5 Try.prog 52 #[.map mb] W fun e w' => e = .returned (.func (.func 67) #[] #[.pointer (some ⟨W.heap.size, 0, none⟩)]) ∧ w' = W.alloc (.cells #[.map mb] 69) :=
  AnyZ.keys_in Try.keys52 Fence.wide 5 trivial rfl mb W
set_option maxHeartbeats 1000000 in
/-- **slices.Sorted[string] AT WHAT maps.Keys[map[string]map[string]map[string]bool,string,map[string]map[string]bool] HANDED BACK FOR A MAP THAT IS NOT nil** ('w': the world AHEAD of maps.Keys' call): A NEW SLICE THAT HOLDS THE MAP's KEYS, SORTED; nil just where it has none; nothing that lay before has turned. -/
theorem Try.slices_Sorted_keys_34_52 {H : Type} (b nn : Nat) (D0 : DataW H) (R : Value → Option (DataW H × List MemPlace)) (w : World) (hown : w.ownsMap Try.prog 9 R b nn D0) (hmax : Maps.size D0 ≤ maxLen) (hbytes : Maps.size D0 * 16 ≤ 140737488355328) :
    CallsIn Fence.wide 5 Try.prog 34 #[.func (.func 67) #[] #[.pointer (some ⟨w.heap.size, 0, none⟩)]] (w.alloc (.cells #[.map (some b)] 69)) fun e w' => ∃ (v : Value) (ss : List (List UInt8)), e = .returned v ∧ ss.Perm (strKeys D0) ∧
      w'.ownsRow (w.alloc (.cells #[.map (some b)] 69)).heap.size 9 1 v ss.length ((ss.mergeSort (fun x y => decide (x ≤ y))).map encStr) ∧ (v = .slice none 0 0 ↔ ss = []) ∧ Below (w.alloc (.cells #[.map (some b)] 69)).heap.size (w.alloc (.cells #[.map (some b)] 69)) w' := by
  have hbl := hown.lt
  have hseq : SeqGives Fence.wide 2 Try.prog 67 #[.pointer (some ⟨w.heap.size, 0, none⟩)] encStr (fun ss => ss.Perm (strKeys D0)) (Maps.size D0) (w.alloc (.cells #[.map (some b)] 69)) :=
    AnyZ.keys_gives (ρ := Try.keys52_ren) { Try.keys52 with } Fence.wide _ trivial rfl (by omega) w.heap.size b nn D0 _ (by simp) (by simp) (by
      obtain ⟨es, clock, hb, Ft, hs, hD⟩ := hown
      exact ⟨es, clock, (Below.heap_alloc _ _ b hbl).trans hb, Ft, hs, hD⟩)
  exact AnyZ.sorted_in Try.sorted34 Fence.wide 5 trivial trivial trivial trivial rfl (by omega) (Try.sorts34 _) (enters_of Try.func31 (by kernel_rfl) rfl) 67 #[.pointer (some ⟨w.heap.size, 0, none⟩)] trivial (enters_of Try.func67 (by kernel_rfl) rfl) _ _ hmax hbytes _ hseq
set_option maxHeartbeats 1000000 in
/-- **.. AND FOR THE nil MAP: nil.** -/
theorem Try.slices_Sorted_keys_nil_34_52 (w : World) :
    CallsIn Fence.wide 5 Try.prog 34 #[.func (.func 67) #[] #[.pointer (some ⟨w.heap.size, 0, none⟩)]] (w.alloc (.cells #[.map none] 69)) fun e w' => ∃ (v : Value) (ss : List (List UInt8)), e = .returned v ∧ ss = [] ∧
      w'.ownsRow (w.alloc (.cells #[.map none] 69)).heap.size 9 1 v ss.length ((ss.mergeSort (fun x y => decide (x ≤ y))).map encStr) ∧ (v = .slice none 0 0 ↔ ss = []) ∧ Below (w.alloc (.cells #[.map none] 69)).heap.size (w.alloc (.cells #[.map none] 69)) w' := by
  have hseq : SeqGives Fence.wide 2 Try.prog 67 #[.pointer (some ⟨w.heap.size, 0, none⟩)] encStr (fun ss : List (List UInt8) => ss = []) 0 (w.alloc (.cells #[.map none] 69)) :=
    AnyZ.keys_gives_nil (ρ := Try.keys52_ren) { Try.keys52 with } Fence.wide _ trivial rfl w.heap.size _ (by simp) (by simp)
  exact AnyZ.sorted_in Try.sorted34 Fence.wide 5 trivial trivial trivial trivial rfl (by omega) (Try.sorts34 _) (enters_of Try.func31 (by kernel_rfl) rfl) 67 #[.pointer (some ⟨w.heap.size, 0, none⟩)] trivial (enters_of Try.func67 (by kernel_rfl) rfl) _ 0 (Nat.zero_le _) (by omega) _ hseq
/-- **maps.Keys[map[string]int,string,int], at whatever map, the nil one too:** a function value over ONE NEW BLOCK, which holds the map. -/
theorem Try.maps_Keys_53 (mb : Option Nat) (W : World) : CallsIn Fence.wide 5 Try.prog 53 #[.map mb] W fun e w' => e = .returned (.func (.func 68) #[] #[.pointer (some ⟨W.heap.size, 0, none⟩)]) ∧ w' = W.alloc (.cells #[.map mb] 70) :=
  AnyZ.keys_in Try.keys53 Fence.wide 5 trivial rfl mb W
set_option maxHeartbeats 1000000 in
/-- **slices.Sorted[string] AT WHAT maps.Keys[map[string]int,string,int] HANDED BACK FOR A MAP THAT IS NOT nil** ('w': the world AHEAD of maps.Keys' call): A NEW SLICE THAT HOLDS THE MAP's KEYS, SORTED; nil just where it has none; nothing that lay before has turned. -/
theorem Try.slices_Sorted_keys_34_53 {H : Type} (b nn : Nat) (D0 : DataW H) (R : Value → Option (DataW H × List MemPlace)) (w : World) (hown : w.ownsMap Try.prog 9 R b nn D0) (hmax : Maps.size D0 ≤ maxLen) (hbytes : Maps.size D0 * 16 ≤ 140737488355328) :
    CallsIn Fence.wide 5 Try.prog 34 #[.func (.func 68) #[] #[.pointer (some ⟨w.heap.size, 0, none⟩)]] (w.alloc (.cells #[.map (some b)] 70)) fun e w' => ∃ (v : Value) (ss : List (List UInt8)), e = .returned v ∧ ss.Perm (strKeys D0) ∧
      w'.ownsRow (w.alloc (.cells #[.map (some b)] 70)).heap.size 9 1 v ss.length ((ss.mergeSort (fun x y => decide (x ≤ y))).map encStr) ∧ (v = .slice none 0 0 ↔ ss = []) ∧ Below (w.alloc (.cells #[.map (some b)] 70)).heap.size (w.alloc (.cells #[.map (some b)] 70)) w' := by
  have hbl := hown.lt
  have hseq : SeqGives Fence.wide 2 Try.prog 68 #[.pointer (some ⟨w.heap.size, 0, none⟩)] encStr (fun ss => ss.Perm (strKeys D0)) (Maps.size D0) (w.alloc (.cells #[.map (some b)] 70)) :=
    AnyZ.keys_gives (ρ := Try.keys53_ren) { Try.keys53 with } Fence.wide _ trivial rfl (by omega) w.heap.size b nn D0 _ (by simp) (by simp) (by
      obtain ⟨es, clock, hb, Ft, hs, hD⟩ := hown
      exact ⟨es, clock, (Below.heap_alloc _ _ b hbl).trans hb, Ft, hs, hD⟩)
  exact AnyZ.sorted_in Try.sorted34 Fence.wide 5 trivial trivial trivial trivial rfl (by omega) (Try.sorts34 _) (enters_of Try.func31 (by kernel_rfl) rfl) 68 #[.pointer (some ⟨w.heap.size, 0, none⟩)] trivial (enters_of Try.func68 (by kernel_rfl) rfl) _ _ hmax hbytes _ hseq
set_option maxHeartbeats 1000000 in
/-- **.. AND FOR THE nil MAP: nil.** -/
theorem Try.slices_Sorted_keys_nil_34_53 (w : World) :
    CallsIn Fence.wide 5 Try.prog 34 #[.func (.func 68) #[] #[.pointer (some ⟨w.heap.size, 0, none⟩)]] (w.alloc (.cells #[.map none] 70)) fun e w' => ∃ (v : Value) (ss : List (List UInt8)), e = .returned v ∧ ss = [] ∧
      w'.ownsRow (w.alloc (.cells #[.map none] 70)).heap.size 9 1 v ss.length ((ss.mergeSort (fun x y => decide (x ≤ y))).map encStr) ∧ (v = .slice none 0 0 ↔ ss = []) ∧ Below (w.alloc (.cells #[.map none] 70)).heap.size (w.alloc (.cells #[.map none] 70)) w' := by
  have hseq : SeqGives Fence.wide 2 Try.prog 68 #[.pointer (some ⟨w.heap.size, 0, none⟩)] encStr (fun ss : List (List UInt8) => ss = []) 0 (w.alloc (.cells #[.map none] 70)) :=
    AnyZ.keys_gives_nil (ρ := Try.keys53_ren) { Try.keys53 with } Fence.wide _ trivial rfl w.heap.size _ (by simp) (by simp)
  exact AnyZ.sorted_in Try.sorted34 Fence.wide 5 trivial trivial trivial trivial rfl (by omega) (Try.sorts34 _) (enters_of Try.func31 (by kernel_rfl) rfl) 68 #[.pointer (some ⟨w.heap.size, 0, none⟩)] trivial (enters_of Try.func68 (by kernel_rfl) rfl) _ 0 (Nat.zero_le _) (by omega) _ hseq
end Go.Proofs
