/- Several texts of this proof, laid together. Conditions: as each says. -/
import Derived.Shelf.Small.Bits
import Derived.Shelf.Bits.Mul64
import Derived.Shelf.Strconv.Itoa0
import Derived.Test.YtagiddbfhlokcaaGreatDoorProg
import Derived.Shelf.Strings.Builder1
import Derived.Shelf.Strings.Builder2
import Derived.Shelf.Strings.OnBuilder
import Derived.Shelf.Strings.Trim
import Derived.Shelf.Small.Utf8
import Derived.Shelf.Small.Strs
import Derived.Shelf.Small.Wraps
import Derived.Shelf.Strings.BuilderF
import Derived.Shelf.Strings.BuilderK
import Derived.Shelf.Utf8.RuneCount
import Derived.Shelf.Strings.Builder2Cap
import Derived.Shelf.Strconv.Atoi
import Derived.Shelf.Strconv.Itoa1
import Derived.Shelf.LaysM
import Derived.Shelf.Strconv.Itoa2
import Derived.Shelf.Strconv.Itoa3
import Derived.Shelf.Strconv.Itoa4
import Derived.Shelf.Strconv.AtoiErrFast
import Derived.Shelf.Strconv.ParseIntEmpty
import Derived.Shelf.Strconv.AtoiFail
import Derived.Shelf.Strconv.Clone
import Derived.Shelf.Strconv.SyntaxError
import Derived.Shelf.LaysC
import Derived.Shelf.Strconv.ToError
import Derived.Shelf.Strconv.Lower
import Derived.Shelf.Strconv.ParseUint10
import Derived.Shelf.Strconv.ParseUint10Empty
import Derived.Shelf.Strconv.ParseUint10Any
import Derived.Shelf.Strconv.ParseInt10
import Derived.Shelf.Strconv.AtoiLong
import Derived.Shelf.Strconv.AtoiInnerAll
import Derived.Shelf.Strconv.RangeError
import Derived.Shelf.Strconv.ToErrorRange
import Derived.Shelf.Strconv.AtoiAll
import Derived.Shelf.Strconv.ErrVarAll
import Derived.Shelf.Strconv.ParseUintEmpty
import Derived.Shelf.Strconv.ParseUint10b64
import Derived.Shelf.Strconv.ParseUint10b32
import Derived.Shelf.Strconv.ParseUint10b16
import Derived.Shelf.Strconv.ParseUint10b8
import Derived.Shelf.Strconv.ParseUint10At
import Derived.Shelf.Strconv.ParseInt10At64
import Derived.Shelf.Strconv.ParseInt10At32
import Derived.Shelf.Strconv.ParseInt10At16
import Derived.Shelf.Strconv.ParseInt10At8
import Derived.Shelf.Strconv.ParseInt10All
import Derived.Shelf.Strconv.ParseIntPublic10
import Derived.Shelf.Strconv.ErrVarParseInt
import Derived.Shelf.Strings.Search1
import Derived.Shelf.Strings.Search2
import Derived.Shelf.Strings.Search3
import Derived.Shelf.Strings.Cut
import Derived.Shelf.Strings.Count
import Derived.Shelf.Strings.Shaped
import Derived.Shelf.Strconv.AppendUint10
import Derived.Shelf.Strconv.AppendInt10
import Derived.Shelf.Strings.Prefix
import Derived.Shelf.Strings.Split
import Derived.Shelf.Strings.SplitShaped
import Derived.Shelf.Unicode.Decode
import Derived.Shelf.Strings.Runes
import Derived.Shelf.Strings.RuneCount
import Derived.Shelf.Strings.IndexAny
import Derived.Shelf.Strings.AsciiSet
import Derived.Shelf.Strings.IndexAnyAll
import Derived.Shelf.Strings.Explode
import Derived.Shelf.Unicode.DecodeSlow
import Derived.Shelf.Unicode.DecodeAny
import Derived.Lib.ParseIntB
import Derived.Shelf.Strings.SlTrimAscii
import Derived.WalkKit
import Derived.ProofKit
import Derived.Below
import Derived.WalkSpells
import Derived.WalkLawsBesides
import Derived.Lib.Hide
import Derived.Deep.Cut
import Derived.Deep.CutRange
import Derived.IntWalk
import Derived.Outline
import Derived.Test.YtagiddbfhlokcaaGreatDoorRows
import Derived.Lib.Builder
import Derived.Deep.CutBlock
import Derived.WalkMore
/- Some of the shelf's contracts at this program, as lay-plain laid them. -/
namespace Go.Proofs
open Go.Shelf
def Tryz.lays129_ren : Go.Shelf.Ren := ⟨fun | 129 => 132 | n => n, fun | 53 => 51 | 3 => 3 | 4 => 4 | 46 => 60 | 5 => 5 | 9 => 9 | n => n, fun | n => n⟩
theorem Tryz.lays129 : Go.Proofs.Lays.n129 Tryz.prog Tryz.lays129_ren := {
  mixed := by kernel_rfl
  f129 := Tryz.func132.trans (congrArg some (by kernel_rfl))
  t3 := Tryz.underlying3
  a3 := Tryz.isAgg3
  z3 := Tryz.sizeOf3
  v3 := Tryz.zeroValue3
  t4 := Tryz.underlying4
  a4 := Tryz.isAgg4
  z4 := Tryz.sizeOf4
  v4 := Tryz.zeroValue4
  t5 := Tryz.underlying5
  a5 := Tryz.isAgg5
  z5 := Tryz.sizeOf5
  v5 := Tryz.zeroValue5
  t9 := Tryz.underlying9
  a9 := Tryz.isAgg9
  z9 := Tryz.sizeOf9
  v9 := Tryz.zeroValue9
  t46 := Tryz.underlying60
  a46 := Tryz.isAgg60
  z46 := Tryz.sizeOf60
  v46 := Tryz.zeroValue60
  t53 := Tryz.underlying51
  a53 := Tryz.isAgg51
  z53 := Tryz.sizeOf51
  v53 := Tryz.zeroValue51 }
/-- bits.Len64: "Len64 returns the minimum number of bits required to represent x; the result is 0 for x == 0.": IT RETURNS 'Lib.bitLen x'; the world is as it was. ('h0', 'h1': x is a uint64.) (LAID: no walk: one application.) -/
theorem Tryz.bits_Len64 (x : Int) (w : World) (h0 : 0 ≤ x) (h1 : x ≤ 18446744073709551615) :
    Calls Tryz.prog 132 #[.int .u64 x] w fun e w' => e = .returned (.int .i64 (Lib.bitLen x.toNat)) ∧ w' = w := Any.bits_Len64 Tryz.lays129 x w h0 h1
def Tryz.lays264_ren : Go.Shelf.Ren := ⟨fun | 264 => 271 | n => n, fun | 53 => 51 | 46 => 60 | n => n, fun | n => n⟩
theorem Tryz.lays264 : Go.Proofs.Lays.n264 Tryz.prog Tryz.lays264_ren := {
  mixed := by kernel_rfl
  f264 := Tryz.func271.trans (congrArg some (by kernel_rfl))
  t46 := Tryz.underlying60
  a46 := Tryz.isAgg60
  z46 := Tryz.sizeOf60
  v46 := Tryz.zeroValue60
  t53 := Tryz.underlying51
  a53 := Tryz.isAgg51
  z53 := Tryz.sizeOf51
  v53 := Tryz.zeroValue51 }
open Go.RowKit Go.Lib in
theorem Tryz.bits_Mul64 (x y : Nat) (hx : x < 18446744073709551616) (hy : y < 18446744073709551616) (w : World) :
    Calls Tryz.prog 271 #[.int .u64 x, .int .u64 y] w fun e w' => e = .returned (.tuple #[.int .u64 ((x * y / 18446744073709551616 : Nat) : Int), .int .u64 ((x * y % 18446744073709551616 : Nat) : Int)]) ∧ w' = w := Any.bits_Mul64 Tryz.lays264 x y hx hy w
end Go.Proofs
/-
  DERIVED: THE SHELF's CONTRACTS AT THIS DUMP, IN PLAIN WORDS (tools/lay-plain.mjs out of 'TryzShelf.lean', which tools/lay-shelf.mjs wrote): THE SAME DECLARATIONS UNDER THE SAME NAMES: 'import', 'namespace', 'open', 'def', 'theorem' AND NOTHING ELSE: no command of the shelf's: FOR A HAND-IN. Each laying: the table of numbers ('.._ren') and one theorem, a field a fact of the dump's own or the kernel's comparison; each contract: ONE APPLICATION.
-/
namespace Go.Proofs
open Go.Shelf
def Tryz.lays170_ren : Go.Shelf.Ren := ⟨fun | 170 => 92 | n => n, fun | 70 => 115 | 3 => 3 | 0 => 0 | 72 => 117 | 37 => 59 | 5 => 5 | n => n, fun | n => n⟩
theorem Tryz.lays170 : Go.Proofs.Lays.n170 Tryz.prog Tryz.lays170_ren := {
  mixed := by kernel_rfl
  f170 := Tryz.func92.trans (congrArg some (by kernel_rfl))
  t0 := Tryz.underlying0
  a0 := Tryz.isAgg0
  z0 := Tryz.sizeOf0
  v0 := Tryz.zeroValue0
  t3 := Tryz.underlying3
  a3 := Tryz.isAgg3
  z3 := Tryz.sizeOf3
  v3 := Tryz.zeroValue3
  t37 := Tryz.underlying59
  a37 := Tryz.isAgg59
  z37 := Tryz.sizeOf59
  v37 := Tryz.zeroValue59
  t70 := Tryz.underlying115
  a70 := Tryz.isAgg115
  z70 := Tryz.sizeOf115
  v70 := Tryz.zeroValue115
  t72 := Tryz.underlying117
  a72 := Tryz.isAgg117
  z72 := Tryz.sizeOf117
  v72 := Tryz.zeroValue117 }
open Go.RowKit in
/-- (*strings.Builder).Len: "Len returns the number of accumulated bytes; b.Len() == len(b.String()).": the world is as it was. (LAID: no walk: one application.) -/
theorem Tryz.Builder_Len (B b : Nat) (bs : List Value) (w : World) (h : Lib.IsBuilder 117 5 B b bs w) :
    Calls Tryz.prog 92 #[.pointer (some ⟨b, 0, none⟩)] w fun e w' => e = .returned (.int .i64 bs.length) ∧ w' = w := Any.Builder_Len Tryz.lays170 B b bs w h
def Tryz.lays169_ren : Go.Shelf.Ren := ⟨fun | 169 => 72 | n => n, fun | 70 => 115 | 9 => 9 | 0 => 0 | 72 => 117 | 37 => 59 | 127 => 161 | 3 => 3 | 5 => 5 | n => n, fun | n => n⟩
theorem Tryz.lays169 : Go.Proofs.Lays.n169 Tryz.prog Tryz.lays169_ren := {
  mixed := by kernel_rfl
  f169 := Tryz.func72.trans (congrArg some (by kernel_rfl))
  t0 := Tryz.underlying0
  a0 := Tryz.isAgg0
  z0 := Tryz.sizeOf0
  v0 := Tryz.zeroValue0
  t3 := Tryz.underlying3
  a3 := Tryz.isAgg3
  z3 := Tryz.sizeOf3
  v3 := Tryz.zeroValue3
  t9 := Tryz.underlying9
  a9 := Tryz.isAgg9
  z9 := Tryz.sizeOf9
  v9 := Tryz.zeroValue9
  t37 := Tryz.underlying59
  a37 := Tryz.isAgg59
  z37 := Tryz.sizeOf59
  v37 := Tryz.zeroValue59
  t70 := Tryz.underlying115
  a70 := Tryz.isAgg115
  z70 := Tryz.sizeOf115
  v70 := Tryz.zeroValue115
  t72 := Tryz.underlying117
  a72 := Tryz.isAgg117
  z72 := Tryz.sizeOf117
  v72 := Tryz.zeroValue117
  t127 := Tryz.underlying161
  a127 := Tryz.isAgg161
  z127 := Tryz.sizeOf161
  v127 := Tryz.zeroValue161 }
theorem Tryz.Builder_Extra_169 : Builder.Extra Tryz.prog Tryz.lays169_ren := {
  sizeBuilder := by kernel_rfl
  liesBuilder := by kernel_rfl
  t5 := Tryz.underlying5
  a5 := Tryz.isAgg5
  z5 := Tryz.sizeOf5
  v5 := Tryz.zeroValue5
  infoByte := by kernel_rfl
  cellsByte := by kernel_rfl
  sizeByte := by kernel_rfl
  neB5 := by decide }
open Go.RowKit in
/-- (*strings.Builder).String: "String returns the accumulated string.": WHATEVER THE BUILDER HOLDS. (LAID: no walk: one application.) -/
theorem Tryz.Builder_String_any (B b : Nat) (l : List UInt8) (w : World) (h : Lib.IsBuilder 117 5 B b (Lib.byteCells l) w) (hBw : B ≤ w.heap.size) :
    Calls Tryz.prog 72 #[.pointer (some ⟨b, 0, none⟩)] w fun e w' => e = .returned (.string ⟨l.toArray⟩) ∧ Below B w w' := Any.Builder_String_any Tryz.lays169 Tryz.Builder_Extra_169 B b l w h hBw
def Tryz.lays161_ren : Go.Shelf.Ren := ⟨fun | 161 => 120 | 231 => 169 | 227 => 118 | 233 => 170 | 235 => 171 | 228 => 119 | 197 => 197 | 151 => 199 | 260 => 236 | 152 => 116 | 137 => 70 | 119 => 166 | 224 => 167 | 225 => 168 | 217 => 107 | 266 => 156 | n => n, fun | 9 => 9 | 4 => 4 | 3 => 3 | 5 => 5 | 117 => 172 | 116 => 171 | 0 => 0 | 124 => 205 | 105 => 243 | 21 => 21 | 119 => 235 | 46 => 60 | 139 => 334 | 138 => 333 | n => n, fun | 3 => 13 | 4 => 14 | n => n⟩
theorem Tryz.lays161 : Go.Proofs.Lays.n161 Tryz.prog Tryz.lays161_ren := {
  mixed := by kernel_rfl
  f119 := Tryz.func166.trans (congrArg some (by kernel_rfl))
  f137 := Tryz.func70.trans (congrArg some (by kernel_rfl))
  f151 := Tryz.func199.trans (congrArg some (by kernel_rfl))
  f152 := Tryz.func116.trans (congrArg some (by kernel_rfl))
  f161 := Tryz.func120.trans (congrArg some (by kernel_rfl))
  f197 := Tryz.func197.trans (congrArg some (by kernel_rfl))
  f217 := Tryz.func107.trans (congrArg some (by kernel_rfl))
  f224 := Tryz.func167.trans (congrArg some (by kernel_rfl))
  f225 := Tryz.func168.trans (congrArg some (by kernel_rfl))
  f227 := Tryz.func118.trans (congrArg some (by kernel_rfl))
  f228 := Tryz.func119.trans (congrArg some (by kernel_rfl))
  f231 := Tryz.func169.trans (congrArg some (by kernel_rfl))
  f233 := Tryz.func170.trans (congrArg some (by kernel_rfl))
  f235 := Tryz.func171.trans (congrArg some (by kernel_rfl))
  f260 := Tryz.func236.trans (congrArg some (by kernel_rfl))
  f266 := Tryz.func156.trans (congrArg some (by kernel_rfl))
  t0 := Tryz.underlying0
  a0 := Tryz.isAgg0
  z0 := Tryz.sizeOf0
  v0 := Tryz.zeroValue0
  t3 := Tryz.underlying3
  a3 := Tryz.isAgg3
  z3 := Tryz.sizeOf3
  v3 := Tryz.zeroValue3
  t4 := Tryz.underlying4
  a4 := Tryz.isAgg4
  z4 := Tryz.sizeOf4
  v4 := Tryz.zeroValue4
  t5 := Tryz.underlying5
  a5 := Tryz.isAgg5
  z5 := Tryz.sizeOf5
  v5 := Tryz.zeroValue5
  t9 := Tryz.underlying9
  a9 := Tryz.isAgg9
  z9 := Tryz.sizeOf9
  v9 := Tryz.zeroValue9
  t21 := Tryz.underlying21
  a21 := Tryz.isAgg21
  z21 := Tryz.sizeOf21
  v21 := Tryz.zeroValue21
  t46 := Tryz.underlying60
  a46 := Tryz.isAgg60
  z46 := Tryz.sizeOf60
  v46 := Tryz.zeroValue60
  t105 := Tryz.underlying243
  a105 := Tryz.isAgg243
  z105 := Tryz.sizeOf243
  v105 := Tryz.zeroValue243
  t116 := Tryz.underlying171
  a116 := Tryz.isAgg171
  z116 := Tryz.sizeOf171
  t117 := Tryz.underlying172
  a117 := Tryz.isAgg172
  z117 := Tryz.sizeOf172
  v117 := Tryz.zeroValue172
  t119 := Tryz.underlying235
  a119 := Tryz.isAgg235
  z119 := Tryz.sizeOf235
  t124 := Tryz.underlying205
  a124 := Tryz.isAgg205
  z124 := Tryz.sizeOf205
  v124 := Tryz.zeroValue205
  t138 := Tryz.underlying333
  a138 := Tryz.isAgg333
  z138 := Tryz.sizeOf333
  v138 := Tryz.zeroValue333
  t139 := Tryz.underlying334
  a139 := Tryz.isAgg334
  z139 := Tryz.sizeOf334
  v139 := Tryz.zeroValue334
  g3 := by kernel_rfl
  g4 := by kernel_rfl }
def Tryz.lays137_ren : Go.Shelf.Ren := ⟨fun | 137 => 70 | 217 => 107 | 266 => 156 | n => n, fun | 9 => 9 | 5 => 5 | 3 => 3 | n => n, fun | n => n⟩
theorem Tryz.lays137 : Go.Proofs.Lays.n137 Tryz.prog Tryz.lays137_ren := {
  mixed := by kernel_rfl
  f137 := Tryz.func70.trans (congrArg some (by kernel_rfl))
  f217 := Tryz.func107.trans (congrArg some (by kernel_rfl))
  f266 := Tryz.func156.trans (congrArg some (by kernel_rfl))
  t3 := Tryz.underlying3
  a3 := Tryz.isAgg3
  z3 := Tryz.sizeOf3
  v3 := Tryz.zeroValue3
  t5 := Tryz.underlying5
  a5 := Tryz.isAgg5
  z5 := Tryz.sizeOf5
  v5 := Tryz.zeroValue5
  t9 := Tryz.underlying9
  a9 := Tryz.isAgg9
  z9 := Tryz.sizeOf9
  v9 := Tryz.zeroValue9 }
open Go.RowKit in
/-- strings.IndexByte: "IndexByte returns the index of the first instance of c in s, or -1 if c is not present in s.": IT RETURNS 'Lib.indexByte s c'; the world is as it was. (LAID: no walk: one application.) -/
theorem Tryz.strings_IndexByte (s : ByteArray) (c : Int) (w : World) :
    Calls Tryz.prog 70 #[.string s, .int .u8 c] w fun e w' => e = .returned (.int .i64 (Lib.indexByte s.data.toList c.toNat.toUInt8)) ∧ w' = w := Any.strings_IndexByte Tryz.lays137 s c w
def Tryz.lays104_ren : Go.Shelf.Ren := ⟨fun | 104 => 57 | 211 => 93 | 207 => 146 | n => n, fun | 9 => 9 | 4 => 4 | 24 => 101 | 3 => 3 | n => n, fun | n => n⟩
theorem Tryz.lays104 : Go.Proofs.Lays.n104 Tryz.prog Tryz.lays104_ren := {
  mixed := by kernel_rfl
  f104 := Tryz.func57.trans (congrArg some (by kernel_rfl))
  f207 := Tryz.func146.trans (congrArg some (by kernel_rfl))
  f211 := Tryz.func93.trans (congrArg some (by kernel_rfl))
  t3 := Tryz.underlying3
  a3 := Tryz.isAgg3
  z3 := Tryz.sizeOf3
  v3 := Tryz.zeroValue3
  t4 := Tryz.underlying4
  a4 := Tryz.isAgg4
  z4 := Tryz.sizeOf4
  v4 := Tryz.zeroValue4
  t9 := Tryz.underlying9
  a9 := Tryz.isAgg9
  z9 := Tryz.sizeOf9
  v9 := Tryz.zeroValue9
  t24 := Tryz.underlying101
  a24 := Tryz.isAgg101
  z24 := Tryz.sizeOf101
  v24 := Tryz.zeroValue101 }
open Go.RowKit in
/-- strings.CutSuffix: "CutSuffix returns s without the provided ending suffix string and reports whether it found the suffix. If s doesn't end with suffix, CutSuffix returns s, false. If suffix is the empty string, CutSuffix returns s, true.": IT RETURNS '(Lib.trimSuffix s p, Lib.hasSuffix s p)'; the world is as it was. (LAID: no walk: one application.) -/
theorem Tryz.strings_CutSuffix (s p : ByteArray) (w : World) (hs : s.size ≤ 9223372036854775807) :
    Calls Tryz.prog 57 #[.string s, .string p] w fun e w' => e = .returned (.tuple #[.string ⟨(Lib.trimSuffix s.data.toList p.data.toList).toArray⟩, .bool (Lib.hasSuffix s.data.toList p.data.toList)]) ∧ w' = w := Any.strings_CutSuffix Tryz.lays104 s p w hs
def Tryz.lays172_ren : Go.Shelf.Ren := ⟨fun | 172 => 102 | 244 => 151 | 245 => 91 | 247 => 122 | 279 => 142 | 280 => 143 | 281 => 144 | 282 => 145 | 287 => 172 | 316 => 183 | 171 => 103 | 205 => 184 | 321 => 200 | 322 => 201 | 243 => 152 | 246 => 75 | 283 => 110 | 284 => 111 | 285 => 112 | 286 => 113 | 129 => 132 | 317 => 159 | 318 => 160 | 319 => 161 | 320 => 162 | 337 => 194 | 338 => 195 | n => n, fun | 9 => 9 | 3 => 3 | 75 => 104 | 76 => 122 | 4 => 4 | 5 => 5 | 167 => 189 | 37 => 59 | 0 => 0 | 85 => 132 | 2 => 2 | 168 => 190 | 53 => 51 | 175 => 208 | 46 => 60 | 210 => 223 | 127 => 161 | 145 => 276 | 143 => 274 | 21 => 21 | 171 => 162 | 173 => 165 | 212 => 201 | 51 => 147 | 20 => 20 | 213 => 202 | 232 => 281 | 233 => 301 | 80 => 120 | n => n, fun | 15 => 2 | 16 => 3 | 17 => 1 | 18 => 8 | 19 => 9 | n => n⟩
theorem Tryz.lays172 : Go.Proofs.Lays.n172 Tryz.prog Tryz.lays172_ren := {
  mixed := by kernel_rfl
  f129 := Tryz.func132.trans (congrArg some (by kernel_rfl))
  f171 := Tryz.func103.trans (congrArg some (by kernel_rfl))
  f172 := Tryz.func102.trans (congrArg some (by kernel_rfl))
  f205 := Tryz.func184.trans (congrArg some (by kernel_rfl))
  f243 := Tryz.func152.trans (congrArg some (by kernel_rfl))
  f244 := Tryz.func151.trans (congrArg some (by kernel_rfl))
  f245 := Tryz.func91.trans (congrArg some (by kernel_rfl))
  f246 := Tryz.func75.trans (congrArg some (by kernel_rfl))
  f247 := Tryz.func122.trans (congrArg some (by kernel_rfl))
  f279 := Tryz.func142.trans (congrArg some (by kernel_rfl))
  f280 := Tryz.func143.trans (congrArg some (by kernel_rfl))
  f281 := Tryz.func144.trans (congrArg some (by kernel_rfl))
  f282 := Tryz.func145.trans (congrArg some (by kernel_rfl))
  f283 := Tryz.func110.trans (congrArg some (by kernel_rfl))
  f284 := Tryz.func111.trans (congrArg some (by kernel_rfl))
  f285 := Tryz.func112.trans (congrArg some (by kernel_rfl))
  f286 := Tryz.func113.trans (congrArg some (by kernel_rfl))
  f287 := Tryz.func172.trans (congrArg some (by kernel_rfl))
  f316 := Tryz.func183.trans (congrArg some (by kernel_rfl))
  f317 := Tryz.func159.trans (congrArg some (by kernel_rfl))
  f318 := Tryz.func160.trans (congrArg some (by kernel_rfl))
  f319 := Tryz.func161.trans (congrArg some (by kernel_rfl))
  f320 := Tryz.func162.trans (congrArg some (by kernel_rfl))
  f321 := Tryz.func200.trans (congrArg some (by kernel_rfl))
  f322 := Tryz.func201.trans (congrArg some (by kernel_rfl))
  f337 := Tryz.func194.trans (congrArg some (by kernel_rfl))
  f338 := Tryz.func195.trans (congrArg some (by kernel_rfl))
  t0 := Tryz.underlying0
  a0 := Tryz.isAgg0
  z0 := Tryz.sizeOf0
  v0 := Tryz.zeroValue0
  t2 := Tryz.underlying2
  a2 := Tryz.isAgg2
  z2 := Tryz.sizeOf2
  v2 := Tryz.zeroValue2
  t3 := Tryz.underlying3
  a3 := Tryz.isAgg3
  z3 := Tryz.sizeOf3
  v3 := Tryz.zeroValue3
  t4 := Tryz.underlying4
  a4 := Tryz.isAgg4
  z4 := Tryz.sizeOf4
  v4 := Tryz.zeroValue4
  t5 := Tryz.underlying5
  a5 := Tryz.isAgg5
  z5 := Tryz.sizeOf5
  v5 := Tryz.zeroValue5
  t9 := Tryz.underlying9
  a9 := Tryz.isAgg9
  z9 := Tryz.sizeOf9
  v9 := Tryz.zeroValue9
  t20 := Tryz.underlying20
  a20 := Tryz.isAgg20
  z20 := Tryz.sizeOf20
  v20 := Tryz.zeroValue20
  t21 := Tryz.underlying21
  a21 := Tryz.isAgg21
  z21 := Tryz.sizeOf21
  v21 := Tryz.zeroValue21
  t37 := Tryz.underlying59
  a37 := Tryz.isAgg59
  z37 := Tryz.sizeOf59
  v37 := Tryz.zeroValue59
  t46 := Tryz.underlying60
  a46 := Tryz.isAgg60
  z46 := Tryz.sizeOf60
  v46 := Tryz.zeroValue60
  t51 := Tryz.underlying147
  a51 := Tryz.isAgg147
  z51 := Tryz.sizeOf147
  v51 := Tryz.zeroValue147
  t53 := Tryz.underlying51
  a53 := Tryz.isAgg51
  z53 := Tryz.sizeOf51
  v53 := Tryz.zeroValue51
  t75 := Tryz.underlying104
  a75 := Tryz.isAgg104
  z75 := Tryz.sizeOf104
  v75 := Tryz.zeroValue104
  t76 := Tryz.underlying122
  a76 := Tryz.isAgg122
  z76 := Tryz.sizeOf122
  v76 := Tryz.zeroValue122
  t85 := Tryz.underlying132
  a85 := Tryz.isAgg132
  z85 := Tryz.sizeOf132
  v85 := Tryz.zeroValue132
  t127 := Tryz.underlying161
  a127 := Tryz.isAgg161
  z127 := Tryz.sizeOf161
  v127 := Tryz.zeroValue161
  t143 := Tryz.underlying274
  a143 := Tryz.isAgg274
  z143 := Tryz.sizeOf274
  v143 := Tryz.zeroValue274
  t145 := Tryz.underlying276
  a145 := Tryz.isAgg276
  z145 := Tryz.sizeOf276
  v145 := Tryz.zeroValue276
  t167 := Tryz.underlying189
  a167 := Tryz.isAgg189
  z167 := Tryz.sizeOf189
  v167 := Tryz.zeroValue189
  t168 := Tryz.underlying190
  a168 := Tryz.isAgg190
  z168 := Tryz.sizeOf190
  v168 := Tryz.zeroValue190
  t171 := Tryz.underlying162
  a171 := Tryz.isAgg162
  z171 := Tryz.sizeOf162
  v171 := Tryz.zeroValue162
  t173 := Tryz.underlying165
  a173 := Tryz.isAgg165
  z173 := Tryz.sizeOf165
  v173 := Tryz.zeroValue165
  t175 := Tryz.underlying208
  a175 := Tryz.isAgg208
  z175 := Tryz.sizeOf208
  v175 := Tryz.zeroValue208
  t210 := Tryz.underlying223
  a210 := Tryz.isAgg223
  z210 := Tryz.sizeOf223
  v210 := Tryz.zeroValue223
  t212 := Tryz.underlying201
  a212 := Tryz.isAgg201
  z212 := Tryz.sizeOf201
  v212 := Tryz.zeroValue201
  t213 := Tryz.underlying202
  a213 := Tryz.isAgg202
  z213 := Tryz.sizeOf202
  t232 := Tryz.underlying281
  a232 := Tryz.isAgg281
  z232 := Tryz.sizeOf281
  v232 := Tryz.zeroValue281
  t233 := Tryz.underlying301
  a233 := Tryz.isAgg301
  z233 := Tryz.sizeOf301
  v233 := Tryz.zeroValue301
  g15 := by kernel_rfl
  g16 := by kernel_rfl
  g17 := by kernel_rfl
  g18 := by kernel_rfl
  g19 := by kernel_rfl }
open Go.RowKit in
/-- strconv.Atoi: "Atoi is equivalent to ParseInt(s, 10, 0), converted to type int.": AT A DECIMAL NUMERAL OF AT MOST 18 BYTES: its value, and a nil error. The world behind the call: the one new row that the library's '[]byte(s)' lays. (LAID: no walk: one application.) -/
theorem Tryz.strconv_Atoi (s : ByteArray) (n : Int) (hl : s.size ≤ 18) (h : Lib.atoi s.data.toList = some n) (w : World) :
    Calls Tryz.prog 102 #[.string s] w fun e w' => e = .returned (.tuple #[.int .i64 n, .nilIface]) ∧ ∃ t, w' = Lib.bytesWorld w 5 t := Any.strconv_Atoi Tryz.lays172 s n hl h w
def Tryz.laysM284_ren : Go.Shelf.Ren := ⟨fun | 284 => 111 | 129 => 132 | 317 => 159 | 318 => 160 | n => n, fun | 53 => 51 | 3 => 3 | 212 => 201 | 0 => 0 | 4 => 4 | 46 => 60 | 5 => 5 | 9 => 9 | n => n, fun | 17 => 1 | n => n⟩
theorem Tryz.laysM284 : Go.Proofs.LaysM.n284 Tryz.prog Tryz.laysM284_ren := {
  mixed := by kernel_rfl
  f129 := Tryz.func132.trans (congrArg some (by kernel_rfl))
  f284 := Tryz.func111.trans (congrArg some (by kernel_rfl))
  f317 := Tryz.func159.trans (congrArg some (by kernel_rfl))
  f318 := Tryz.func160.trans (congrArg some (by kernel_rfl))
  t0 := Tryz.underlying0
  a0 := Tryz.isAgg0
  z0 := Tryz.sizeOf0
  v0 := Tryz.zeroValue0
  t3 := Tryz.underlying3
  a3 := Tryz.isAgg3
  z3 := Tryz.sizeOf3
  v3 := Tryz.zeroValue3
  t4 := Tryz.underlying4
  a4 := Tryz.isAgg4
  z4 := Tryz.sizeOf4
  v4 := Tryz.zeroValue4
  t5 := Tryz.underlying5
  a5 := Tryz.isAgg5
  z5 := Tryz.sizeOf5
  v5 := Tryz.zeroValue5
  t9 := Tryz.underlying9
  a9 := Tryz.isAgg9
  z9 := Tryz.sizeOf9
  v9 := Tryz.zeroValue9
  t46 := Tryz.underlying60
  a46 := Tryz.isAgg60
  z46 := Tryz.sizeOf60
  v46 := Tryz.zeroValue60
  t53 := Tryz.underlying51
  a53 := Tryz.isAgg51
  z53 := Tryz.sizeOf51
  v53 := Tryz.zeroValue51
  t212 := Tryz.underlying201
  a212 := Tryz.isAgg201
  z212 := Tryz.sizeOf201
  v212 := Tryz.zeroValue201
  g17 := by kernel_rfl
  i0 := by kernel_rfl
  i3 := by kernel_rfl
  i4 := by kernel_rfl
  i5 := by kernel_rfl
  i9 := by kernel_rfl
  i46 := by kernel_rfl
  i53 := by kernel_rfl
  i212 := by kernel_rfl
  m17 := by kernel_rfl }
open Go.Lib in
/-- internal/strconv.numDigits, at a d that is not 0: THE NUMBER OF d's DECIMAL DIGITS. The world is as it was. (LAID: no walk: one application.) -/
theorem Tryz.internal_strconv_numDigits (u : Nat) (h1 : 1 ≤ u) (h2 : u < 18446744073709551616) (w : World) (htab : Lib.TabIs Tryz.prog w "internal/strconv.uint64pow10" .u64 Lib.pow10Tab) :
    Calls Tryz.prog 111 #[.int .u64 u] w fun e w' => e = .returned (.int .i64 (Lib.nDigits u)) ∧ w' = w := Any.internal_strconv_numDigits Tryz.laysM284 u h1 h2 w htab
def Tryz.lays285_ren : Go.Shelf.Ren := ⟨fun | 285 => 112 | n => n, fun | 37 => 59 | 53 => 51 | 3 => 3 | 4 => 4 | 51 => 147 | 9 => 9 | 5 => 5 | 0 => 0 | n => n, fun | n => n⟩
theorem Tryz.lays285 : Go.Proofs.Lays.n285 Tryz.prog Tryz.lays285_ren := {
  mixed := by kernel_rfl
  f285 := Tryz.func112.trans (congrArg some (by kernel_rfl))
  t0 := Tryz.underlying0
  a0 := Tryz.isAgg0
  z0 := Tryz.sizeOf0
  v0 := Tryz.zeroValue0
  t3 := Tryz.underlying3
  a3 := Tryz.isAgg3
  z3 := Tryz.sizeOf3
  v3 := Tryz.zeroValue3
  t4 := Tryz.underlying4
  a4 := Tryz.isAgg4
  z4 := Tryz.sizeOf4
  v4 := Tryz.zeroValue4
  t5 := Tryz.underlying5
  a5 := Tryz.isAgg5
  z5 := Tryz.sizeOf5
  v5 := Tryz.zeroValue5
  t9 := Tryz.underlying9
  a9 := Tryz.isAgg9
  z9 := Tryz.sizeOf9
  v9 := Tryz.zeroValue9
  t37 := Tryz.underlying59
  a37 := Tryz.isAgg59
  z37 := Tryz.sizeOf59
  v37 := Tryz.zeroValue59
  t51 := Tryz.underlying147
  a51 := Tryz.isAgg147
  z51 := Tryz.sizeOf147
  v51 := Tryz.zeroValue147
  t53 := Tryz.underlying51
  a53 := Tryz.isAgg51
  z53 := Tryz.sizeOf51
  v53 := Tryz.zeroValue51 }
open Go.RowKit Go.Sort Go.Lib in
/-- internal/strconv.formatBase10: "formatBase10 formats the decimal representation of u into a. The caller is responsible for ensuring that a is big enough to hold u. If a is too big, leading zeros will be filled in as needed.": THE ROW HOLDS u's DIGITS ('FmtInv .. 0 ..': every place t holds 'dg u (len - 1 - t)'); all else is as it was but for the count of draws. (LAID: no walk: one application.) -/
theorem Tryz.internal_strconv_formatBase10 (blk off cap : Nat) (u : Nat) (d : Array UInt8) (w : World) (hH : Holds (fun (b : UInt8) => Value.int .u8 (b.toNat : Int)) w blk off d) (hu : u < 10 ^ d.size) (hu64 : u < 18446744073709551616) (hsz : d.size < 4611686018427387904) :
    Calls Tryz.prog 112 #[.slice (some ⟨blk, off, none⟩) d.size cap, .int .u64 u] w fun e w' =>
      e = .returned (.tuple #[]) ∧ ∃ (n v' : Nat) (dk : Array UInt8), w' = (putRow (fun (b : UInt8) => Value.int .u8 (b.toNat : Int)) w blk off dk).drewN n ∧ FmtInv d.size u 0 v' dk := Any.internal_strconv_formatBase10 Tryz.lays285 blk off cap u d w hH hu hu64 hsz
def Tryz.laysM280_ren : Go.Shelf.Ren := ⟨fun | 280 => 143 | 316 => 183 | n => n, fun | 9 => 9 | 168 => 190 | 75 => 104 | 210 => 223 | 3 => 3 | 4 => 4 | 37 => 59 | 0 => 0 | 127 => 161 | 80 => 120 | 5 => 5 | n => n, fun | 16 => 3 | n => n⟩
theorem Tryz.laysM280 : Go.Proofs.LaysM.n280 Tryz.prog Tryz.laysM280_ren := {
  mixed := by kernel_rfl
  f280 := Tryz.func143.trans (congrArg some (by kernel_rfl))
  f316 := Tryz.func183.trans (congrArg some (by kernel_rfl))
  t0 := Tryz.underlying0
  a0 := Tryz.isAgg0
  z0 := Tryz.sizeOf0
  v0 := Tryz.zeroValue0
  t3 := Tryz.underlying3
  a3 := Tryz.isAgg3
  z3 := Tryz.sizeOf3
  v3 := Tryz.zeroValue3
  t4 := Tryz.underlying4
  a4 := Tryz.isAgg4
  z4 := Tryz.sizeOf4
  v4 := Tryz.zeroValue4
  t9 := Tryz.underlying9
  a9 := Tryz.isAgg9
  z9 := Tryz.sizeOf9
  v9 := Tryz.zeroValue9
  t37 := Tryz.underlying59
  a37 := Tryz.isAgg59
  z37 := Tryz.sizeOf59
  v37 := Tryz.zeroValue59
  t75 := Tryz.underlying104
  a75 := Tryz.isAgg104
  z75 := Tryz.sizeOf104
  v75 := Tryz.zeroValue104
  t127 := Tryz.underlying161
  a127 := Tryz.isAgg161
  z127 := Tryz.sizeOf161
  v127 := Tryz.zeroValue161
  t168 := Tryz.underlying190
  a168 := Tryz.isAgg190
  z168 := Tryz.sizeOf190
  v168 := Tryz.zeroValue190
  t210 := Tryz.underlying223
  a210 := Tryz.isAgg223
  z210 := Tryz.sizeOf223
  v210 := Tryz.zeroValue223
  g16 := by kernel_rfl
  t5 := Tryz.underlying5
  a5 := Tryz.isAgg5
  z5 := Tryz.sizeOf5
  v5 := Tryz.zeroValue5
  t80 := Tryz.underlying120
  a80 := Tryz.isAgg120
  z80 := Tryz.sizeOf120
  v80 := Tryz.zeroValue120
  i0 := by kernel_rfl
  i3 := by kernel_rfl
  i4 := by kernel_rfl
  i5 := by kernel_rfl
  i9 := by kernel_rfl
  i37 := by kernel_rfl
  i75 := by kernel_rfl
  i80 := by kernel_rfl
  i127 := by kernel_rfl
  i168 := by kernel_rfl
  i210 := by kernel_rfl
  m16 := by kernel_rfl }
open Go.RowKit in
/-- strconv.rangeError: '&NumError{fn, stringslite.Clone(str), ErrRange}': A POINTER TO A NEW BLOCK that holds fn, str's bytes, and what the variable ErrRange holds. Of what was there nothing has turned. (LAID: no walk: one application.) -/
theorem Tryz.strconv_rangeError (fn s : ByteArray) (ev : Value) (w : World) (hlim : s.size ≤ 281474976710656) (hv : w.cell? ⟨3, 0, none⟩ = some ev) (hev : ev = .nilIface ∨ ∃ te pe, ev = .iface te pe) :
    Calls Tryz.prog 143 #[.string fn, .string s] w fun e w' => ∃ N, e = .returned (.pointer (some ⟨N, 0, none⟩)) ∧ w.heap.size ≤ N ∧ w'.heap[N]? = some (.cells #[.string fn, .string s, ev] 223 (0, 0)) ∧ Below w.heap.size w w' := Any.strconv_rangeError Tryz.laysM280 fn s ev w hlim hv hev
def Tryz.laysC174_ren : Go.Shelf.Ren := ⟨fun | 174 => 85 | 247 => 122 | 245 => 91 | 287 => 172 | 279 => 142 | 280 => 143 | 281 => 144 | 282 => 145 | 321 => 200 | 322 => 201 | 316 => 183 | 171 => 103 | 205 => 184 | 243 => 152 | 246 => 75 | 283 => 110 | 284 => 111 | 285 => 112 | 286 => 113 | 129 => 132 | 317 => 159 | 318 => 160 | 319 => 161 | 320 => 162 | 337 => 194 | 338 => 195 | n => n, fun | 9 => 9 | 3 => 3 | 2 => 2 | 75 => 104 | 85 => 132 | 4 => 4 | 167 => 189 | 5 => 5 | 53 => 51 | 175 => 208 | 46 => 60 | 168 => 190 | 37 => 59 | 0 => 0 | 210 => 223 | 21 => 21 | 127 => 161 | 145 => 276 | 143 => 274 | 171 => 162 | 173 => 165 | 212 => 201 | 51 => 147 | 20 => 20 | 213 => 202 | 232 => 281 | 233 => 301 | 80 => 120 | n => n, fun | 15 => 2 | 16 => 3 | 17 => 1 | 18 => 8 | 19 => 9 | n => n⟩
theorem Tryz.laysC174 : Go.Proofs.LaysC.n174 Tryz.prog Tryz.laysC174_ren := {
  mixed := by kernel_rfl
  f129 := Tryz.func132.trans (congrArg some (by kernel_rfl))
  f171 := Tryz.func103.trans (congrArg some (by kernel_rfl))
  f174 := Tryz.func85.trans (congrArg some (by kernel_rfl))
  f205 := Tryz.func184.trans (congrArg some (by kernel_rfl))
  f243 := Tryz.func152.trans (congrArg some (by kernel_rfl))
  f245 := Tryz.func91.trans (congrArg some (by kernel_rfl))
  f246 := Tryz.func75.trans (congrArg some (by kernel_rfl))
  f247 := Tryz.func122.trans (congrArg some (by kernel_rfl))
  f279 := Tryz.func142.trans (congrArg some (by kernel_rfl))
  f280 := Tryz.func143.trans (congrArg some (by kernel_rfl))
  f281 := Tryz.func144.trans (congrArg some (by kernel_rfl))
  f282 := Tryz.func145.trans (congrArg some (by kernel_rfl))
  f283 := Tryz.func110.trans (congrArg some (by kernel_rfl))
  f284 := Tryz.func111.trans (congrArg some (by kernel_rfl))
  f285 := Tryz.func112.trans (congrArg some (by kernel_rfl))
  f286 := Tryz.func113.trans (congrArg some (by kernel_rfl))
  f287 := Tryz.func172.trans (congrArg some (by kernel_rfl))
  f316 := Tryz.func183.trans (congrArg some (by kernel_rfl))
  f317 := Tryz.func159.trans (congrArg some (by kernel_rfl))
  f318 := Tryz.func160.trans (congrArg some (by kernel_rfl))
  f319 := Tryz.func161.trans (congrArg some (by kernel_rfl))
  f320 := Tryz.func162.trans (congrArg some (by kernel_rfl))
  f321 := Tryz.func200.trans (congrArg some (by kernel_rfl))
  f322 := Tryz.func201.trans (congrArg some (by kernel_rfl))
  f337 := Tryz.func194.trans (congrArg some (by kernel_rfl))
  f338 := Tryz.func195.trans (congrArg some (by kernel_rfl))
  t0 := Tryz.underlying0
  a0 := Tryz.isAgg0
  z0 := Tryz.sizeOf0
  v0 := Tryz.zeroValue0
  t2 := Tryz.underlying2
  a2 := Tryz.isAgg2
  z2 := Tryz.sizeOf2
  v2 := Tryz.zeroValue2
  t3 := Tryz.underlying3
  a3 := Tryz.isAgg3
  z3 := Tryz.sizeOf3
  v3 := Tryz.zeroValue3
  t4 := Tryz.underlying4
  a4 := Tryz.isAgg4
  z4 := Tryz.sizeOf4
  v4 := Tryz.zeroValue4
  t5 := Tryz.underlying5
  a5 := Tryz.isAgg5
  z5 := Tryz.sizeOf5
  v5 := Tryz.zeroValue5
  t9 := Tryz.underlying9
  a9 := Tryz.isAgg9
  z9 := Tryz.sizeOf9
  v9 := Tryz.zeroValue9
  t20 := Tryz.underlying20
  a20 := Tryz.isAgg20
  z20 := Tryz.sizeOf20
  v20 := Tryz.zeroValue20
  t21 := Tryz.underlying21
  a21 := Tryz.isAgg21
  z21 := Tryz.sizeOf21
  v21 := Tryz.zeroValue21
  t37 := Tryz.underlying59
  a37 := Tryz.isAgg59
  z37 := Tryz.sizeOf59
  v37 := Tryz.zeroValue59
  t46 := Tryz.underlying60
  a46 := Tryz.isAgg60
  z46 := Tryz.sizeOf60
  v46 := Tryz.zeroValue60
  t51 := Tryz.underlying147
  a51 := Tryz.isAgg147
  z51 := Tryz.sizeOf147
  v51 := Tryz.zeroValue147
  t53 := Tryz.underlying51
  a53 := Tryz.isAgg51
  z53 := Tryz.sizeOf51
  v53 := Tryz.zeroValue51
  t75 := Tryz.underlying104
  a75 := Tryz.isAgg104
  z75 := Tryz.sizeOf104
  v75 := Tryz.zeroValue104
  t85 := Tryz.underlying132
  a85 := Tryz.isAgg132
  z85 := Tryz.sizeOf132
  v85 := Tryz.zeroValue132
  t127 := Tryz.underlying161
  a127 := Tryz.isAgg161
  z127 := Tryz.sizeOf161
  v127 := Tryz.zeroValue161
  t143 := Tryz.underlying274
  a143 := Tryz.isAgg274
  z143 := Tryz.sizeOf274
  v143 := Tryz.zeroValue274
  t145 := Tryz.underlying276
  a145 := Tryz.isAgg276
  z145 := Tryz.sizeOf276
  v145 := Tryz.zeroValue276
  t167 := Tryz.underlying189
  a167 := Tryz.isAgg189
  z167 := Tryz.sizeOf189
  v167 := Tryz.zeroValue189
  t168 := Tryz.underlying190
  a168 := Tryz.isAgg190
  z168 := Tryz.sizeOf190
  v168 := Tryz.zeroValue190
  t171 := Tryz.underlying162
  a171 := Tryz.isAgg162
  z171 := Tryz.sizeOf162
  v171 := Tryz.zeroValue162
  t173 := Tryz.underlying165
  a173 := Tryz.isAgg165
  z173 := Tryz.sizeOf165
  v173 := Tryz.zeroValue165
  t175 := Tryz.underlying208
  a175 := Tryz.isAgg208
  z175 := Tryz.sizeOf208
  v175 := Tryz.zeroValue208
  t210 := Tryz.underlying223
  a210 := Tryz.isAgg223
  z210 := Tryz.sizeOf223
  v210 := Tryz.zeroValue223
  t212 := Tryz.underlying201
  a212 := Tryz.isAgg201
  z212 := Tryz.sizeOf201
  v212 := Tryz.zeroValue201
  t213 := Tryz.underlying202
  a213 := Tryz.isAgg202
  z213 := Tryz.sizeOf202
  t232 := Tryz.underlying281
  a232 := Tryz.isAgg281
  z232 := Tryz.sizeOf281
  v232 := Tryz.zeroValue281
  t233 := Tryz.underlying301
  a233 := Tryz.isAgg301
  z233 := Tryz.sizeOf301
  v233 := Tryz.zeroValue301
  g15 := by kernel_rfl
  g16 := by kernel_rfl
  g17 := by kernel_rfl
  g18 := by kernel_rfl
  g19 := by kernel_rfl
  t80 := Tryz.underlying120
  a80 := Tryz.isAgg120
  z80 := Tryz.sizeOf120
  v80 := Tryz.zeroValue120
  i0 := by kernel_rfl
  i2 := by kernel_rfl
  i3 := by kernel_rfl
  i4 := by kernel_rfl
  i5 := by kernel_rfl
  i9 := by kernel_rfl
  i20 := by kernel_rfl
  i21 := by kernel_rfl
  i37 := by kernel_rfl
  i46 := by kernel_rfl
  i51 := by kernel_rfl
  i53 := by kernel_rfl
  i75 := by kernel_rfl
  i80 := by kernel_rfl
  i85 := by kernel_rfl
  i127 := by kernel_rfl
  i143 := by kernel_rfl
  i145 := by kernel_rfl
  i167 := by kernel_rfl
  i168 := by kernel_rfl
  i171 := by kernel_rfl
  i173 := by kernel_rfl
  i175 := by kernel_rfl
  i210 := by kernel_rfl
  i212 := by kernel_rfl
  i232 := by kernel_rfl
  i233 := by kernel_rfl
  m15 := by kernel_rfl
  m16 := by kernel_rfl
  m17 := by kernel_rfl
  m18 := by kernel_rfl
  m19 := by kernel_rfl
  c0 := by kernel_rfl
  c2 := by kernel_rfl
  c3 := by kernel_rfl
  c4 := by kernel_rfl
  c5 := by kernel_rfl
  c9 := by kernel_rfl
  c20 := by kernel_rfl
  c21 := by kernel_rfl
  c37 := by kernel_rfl
  c46 := by kernel_rfl
  c51 := by kernel_rfl
  c53 := by kernel_rfl
  c75 := by kernel_rfl
  c80 := by kernel_rfl
  c85 := by kernel_rfl
  c127 := by kernel_rfl
  c143 := by kernel_rfl
  c145 := by kernel_rfl
  c167 := by kernel_rfl
  c168 := by kernel_rfl
  c171 := by kernel_rfl
  c173 := by kernel_rfl
  c175 := by kernel_rfl
  c210 := by kernel_rfl
  c212 := by kernel_rfl
  c213 := by kernel_rfl
  c232 := by kernel_rfl
  c233 := by kernel_rfl }
open Go.RowKit in
/-- strconv.ParseInt(s, 10, 64), AT EVERY STRING THAT SPELLS AN int64 ('Lib.parseIntB 64 s.data.toList = .ok v'): v, AND NO ERROR. (LAID: no walk: one application.) -/
theorem Tryz.strconv_ParseInt_10_at64_ok (s : ByteArray) (hmax : s.size ≤ 9223372036854775806) (v : Int) (h : Lib.parseIntB 64 s.data.toList = .ok v) (w : World) :
    Calls Tryz.prog 85 #[.string s, .int .i64 10, .int .i64 64] w fun e w' => e = .returned (.tuple #[.int .i64 v, .nilIface]) ∧ (w' = w ∨ ∃ t, w' = Lib.bytesWorld w 5 t) := Any.strconv_ParseInt_10_at64_ok Tryz.laysC174 s hmax v h w
open Go.RowKit in
/-- strconv.ParseInt(s, 10, 64), AT EVERY NUMERAL THAT NO int64 HOLDS: THE GREATEST OR THE LEAST int64, BY THE SIGN ('Lib.intSat 64'), AND AN ERROR THAT IS NOT nil: a *NumError in a new block N: {Func: "ParseInt", Num: s's bytes, Err: what the variable ErrRange holds}. Of what was there nothing has turned. (LAID: no walk: one application.) -/
theorem Tryz.strconv_ParseInt_10_at64_range (s : ByteArray) (hlim : s.size ≤ 281474976710656) (h : Lib.parseIntB 64 s.data.toList = .range) (ev : Value) (w : World) (hv : w.cell? ⟨3, 0, none⟩ = some ev) (hev : ev = .nilIface ∨ ∃ te pe, ev = .iface te pe) :
    Calls Tryz.prog 85 #[.string s, .int .i64 10, .int .i64 64] w fun e w' => ∃ N, e = .returned (.tuple #[.int .i64 (Lib.intSat 64 s.data.toList), .iface 190 (.pointer (some ⟨N, 0, none⟩))]) ∧ w.heap.size ≤ N ∧ w'.heap[N]? = some (.cells #[.string ⟨#[80, 97, 114, 115, 101, 73, 110, 116]⟩, .string s, ev] 223 (0, 0)) ∧ Below w.heap.size w w' := Any.strconv_ParseInt_10_at64_range Tryz.laysC174 s hlim h ev w hv hev
def Tryz.lays219_ren : Go.Shelf.Ren := ⟨fun | 219 => 185 | 217 => 107 | 225 => 168 | 224 => 167 | 267 => 217 | 266 => 156 | 314 => 248 | n => n, fun | 9 => 9 | 3 => 3 | 4 => 4 | 5 => 5 | 46 => 60 | 146 => 315 | 51 => 147 | n => n, fun | 1 => 4 | n => n⟩
theorem Tryz.lays219 : Go.Proofs.Lays.n219 Tryz.prog Tryz.lays219_ren := {
  mixed := by kernel_rfl
  f217 := Tryz.func107.trans (congrArg some (by kernel_rfl))
  f219 := Tryz.func185.trans (congrArg some (by kernel_rfl))
  f224 := Tryz.func167.trans (congrArg some (by kernel_rfl))
  f225 := Tryz.func168.trans (congrArg some (by kernel_rfl))
  f266 := Tryz.func156.trans (congrArg some (by kernel_rfl))
  f267 := Tryz.func217.trans (congrArg some (by kernel_rfl))
  f314 := Tryz.func248.trans (congrArg some (by kernel_rfl))
  t3 := Tryz.underlying3
  a3 := Tryz.isAgg3
  z3 := Tryz.sizeOf3
  v3 := Tryz.zeroValue3
  t4 := Tryz.underlying4
  a4 := Tryz.isAgg4
  z4 := Tryz.sizeOf4
  v4 := Tryz.zeroValue4
  t5 := Tryz.underlying5
  a5 := Tryz.isAgg5
  z5 := Tryz.sizeOf5
  v5 := Tryz.zeroValue5
  t9 := Tryz.underlying9
  a9 := Tryz.isAgg9
  z9 := Tryz.sizeOf9
  v9 := Tryz.zeroValue9
  t46 := Tryz.underlying60
  a46 := Tryz.isAgg60
  z46 := Tryz.sizeOf60
  v46 := Tryz.zeroValue60
  t51 := Tryz.underlying147
  a51 := Tryz.isAgg147
  z51 := Tryz.sizeOf147
  v51 := Tryz.zeroValue147
  t146 := Tryz.underlying315
  a146 := Tryz.isAgg315
  z146 := Tryz.sizeOf315
  v146 := Tryz.zeroValue315
  g1 := by kernel_rfl }
open Go.RowKit Go.Lib in
/-- internal/stringslite.Index (what strings.Index calls) AT A substr OF ONE BYTE c: IT RETURNS 'Lib.indexByte s c'; the world is as it was. (LAID: no walk: one application.) -/
theorem Tryz.stringslite_Index_one (s : ByteArray) (c : UInt8) (w : World) :
    Calls Tryz.prog 185 #[.string s, .string ⟨#[c]⟩] w fun e w' => e = .returned (.int .i64 (Lib.indexByte s.data.toList c)) ∧ w' = w := Any.stringslite_Index_one Tryz.lays219 s c w
def Tryz.lays99_ren : Go.Shelf.Ren := ⟨fun | 99 => 41 | 206 => 81 | n => n, fun | 9 => 9 | 4 => 4 | 3 => 3 | n => n, fun | n => n⟩
theorem Tryz.lays99 : Go.Proofs.Lays.n99 Tryz.prog Tryz.lays99_ren := {
  mixed := by kernel_rfl
  f99 := Tryz.func41.trans (congrArg some (by kernel_rfl))
  f206 := Tryz.func81.trans (congrArg some (by kernel_rfl))
  t3 := Tryz.underlying3
  a3 := Tryz.isAgg3
  z3 := Tryz.sizeOf3
  v3 := Tryz.zeroValue3
  t4 := Tryz.underlying4
  a4 := Tryz.isAgg4
  z4 := Tryz.sizeOf4
  v4 := Tryz.zeroValue4
  t9 := Tryz.underlying9
  a9 := Tryz.isAgg9
  z9 := Tryz.sizeOf9
  v9 := Tryz.zeroValue9 }
open Go.RowKit Go.Lib in
/-- strings.HasPrefix: "HasPrefix reports whether the string s begins with prefix.": IT RETURNS 'Lib.hasPrefix s prefix'; the world is as it was. (LAID: no walk: one application.) -/
theorem Tryz.strings_HasPrefix (s p : ByteArray) (w : World) :
    Calls Tryz.prog 41 #[.string s, .string p] w fun e w' => e = .returned (.bool (Lib.hasPrefix s.data.toList p.data.toList)) ∧ w' = w := Any.strings_HasPrefix Tryz.lays99 s p w
def Tryz.lays101_ren : Go.Shelf.Ren := ⟨fun | 101 => 84 | 208 => 121 | 206 => 81 | n => n, fun | 9 => 9 | 4 => 4 | 3 => 3 | n => n, fun | n => n⟩
theorem Tryz.lays101 : Go.Proofs.Lays.n101 Tryz.prog Tryz.lays101_ren := {
  mixed := by kernel_rfl
  f101 := Tryz.func84.trans (congrArg some (by kernel_rfl))
  f206 := Tryz.func81.trans (congrArg some (by kernel_rfl))
  f208 := Tryz.func121.trans (congrArg some (by kernel_rfl))
  t3 := Tryz.underlying3
  a3 := Tryz.isAgg3
  z3 := Tryz.sizeOf3
  v3 := Tryz.zeroValue3
  t4 := Tryz.underlying4
  a4 := Tryz.isAgg4
  z4 := Tryz.sizeOf4
  v4 := Tryz.zeroValue4
  t9 := Tryz.underlying9
  a9 := Tryz.isAgg9
  z9 := Tryz.sizeOf9
  v9 := Tryz.zeroValue9 }
open Go.RowKit Go.Lib in
/-- strings.TrimPrefix: "TrimPrefix returns s without the provided leading prefix string. If s doesn't start with prefix, s is returned unchanged.": IT RETURNS 'Lib.trimPrefix s prefix'; the world is as it was. (LAID: no walk: one application.) -/
theorem Tryz.strings_TrimPrefix (s p : ByteArray) (w : World) :
    Calls Tryz.prog 84 #[.string s, .string p] w fun e w' => e = .returned (.string ⟨(Lib.trimPrefix s.data.toList p.data.toList).toArray⟩) ∧ w' = w := Any.strings_TrimPrefix Tryz.lays101 s p w
end Go.Proofs
/- What ParseFloat reads, in plain Lean: the texts that are read as floats, the mantissa and the exponent. No condition. -/
namespace PF
def isDig (c : UInt8) : Bool := decide (48 ≤ c.toNat) && decide (c.toNat ≤ 57)
/-- Digits to the end, at least one. -/
def okD (l : List UInt8) : Bool := !l.isEmpty && l.all isDig
/-- Behind an e. -/
def okX : List UInt8 → Bool
  | [] => false
  | c :: r => if c = 43 ∨ c = 45 then okD r else okD (c :: r)
/-- The digits, perhaps with a dot, perhaps an exponent behind. -/
def okM (dot saw : Bool) : List UInt8 → Bool
  | [] => saw
  | c :: r => if isDig c then okM dot true r else if c = 46 then (!dot && saw) && okM true false r else (decide (c = 101) || decide (c = 69)) && (saw && okX r)
/-- Without its sign. -/
def body (l : List UInt8) : List UInt8 := match l with | 45 :: r => r | _ => l
def isNeg (l : List UInt8) : Bool := match l with | 45 :: _ => true | _ => false
/-- Is it read as a float? -/
def decB (l : List UInt8) : Bool := okM false false (body l) && decide (l.length ≤ 400)
/-- The state of the loop over the mantissa. -/
structure RF where
  man : Nat
  ds : List Nat
  nm : Nat
  dp : Int
  dot : Bool
  saw : Bool
  tr : Bool
def rf0 : RF := ⟨0, [], 0, 0, false, false, false⟩
/-- How many digits. -/
def RF.nd (st : RF) : Nat := st.ds.length
def RF.step (st : RF) (c : UInt8) : Option RF :=
  if c = 46 then (if st.dot then none else some { st with dot := true, dp := st.nd })
  else if isDig c then
    if c = 48 ∧ st.nd = 0 then some { st with saw := true, dp := st.dp - 1 }
    else if st.nm < 19 then some { st with saw := true, ds := st.ds ++ [c.toNat - 48], man := st.man * 10 + (c.toNat - 48), nm := st.nm + 1 }
    else some { st with saw := true, ds := st.ds ++ [c.toNat - 48], tr := st.tr || decide (c ≠ 48) }
  else none
def RF.run : List UInt8 → RF → RF × List UInt8
  | [], st => (st, [])
  | c :: r, st => match st.step c with | some st' => RF.run r st' | none => (st, c :: r)
/-- An exponent's digits. -/
def exD : List UInt8 → Nat → Nat
  | [], e => e
  | c :: r, e => exD r (if e < 10000 then e * 10 + (c.toNat - 48) else e)
/-- What stands behind the mantissa: 'e', perhaps a sign, digits. -/
def exV : List UInt8 → Int
  | _ :: 45 :: r => -(exD r 0 : Int)
  | _ :: 43 :: r => exD r 0
  | _ :: r => exD r 0
  | [] => 0
/-- Mantissa, exponent, are there digits left out? -/
def readF (l : List UInt8) : Nat × Int × Bool :=
  let (st, rest) := RF.run (body l) rf0
  let dp : Int := (if st.dot then st.dp else st.nd) + exV rest
  (st.man, (if st.man = 0 then 0 else dp - st.nm), st.tr)
theorem RF.run_some {c : UInt8} {r : List UInt8} {st st' : RF} (h : st.step c = some st') : RF.run (c :: r) st = RF.run r st' := by
  simp [RF.run, h]
theorem RF.run_none {c : UInt8} {r : List UInt8} {st : RF} (h : st.step c = none) : RF.run (c :: r) st = (st, c :: r) := by
  simp [RF.run, h]
/-- What holds of the state behind k signs. -/
structure RF.Ok (st : RF) (k : Nat) : Prop where
  nd : st.ds.length ≤ k
  nm : st.nm ≤ st.ds.length
  nm19 : st.nm ≤ 19
  man : st.man < 10 ^ st.nm
  dpl : -(k : Int) ≤ st.dp
  dph : st.dp ≤ k
  dig : ∀ d ∈ st.ds, d ≤ 9
  one : st.ds.headD 1 ≠ 0
theorem rf0_ok : rf0.Ok 0 := ⟨Nat.le_refl _, Nat.le_refl _, by decide, by decide, by decide, by decide, (fun _ h => by cases h), by decide⟩
theorem RF.Ok.step {st st' : RF} {k : Nat} {c : UInt8} (h : st.Ok k) (hs : st.step c = some st') : st'.Ok (k + 1) := by
  obtain ⟨h1, h2, h3, h4, h5, h6, h7, h8⟩ := h
  have dig (d : Nat) (hd : d ≤ 9) : ∀ x ∈ st.ds ++ [d], x ≤ 9 := by
    intro x hx
    rcases List.mem_append.1 hx with hx | hx
    · exact h7 x hx
    · rw [List.mem_singleton.1 hx]; exact hd
  have one (d : Nat) (hd : ¬(d = 0 ∧ st.ds.length = 0)) : (st.ds ++ [d]).headD 1 ≠ 0 := by
    cases he : st.ds with
    | nil => simp only [List.nil_append, List.headD_cons]; rw [he] at hd; simpa using hd
    | cons x t => rw [he] at h8; simpa using h8
  unfold RF.step at hs
  split at hs
  · split at hs
    · cases hs
    · cases hs
      exact ⟨by simp; omega, by simpa using h2, h3, h4, by simp [RF.nd]; omega, by simp [RF.nd]; omega, h7, h8⟩
  · split at hs
    · rename_i hd
      simp only [isDig, Bool.and_eq_true, decide_eq_true_eq] at hd
      split at hs
      · cases hs
        exact ⟨by simp; omega, by simpa using h2, h3, h4, by simp; omega, by simp; omega, h7, h8⟩
      · rename_i hz
        have hz' : ¬(c.toNat - 48 = 0 ∧ st.ds.length = 0) := fun ⟨a, b⟩ => hz ⟨UInt8.toNat_inj.1 (by simp; omega), b⟩
        split at hs
        · cases hs
          refine ⟨by simp; omega, by simp; omega, by simp; omega, ?_, by simp; omega, by simp; omega, dig _ (by omega), one _ hz'⟩
          simp only [Nat.pow_succ]
          omega
        · cases hs
          exact ⟨by simp; omega, by simp; omega, h3, h4, by simp; omega, by simp; omega, dig _ (by omega), one _ hz'⟩
    · cases hs
theorem RF.Ok.run : ∀ {l : List UInt8} {st : RF} {k : Nat}, st.Ok k → (RF.run l st).1.Ok (k + l.length)
  | [], _, _, h => h
  | c :: r, st, k, h => by
    unfold RF.run
    cases hs : st.step c with
    | none =>
      obtain ⟨h1, h2, h3, h4, h5, h6, h7, h8⟩ := h
      exact ⟨by simp; omega, h2, h3, h4, by simp; omega, by simp; omega, h7, h8⟩
    | some st' =>
      have := RF.Ok.run (l := r) (h.step hs)
      simp only [List.length_cons]
      rw [show k + (r.length + 1) = k + 1 + r.length by omega]
      exact this
theorem okM_saw : ∀ (l : List UInt8) {dot : Bool}, okM dot false l = true → okM dot true l = true
  | [], _, h => by simp [okM] at h
  | c :: r, dot, h => by
    unfold okM at h ⊢
    split at h
    · rename_i hd; rw [if_pos hd]; exact h
    · rename_i hd
      rw [if_neg hd]
      split at h
      · simp at h
      · simp at h
/-- What is left behind the mantissa of a text that is read. -/
def Rest (l : List UInt8) : Prop := l = [] ∨ ∃ c r, l = c :: r ∧ (c = 101 ∨ c = 69) ∧ okX r = true
theorem run_ok : ∀ (l : List UInt8) (st : RF) (saw : Bool), okM st.dot saw l = true → (saw = true → st.saw = true) → (RF.run l st).1.saw = true ∧ Rest (RF.run l st).2
  | [], st, saw, h, hs => ⟨hs (by simpa [okM] using h), .inl rfl⟩
  | c :: r, st, saw, h, hs => by
    unfold okM at h
    by_cases hd : isDig c = true
    · rw [if_pos hd] at h
      have h46 : ¬c = 46 := by rintro rfl; revert hd; decide
      unfold RF.run RF.step
      rw [if_neg h46, if_pos hd]
      split
      · rename_i st' e
        split at e
        · cases e; exact run_ok r _ true h fun _ => rfl
        · split at e
          · cases e; exact run_ok r _ true h fun _ => rfl
          · cases e; exact run_ok r _ true h fun _ => rfl
      · rename_i e
        split at e
        · cases e
        · split at e <;> cases e
    · rw [if_neg hd] at h
      by_cases h46 : c = 46
      · rw [if_pos h46] at h
        simp only [Bool.and_eq_true, Bool.not_eq_true'] at h
        obtain ⟨⟨h1, h2⟩, h3⟩ := h
        unfold RF.run RF.step
        rw [if_pos h46, h1]
        simp only [Bool.false_eq_true, if_false]
        have := run_ok r { st with dot := true, dp := st.nd } true
        have h4 := okM_saw r h3
        exact this h4 fun _ => hs h2
      · rw [if_neg h46] at h
        simp only [Bool.and_eq_true, Bool.or_eq_true, decide_eq_true_eq] at h
        obtain ⟨h1, h2, h3⟩ := h
        unfold RF.run RF.step
        rw [if_neg h46, if_neg hd]
        exact ⟨hs h2, .inr ⟨c, r, rfl, h1, h3⟩⟩
theorem exD_lt : ∀ (l : List UInt8) (e : Nat), l.all isDig = true → e < 100010 → exD l e < 100010
  | [], e, _, h => h
  | c :: r, e, hl, h => by
    simp only [List.all_cons, Bool.and_eq_true] at hl
    obtain ⟨hc, hr⟩ := hl
    simp only [isDig, Bool.and_eq_true, decide_eq_true_eq] at hc
    unfold exD
    refine exD_lt r _ hr ?_
    split
    · omega
    · exact h
end PF
/- What a value's text is read as, in plain Lean: numbers, quoted texts. No condition. -/
namespace PF
open Go
/-- Digits as a number. -/
def numD (l : List UInt8) : Nat := l.foldl (fun n c => n * 10 + (c.toNat - 48)) 0
theorem numD_foldl (l : List UInt8) (n : Nat) : l.foldl (fun n c => n * 10 + (c.toNat - 48)) n = n * 10 ^ l.length + numD l := by
  induction l generalizing n with
  | nil => simp [numD]
  | cons c t ih =>
    simp only [List.foldl_cons, List.length_cons, numD]
    rw [ih, ih (0 * 10 + (c.toNat - 48)), Nat.pow_succ]
    simp only [Nat.zero_mul, Nat.zero_add, Nat.add_mul]
    have : n * 10 * 10 ^ t.length = n * (10 ^ t.length * 10) := by rw [Nat.mul_assoc, Nat.mul_comm 10]
    omega
theorem numD_snoc (l : List UInt8) (c : UInt8) : numD (l ++ [c]) = numD l * 10 + (c.toNat - 48) := by
  unfold numD
  rw [List.foldl_append]
  rfl
theorem numD_le (a b : List UInt8) : numD a ≤ numD (a ++ b) := by
  unfold numD
  rw [List.foldl_append, numD_foldl b]
  have := Nat.pow_pos (n := b.length) (show 0 < 10 by omega)
  have : List.foldl (fun n c => n * 10 + (c.toNat - 48)) 0 a * 1 ≤ List.foldl (fun n c => n * 10 + (c.toNat - 48)) 0 a * 10 ^ b.length := Nat.mul_le_mul_left _ this
  omega
/-- An integer's text: the number, and the error's number. -/
def intP (l : List UInt8) : Int × Int :=
  if 1 ≤ (body l).length ∧ (body l).length ≤ 25 ∧ (body l).all isDig = true then
    if isNeg l then (if numD (body l) ≤ 9223372036854775808 then (-(numD (body l) : Int), 0) else (0, 3))
    else (if numD (body l) < 9223372036854775808 then ((numD (body l) : Int), 0) else (0, 3))
  else (0, 2)
theorem uintM (M : Nat) : ∀ (l : List UInt8) (acc : Nat), M = 18446744073709551615 → l.all isDig = true → acc ≤ M → Lib.parseUintM M acc l = if l.foldl (fun n c => n * 10 + (c.toNat - 48)) acc ≤ M then .ok (l.foldl (fun n c => n * 10 + (c.toNat - 48)) acc) else .range
  | [], acc, _, _, h => by simp [Lib.parseUintM, h]
  | c :: r, acc, hM, hl, h => by
    simp only [List.all_cons, Bool.and_eq_true] at hl
    have hc := hl.1
    simp only [isDig, Bool.and_eq_true, decide_eq_true_eq] at hc
    have hmono : acc * 10 + (c.toNat - 48) ≤ r.foldl (fun n c => n * 10 + (c.toNat - 48)) (acc * 10 + (c.toNat - 48)) := by
      rw [numD_foldl]
      have := Nat.pow_pos (n := r.length) (show 0 < 10 by omega)
      have : (acc * 10 + (c.toNat - 48)) * 1 ≤ (acc * 10 + (c.toNat - 48)) * 10 ^ r.length := Nat.mul_le_mul_left _ this
      omega
    unfold Lib.parseUintM
    rw [if_pos hc, List.foldl_cons]
    by_cases h1 : 1844674407370955162 ≤ acc
    · rw [if_pos h1, if_neg (by omega)]
    · rw [if_neg h1]
      by_cases h2 : M < acc * 10 + (c.toNat - 48)
      · rw [if_pos h2, if_neg (by omega)]
      · rw [if_neg h2, uintM M r _ hM hl.2 (by omega)]
theorem body_neg (r : List UInt8) : body (45 :: r) = r ∧ isNeg (45 :: r) = true := ⟨rfl, rfl⟩
theorem body_pos {l : List UInt8} (h : ∀ r, l ≠ 45 :: r) : body l = l ∧ isNeg l = false := by
  constructor
  · unfold body
    split
    · rename_i r; exact absurd rfl (h r)
    · rfl
  · unfold isNeg
    split
    · rename_i r; exact absurd rfl (h r)
    · rfl
/-- ParseInt at digits behind perhaps a sign. -/
theorem parseInt_eq {l : List UInt8} (h1 : 1 ≤ (body l).length) (h2 : (body l).all isDig = true) :
    Lib.parseIntB 64 l = if isNeg l then (if numD (body l) ≤ 9223372036854775808 then .ok (-(numD (body l) : Int)) else .range) else (if numD (body l) < 9223372036854775808 then .ok (numD (body l) : Int) else .range) := by
  have key : ∀ u : List UInt8, 1 ≤ u.length → u.all isDig = true → Lib.parseUintB 64 u = if numD u ≤ 18446744073709551615 then .ok (numD u) else .range := by
    intro u hu hd
    unfold Lib.parseUintB
    rw [if_neg (by intro e; rw [e] at hu; simp at hu), uintM (2 ^ 64 - 1) u 0 (by decide) hd (by omega)]
    rfl
  by_cases hc : ∃ r, l = 45 :: r
  · obtain ⟨r, rfl⟩ := hc
    rw [(body_neg r).1] at h1 h2 ⊢
    rw [(body_neg r).2, if_pos rfl]
    have k := key r h1 h2
    unfold Lib.parseIntB
    simp only
    rw [if_pos (by decide), k]
    by_cases h3 : numD r ≤ 9223372036854775808
    · rw [if_pos h3, if_pos (by omega)]
      simp only
      rw [if_neg (by rintro ⟨h, _⟩; exact h rfl), if_neg (by intro h; have h := h.2; simp at h; omega), if_pos (by decide)]
    · rw [if_neg h3]
      by_cases h4 : numD r ≤ 18446744073709551615
      · rw [if_pos h4]
        simp only
        rw [if_neg (by rintro ⟨h, _⟩; exact h rfl), if_pos ⟨by decide, by simp; omega⟩]
      · rw [if_neg h4]
  · have hb := body_pos (l := l) (fun r e => hc ⟨r, e⟩)
    rw [hb.1] at h1 h2 ⊢
    rw [hb.2, if_neg (by decide)]
    have k := key l h1 h2
    cases l with
    | nil => simp at h1
    | cons c r =>
      have hcd : isDig c = true := by simp only [List.all_cons, Bool.and_eq_true] at h2; exact h2.1
      simp only [isDig, Bool.and_eq_true, decide_eq_true_eq] at hcd
      have hn : ¬(c.toNat = 45) := by omega
      have hn2 : ¬(c.toNat = 43 ∨ c.toNat = 45) := by omega
      unfold Lib.parseIntB
      simp only
      rw [if_neg hn2, k]
      by_cases h3 : numD (c :: r) < 9223372036854775808
      · rw [if_pos h3, if_pos (by omega)]
        simp only
        rw [if_neg (by intro h; have h := h.2; simp at h; omega), if_neg (fun h => hn h.1), if_neg hn]
      · rw [if_neg h3]
        by_cases h4 : numD (c :: r) ≤ 18446744073709551615
        · rw [if_pos h4]
          simp only
          rw [if_pos ⟨hn, by simp; omega⟩]
        · rw [if_neg h4]
/-- What stands behind the digits of a float's text. -/
def tailE : List UInt8 → Bool
  | [] => true
  | c :: r => (decide (c = 101) || decide (c = 69)) && okX r
def tailM : List UInt8 → Bool
  | 46 :: r => !(r.takeWhile isDig).isEmpty && tailE (r.dropWhile isDig)
  | r => tailE r
theorem okM_digits (dot : Bool) : ∀ (l : List UInt8) (saw : Bool), okM dot saw l = okM dot (saw || !(l.takeWhile isDig).isEmpty) (l.dropWhile isDig)
  | [], saw => by simp
  | c :: r, saw => by
    by_cases h : isDig c = true
    · rw [List.takeWhile_cons, List.dropWhile_cons, if_pos h, if_pos h]
      conv => lhs; unfold okM
      rw [if_pos h, okM_digits dot r true]
      simp
    · rw [List.takeWhile_cons, List.dropWhile_cons, if_neg h, if_neg h]
      simp
theorem drop_head {l r : List UInt8} {c : UInt8} (h : l.dropWhile isDig = c :: r) : isDig c = false := by
  induction l with
  | nil => cases h
  | cons a t ih =>
    by_cases ha : isDig a = true
    · rw [List.dropWhile_cons, if_pos ha] at h; exact ih h
    · rw [List.dropWhile_cons, if_neg ha] at h
      injection h with h1 _
      rw [← h1]; simpa using ha
theorem okM_true {r : List UInt8} (h : ∀ c t, r = c :: t → isDig c = false) : okM true true r = tailE r := by
  cases r with
  | nil => rfl
  | cons c t =>
    have hc := h c t rfl
    unfold okM tailE
    rw [if_neg (by rw [hc]; decide)]
    by_cases h46 : c = 46
    · subst h46
      rw [if_pos rfl]
      rfl
    · rw [if_neg h46]; simp
/-- A float's text, part by part. -/
theorem okM_parts (l : List UInt8) : okM false false l = (!(l.takeWhile isDig).isEmpty && tailM (l.dropWhile isDig)) := by
  rw [okM_digits, Bool.false_or]
  have hh : ∀ c t, l.dropWhile isDig = c :: t → isDig c = false := fun c t h => drop_head h
  cases he : (l.takeWhile isDig).isEmpty with
  | true =>
    rw [Bool.not_true, Bool.false_and]
    cases hr : l.dropWhile isDig with
    | nil => rfl
    | cons c t =>
      have hc := hh c t hr
      unfold okM
      rw [if_neg (by rw [hc]; decide)]
      split <;> simp
  | false =>
    rw [Bool.not_false, Bool.true_and]
    cases hr : l.dropWhile isDig with
    | nil => rfl
    | cons c t =>
      have hc := hh c t hr
      by_cases h46 : c = 46
      · subst h46
        have e1 : okM false true (46 :: t) = okM true false t := by
          conv => lhs; unfold okM
          rw [if_neg (by rw [hc]; decide), if_pos rfl]
          rfl
        have e2 : tailM (46 :: t) = (!(t.takeWhile isDig).isEmpty && tailE (t.dropWhile isDig)) := rfl
        rw [e1, e2, okM_digits, Bool.false_or]
        cases ht : (t.takeWhile isDig).isEmpty with
        | true =>
          rw [Bool.not_true, Bool.false_and]
          cases hr2 : t.dropWhile isDig with
          | nil => rfl
          | cons d u =>
            have hd := drop_head hr2
            unfold okM
            rw [if_neg (by rw [hd]; decide)]
            split <;> simp
        | false =>
          rw [Bool.not_false, Bool.true_and]
          exact okM_true fun d u h => drop_head h
      · have e2 : tailM (c :: t) = tailE (c :: t) := by
          unfold tailM
          split
          · rename_i r h; injection h with h1 _; exact absurd h1 h46
          · rfl
        rw [e2]
        unfold okM tailE
        rw [if_neg (by rw [hc]; decide), if_neg h46]
        simp
/-- What stands between quotes, the last of them still there. -/
def unq : List UInt8 → Option (List UInt8)
  | [] => none
  | [c] => if c = 34 then some [] else none
  | c :: d :: r => if c = 34 ∨ c = 10 then none else if c = 92 then (if d = 34 ∨ d = 92 then (unq r).map (d :: ·) else if d = 110 then (unq r).map (10 :: ·) else none) else (unq (d :: r)).map (c :: ·)
end PF
/- Digits cut off a text; is a text a float's? No condition but its size. -/
namespace Go.Proofs.YtagiddbfhlokcaaGreatDoor
open Go.RowKit
set_option maxRecDepth 100000
/-- A text of bytes. -/
def bs (l : List UInt8) : ByteArray := ⟨l.toArray⟩
theorem bs_eta (s : ByteArray) : s = bs s.data.toList := by
  apply ByteArray.ext
  simp [bs]
theorem bs_list (l : List UInt8) : (bs l).data.toList = l := by simp [bs]
theorem bs_size (l : List UInt8) : (bs l).size = l.length := by simp [bs, ByteArray.size]
theorem bs_toList (l : List UInt8) : (bs l).toList = l := by rw [Lib.toList_data, bs_list]
theorem bs_get (l : List UInt8) (i : Nat) (h : i < (bs l).size) : (bs l)[i] = l[i]'(by rw [bs_size] at h; exact h) := by
  show (bs l).data[i] = _
  simp [bs]
theorem bs_tail (c : UInt8) (t : List UInt8) : (bs (c :: t)).extract 1 (bs (c :: t)).size = bs t := by
  apply ByteArray.ext
  apply Array.toList_inj.1
  rw [Lib.extract_data, bs_list, bs_list, bs_size]
  simp
theorem cut_digits (c : UInt8) : (List.contains [48, 49, 50, 51, 52, 53, 54, 55, 56, 57] c) = PF.isDig c := by
  have key : ∀ n : Fin 256, (List.contains [48, 49, 50, 51, 52, 53, 54, 55, 56, 57] (UInt8.ofNat n.val)) = PF.isDig (UInt8.ofNat n.val) := by decide +kernel
  have := key ⟨c.toNat, c.toNat_lt⟩
  simpa using this
theorem trim120 (l : List UInt8) (w : World) : Calls Tryz.prog 120 #[.string (bs l), .string ⟨#[48, 49, 50, 51, 52, 53, 54, 55, 56, 57]⟩] w fun e w' => e = .returned (.string (bs (l.dropWhile PF.isDig))) ∧ Below w.heap.size w w' := by
  refine (Any.strings_TrimLeft_laid Tryz.lays161 (by kernel_rfl) (bs l) ⟨#[48, 49, 50, 51, 52, 53, 54, 55, 56, 57]⟩ w (by decide) ?_).mono ?_
  · intro j b hb
    have : b ∈ [48, 49, 50, 51, 52, 53, 54, 55, 56, 57] := List.mem_of_getElem? hb
    simp at this
    rcases this with rfl | rfl | rfl | rfl | rfl | rfl | rfl | rfl | rfl | rfl <;> decide
  · rintro e w' ⟨rfl, h⟩
    refine ⟨?_, h⟩
    rw [bs_list]
    have e2 : Lib.trimLeftS l [48, 49, 50, 51, 52, 53, 54, 55, 56, 57] = l.dropWhile PF.isDig := by
      unfold Lib.trimLeftS
      congr 1
      funext c
      exact cut_digits c
    show Ending.returned (.string ⟨(Lib.trimLeftS l [48, 49, 50, 51, 52, 53, 54, 55, 56, 57]).toArray⟩) = _
    rw [e2]
    rfl
theorem take_drop_len (l : List UInt8) : (l.takeWhile PF.isDig).length + (l.dropWhile PF.isDig).length = l.length := by
  rw [← List.length_append, List.takeWhile_append_dropWhile]
theorem digits83 (l : List UInt8) (hl : l.length ≤ 281474976710656) (w : World) : Calls Tryz.prog 83 #[.string (bs l)] w fun e w' => e = .returned (.tuple #[.int .i64 ((l.takeWhile PF.isDig).length : Int), .string (bs (l.dropWhile PF.isDig))]) ∧ Below w.heap.size w w' := by
  have M := Lib.hid (trim120 l w)
  have ht := take_drop_len l
  obtain ⟨r, hr⟩ : ∃ r, l.dropWhile PF.isDig = r := ⟨_, rfl⟩
  obtain ⟨n, hn⟩ : ∃ n, (l.takeWhile PF.isDig).length = n := ⟨_, rfl⟩
  rw [hr] at M ht ⊢
  rw [hn] at ht ⊢
  have e1 : ((bs l).size : Int) - ((bs r).size : Int) = (n : Int) := by rw [bs_size, bs_size]; omega
  have b1 : (bs l).size ≤ 281474976710656 := by rw [bs_size]; exact hl
  have b2 : (bs r).size ≤ 281474976710656 := by rw [bs_size]; omega
  clear hr hn ht
  go_enter Tryz.func83, Tryz.ntmps83
  go_wp2_with fail
  refine M.out.mono ?_
  rintro e w2 ⟨rfl, hb⟩
  have HB := Lib.hid hb
  clear hb
  go_wp2_with fail
  go_ret2
  exact ⟨rfl, HB.out⟩
theorem trimMinus (l : List UInt8) : Lib.trimPrefix l [45] = PF.body l := by
  unfold Lib.trimPrefix Lib.hasPrefix
  by_cases hc : ∃ r, l = 45 :: r
  · obtain ⟨r, rfl⟩ := hc
    rw [(PF.body_neg r).1]
    simp
  · rw [(PF.body_pos fun r e => hc ⟨r, e⟩).1]
    cases l with
    | nil => simp
    | cons c r =>
      have : ¬(45 = c) := fun e => hc ⟨r, by rw [e]⟩
      simp [List.isPrefixOf, this]
theorem minus84 (l : List UInt8) (w : World) : Calls Tryz.prog 84 #[.string (bs l), .string ⟨#[45]⟩] w fun e w' => e = .returned (.string (bs (PF.body l))) ∧ w = w' := by
  refine (Tryz.strings_TrimPrefix (bs l) ⟨#[45]⟩ w).mono ?_
  rintro e w' ⟨rfl, h⟩
  refine ⟨?_, h.symm⟩
  rw [bs_list]
  show Ending.returned (.string ⟨(Lib.trimPrefix l [45]).toArray⟩) = _
  rw [trimMinus]
  rfl
/-- The text behind perhaps a dot and digits; is all well? -/
def dotP (ok : Bool) (r : List UInt8) : Bool × List UInt8 := match r with
  | 46 :: t => (ok && !(t.takeWhile PF.isDig).isEmpty, t.dropWhile PF.isDig)
  | _ => (ok, r)
def strip (t : List UInt8) : List UInt8 := match t with
  | 43 :: u => u
  | 45 :: u => u
  | _ => t
def expP (ok : Bool) (r : List UInt8) : Bool × List UInt8 := match r with
  | c :: t => if c = 101 ∨ c = 69 then (ok && !((strip t).takeWhile PF.isDig).isEmpty, (strip t).dropWhile PF.isDig) else (ok, r)
  | [] => (ok, [])
theorem drop_all : ∀ l : List UInt8, (l.dropWhile PF.isDig).isEmpty = l.all PF.isDig
  | [] => rfl
  | c :: t => by
    by_cases hc : PF.isDig c = true
    · rw [List.dropWhile_cons, if_pos hc, drop_all t, List.all_cons, hc, Bool.true_and]
    · rw [List.dropWhile_cons, if_neg hc, List.all_cons]
      simp [hc]
theorem okD_parts (u : List UInt8) : PF.okD u = (!(u.takeWhile PF.isDig).isEmpty && (u.dropWhile PF.isDig).isEmpty) := by
  unfold PF.okD
  cases u with
  | nil => rfl
  | cons c t =>
    by_cases hc : PF.isDig c = true
    · rw [List.takeWhile_cons, List.dropWhile_cons, if_pos hc, if_pos hc]
      simp only [List.isEmpty_cons, Bool.not_false, Bool.true_and, List.all_cons, hc]
      rw [drop_all]
    · rw [List.takeWhile_cons, List.dropWhile_cons, if_neg hc, if_neg hc]
      simp [hc]
theorem okX_strip (t : List UInt8) : PF.okX t = PF.okD (strip t) := by
  cases t with
  | nil => rfl
  | cons c u =>
    show (if c = 43 ∨ c = 45 then PF.okD u else PF.okD (c :: u)) = _
    by_cases h1 : c = 43
    · subst h1; rw [if_pos (.inl rfl)]; rfl
    · by_cases h2 : c = 45
      · subst h2; rw [if_pos (.inr rfl)]; rfl
      · rw [if_neg (by simp [h1, h2])]
        have : strip (c :: u) = c :: u := by
          unfold strip
          split
          · rename_i v h; injection h with h _; exact absurd h h1
          · rename_i v h; injection h with h _; exact absurd h h2
          · rfl
        rw [this]
theorem expP_ok (ok : Bool) (r : List UInt8) : ((expP ok r).1 && (expP ok r).2.isEmpty) = (ok && PF.tailE r) := by
  cases r with
  | nil => simp [expP, PF.tailE]
  | cons c t =>
    unfold expP PF.tailE
    simp only
    by_cases hc : c = 101 ∨ c = 69
    · rw [if_pos hc, okX_strip, okD_parts]
      have : (decide (c = 101) || decide (c = 69)) = true := by simpa using hc
      rw [this]
      cases ok <;> simp
    · rw [if_neg hc]
      have : (decide (c = 101) || decide (c = 69)) = false := by simpa using hc
      rw [this]
      simp
theorem dotP_ok (ok : Bool) (r : List UInt8) : ((expP (dotP ok r).1 (dotP ok r).2).1 && (expP (dotP ok r).1 (dotP ok r).2).2.isEmpty) = (ok && PF.tailM r) := by
  rw [expP_ok]
  by_cases hc : ∃ t, r = 46 :: t
  · obtain ⟨t, rfl⟩ := hc
    show (ok && !(t.takeWhile PF.isDig).isEmpty && PF.tailE (t.dropWhile PF.isDig)) = (ok && (!(t.takeWhile PF.isDig).isEmpty && PF.tailE (t.dropWhile PF.isDig)))
    rw [Bool.and_assoc]
  · have e1 : dotP ok r = (ok, r) := by
      unfold dotP
      split
      · rename_i t; exact absurd ⟨t, rfl⟩ hc
      · rfl
    have e2 : PF.tailM r = PF.tailE r := by
      unfold PF.tailM
      split
      · rename_i t; exact absurd ⟨t, rfl⟩ hc
      · rfl
    rw [e1, e2]
def headIs (c : UInt8) : List UInt8 → Bool
  | a :: _ => decide (a = c)
  | [] => false
theorem hasP (r : List UInt8) (c : UInt8) (w : World) : Calls Tryz.prog 41 #[.string (bs r), .string ⟨#[c]⟩] w fun e w' => e = .returned (.bool (headIs c r)) ∧ w = w' := by
  refine (Tryz.strings_HasPrefix (bs r) ⟨#[c]⟩ w).mono ?_
  rintro e w' ⟨rfl, h⟩
  refine ⟨?_, h.symm⟩
  rw [bs_list]
  cases r with
  | nil => rfl
  | cons a t =>
    show Ending.returned (.bool (Lib.hasPrefix (a :: t) [c])) = _
    unfold Lib.hasPrefix headIs
    by_cases h : a = c
    · subst h; simp
    · have h' : ¬c = a := fun e => h e.symm
      simp [List.isPrefixOf, h, h']
theorem dotP_no {r : List UInt8} (ok : Bool) (h : ∀ t, r ≠ 46 :: t) : dotP ok r = (ok, r) := by
  unfold dotP
  split
  · rename_i t; exact absurd rfl (h t)
  · rfl
theorem head_no {r : List UInt8} {c : UInt8} (h : ∀ t, r ≠ c :: t) : headIs c r = false := by
  cases r with
  | nil => rfl
  | cons a t => exact decide_eq_false fun e => h t (by rw [e])
def isE : List UInt8 → Bool
  | c :: _ => decide (c = 101) || decide (c = 69)
  | [] => false
def isS : List UInt8 → Bool
  | c :: _ => decide (c = 43) || decide (c = 45)
  | [] => false
theorem bs_head {r : List UInt8} {c : UInt8} {t : List UInt8} (e : r = c :: t) : ∃ h : 0 < (bs r).size, (bs r)[0] = c ∧ (bs r).toList.isEmpty = false ∧ (0 : Int) < ((bs r).size : Int) ∧ (1 : Int) ≤ ((bs r).size : Int) ∧ (bs r).extract 1 (bs r).size = bs t := by
  subst e
  have h : 0 < (bs (c :: t)).size := by rw [bs_size]; simp
  exact ⟨h, bs_get _ 0 h, by rw [bs_toList]; rfl, by omega, by omega, bs_tail c t⟩
theorem list_cases (r : List UInt8) : r = [] ∨ ∃ c t, r = c :: t := by
  cases r with
  | nil => exact .inl rfl
  | cons c t => exact .inr ⟨c, t, rfl⟩
theorem bs_nil {r : List UInt8} (e : r = []) : (bs r).toList.isEmpty = true := by rw [bs_toList, e]; rfl
theorem strip_no {t : List UInt8} (h : isS t = false) : strip t = t := by
  cases t with
  | nil => rfl
  | cons c u =>
    simp only [isS, Bool.or_eq_false_iff, decide_eq_false_iff_not] at h
    unfold strip
    split
    · rename_i v e; injection e with e _; exact absurd e h.1
    · rename_i v e; injection e with e _; exact absurd e h.2
    · rfl
theorem strip_yes {t : List UInt8} (h : isS t = true) : ∃ c u, t = c :: u ∧ strip t = u := by
  cases t with
  | nil => cases h
  | cons c u =>
    refine ⟨c, u, rfl, ?_⟩
    simp only [isS, Bool.or_eq_true, decide_eq_true_eq] at h
    rcases h with rfl | rfl <;> rfl
theorem expP_yes {r : List UInt8} (ok : Bool) (h : isE r = true) : ∃ c t, r = c :: t ∧ expP ok r = (ok && !((strip t).takeWhile PF.isDig).isEmpty, (strip t).dropWhile PF.isDig) := by
  cases r with
  | nil => cases h
  | cons c t =>
    refine ⟨c, t, rfl, ?_⟩
    simp only [isE, Bool.or_eq_true, decide_eq_true_eq] at h
    unfold expP
    simp only
    rw [if_pos h]
set_option maxHeartbeats 4000000 in
theorem decimal58 (l : List UInt8) (hl : l.length ≤ 281474976710656) (w : World) : Calls Tryz.prog 58 #[.string (bs l)] w fun e w' => e = .returned (.bool (PF.decB l)) ∧ Below w.heap.size w w' := by
  have hbl : (PF.body l).length ≤ 281474976710656 := by
    unfold PF.body
    split
    · rename_i r; simp at hl; omega
    · exact hl
  obtain ⟨ok1, hok1⟩ : ∃ b : Bool, (!((PF.body l).takeWhile PF.isDig).isEmpty && decide (l.length ≤ 400)) = b := ⟨_, rfl⟩
  obtain ⟨r1, hr1⟩ : ∃ r, (PF.body l).dropWhile PF.isDig = r := ⟨_, rfl⟩
  obtain ⟨n1, hn1⟩ : ∃ n, ((PF.body l).takeWhile PF.isDig).length = n := ⟨_, rfl⟩
  obtain ⟨R, hR⟩ : ∃ R, PF.decB l = R := ⟨_, rfl⟩
  have hfin : ((expP (dotP ok1 r1).1 (dotP ok1 r1).2).1 && (expP (dotP ok1 r1).1 (dotP ok1 r1).2).2.isEmpty) = R := by
    rw [dotP_ok, ← hR, ← hok1, ← hr1]
    unfold PF.decB
    rw [PF.okM_parts, Bool.and_right_comm]
  have hr1l : r1.length ≤ 281474976710656 := by have := take_drop_len (PF.body l); rw [hr1] at this; omega
  have M84 := Lib.hid (fun w => minus84 l w)
  have M83 := Lib.hid (fun w => digits83 (PF.body l) hbl w)
  rw [hr1, hn1] at M83
  rw [hR]
  have HFIN := Lib.hid hfin
  have HOK1 := Lib.hid hok1
  have HN1 := Lib.hid hn1
  have bl : (bs l).size ≤ 281474976710656 := by rw [bs_size]; exact hl
  have HBL : Hid ((bs l).size = l.length) := Lib.hid (bs_size l)
  clear hfin hok1 hr1 hn1 hR hbl
  go_enter Tryz.func58, Tryz.ntmps58
  go_wp2_with fail
  refine (M84.out _).mono ?_
  rintro e w' ⟨rfl, rfl⟩
  go_wp2_with fail
  refine (M83.out _).mono ?_
  rintro e w2 ⟨rfl, hb2⟩
  have HB2 := Lib.hid hb2
  clear hb2
  go_upto_region 2 with (fail)
  go_cut [5] from 12 to 18 (fun o w' => o = .bool ok1 ∧ w2 = w')
  case first =>
    have hok := HOK1.out
    have hn := HN1.out
    cases ht : (PF.body l).takeWhile PF.isDig with
    | nil =>
      rw [ht] at hok hn
      obtain rfl : n1 = 0 := by rw [← hn]; rfl
      obtain rfl : false = ok1 := by rw [← hok]; rfl
      clear hok hn ht
      go_wp2_with fail
      go_meet
      case rel => exact ⟨rfl, rfl⟩
    | cons a t =>
      rw [ht] at hok hn
      have n1p : (0 : Int) < (n1 : Int) := by rw [← hn]; simp
      have ho : decide (l.length ≤ 400) = ok1 := by rw [← hok]; rfl
      have ho2 : decide (((bs l).size : Int) ≤ 400) = ok1 := by rw [← ho, HBL.out]; exact decide_eq_decide.2 (by omega)
      clear hok hn ht ho
      go_wp2_with fail
      go_meet
      case rel => exact ⟨rfl, rfl⟩
  case rest =>
    obtain ⟨rfl, rfl⟩ := hcut
    obtain ⟨d, hd⟩ : ∃ d, dotP ok1 r1 = d := ⟨_, rfl⟩
    have hfin := HFIN.out
    rw [hd] at hfin
    have HFIN2 := Lib.hid hfin
    have HD := Lib.hid hd
    have hd2 : d.2.length ≤ 281474976710656 := by
      rw [← hd]
      unfold dotP
      split
      · rename_i t
        have := take_drop_len t
        simp at hr1l
        simp only
        omega
      · exact hr1l
    have HD2 := Lib.hid hd2
    have HR1 := Lib.hid hr1l
    clear hd hfin HFIN hd2 hr1l
    obtain ⟨h46, hh46⟩ : ∃ b, headIs 46 r1 = b := ⟨_, rfl⟩
    have M41 := Lib.hid (fun w => hasP r1 46 w)
    rw [hh46] at M41
    have H46 := Lib.hid hh46
    clear hh46
    go_wp2_with fail
    refine (M41.out _).mono ?_
    rintro e w' ⟨rfl, rfl⟩
    go_upto_if 20 with (fail)
    go_cut [3, 4, 5] from 20 to 31 (fun n r o w' => (∃ z : Int, n = .int .i64 z) ∧ r = .string (bs d.2) ∧ o = .bool d.1 ∧ Below w.heap.size w w')
    case first =>
      by_cases hc : ∃ t, r1 = 46 :: t
      · obtain ⟨t, rfl⟩ := hc
        have ht := bs_tail 46 t
        obtain rfl : h46 = true := H46.out.symm
        have hsz : ((bs (46 :: t)).size : Int) = (t.length : Int) + 1 := by rw [bs_size]; simp
        have h1 : (1 : Int) ≤ ((bs (46 :: t)).size : Int) := by omega
        have htl : t.length ≤ 281474976710656 := by have := HR1.out; simp at this; omega
        have M := Lib.hid (fun w => digits83 t htl w)
        have hdd := HD.out
        have e1 : dotP ok1 (46 :: t) = (ok1 && !(t.takeWhile PF.isDig).isEmpty, t.dropWhile PF.isDig) := rfl
        rw [e1] at hdd
        have HDD := Lib.hid hdd
        have HSZ := Lib.hid hsz
        clear hdd e1 hsz
        go_wp2_with fail
        refine (M.out _).mono ?_
        rintro e w3 ⟨rfl, hb3⟩
        have HB3 := Lib.hid (HB2.out.trans (hb3.mono HB2.out.size))
        clear hb3
        cases hk : t.takeWhile PF.isDig with
        | nil =>
          have hdd := HDD.out
          rw [hk] at hdd
          have HDE := Lib.hid hdd
          clear hdd
          cases ok1
          · go_wp2_with fail
            go_meet
            case rel => exact ⟨⟨_, rfl⟩, by rw [← HDE.out], by rw [← HDE.out]; rfl, HB3.out⟩
          · go_wp2_with fail
            go_meet
            case rel => exact ⟨⟨_, rfl⟩, by rw [← HDE.out], by rw [← HDE.out]; rfl, HB3.out⟩
        | cons a u =>
          have hdd := HDD.out
          rw [hk] at hdd
          have HDE := Lib.hid hdd
          have u1 : (0 : Int) < ((u.length + 1 : Nat) : Int) := by omega
          clear hdd
          cases ok1
          · go_wp2_with fail
            go_meet
            case rel => exact ⟨⟨_, rfl⟩, by rw [← HDE.out], by rw [← HDE.out]; rfl, HB3.out⟩
          · go_wp2_with fail
            go_meet
            case rel => exact ⟨⟨_, rfl⟩, by rw [← HDE.out], by rw [← HDE.out]; rfl, HB3.out⟩
      · have hdd := HD.out
        have hno : ∀ t, r1 ≠ 46 :: t := fun t e => hc ⟨t, e⟩
        rw [dotP_no ok1 hno] at hdd
        have HDD := Lib.hid hdd
        obtain rfl : h46 = false := by rw [← H46.out]; exact head_no hno
        clear hdd hc hno
        go_wp2_with fail
        go_meet
        case rel => exact ⟨⟨_, rfl⟩, by rw [← HDD.out], by rw [← HDD.out], HB2.out⟩
    case rest =>
      obtain ⟨⟨z, rfl⟩, rfl, rfl, hb⟩ := hcut
      rename World => w3
      obtain ⟨ok2, r2⟩ := d
      simp only at HFIN2 HD2 ⊢
      have HB3 := Lib.hid hb
      obtain ⟨bE, hbE⟩ : ∃ b, isE r2 = b := ⟨_, rfl⟩
      have HBE := Lib.hid hbE
      clear hb hbE HD
      go_upto_region 6 with (fail)
      go_cut [43] from 32 to 43 (fun t w' => t = .bool bE ∧ w3 = w')
      case first =>
        have hbe := HBE.out
        rcases list_cases r2 with hrc | ⟨c, t, hrc⟩
        · have e0 := bs_nil hrc
          rw [hrc] at hbe
          obtain rfl : false = bE := hbe
          clear hrc
          go_wp2_with fail
          go_meet
          case rel => exact ⟨rfl, rfl⟩
        · obtain ⟨hsz, hg, hem, h0i, h1i, htl⟩ := bs_head hrc
          rw [hrc] at hbe
          clear hrc htl
          by_cases h1 : c = 101
          · obtain rfl : true = bE := by rw [← hbe, h1]; rfl
            have c1 : ((c.toNat : Int) == 101) = true := by rw [h1]; rfl
            clear h1 hbe
            go_wp2_with fail
            go_meet
            case rel => exact ⟨rfl, rfl⟩
          · have c1 : ((c.toNat : Int) == 101) = false := by rw [beq_eq_false_iff_ne]; intro h; exact h1 (UInt8.toNat_inj.1 (by have : (101 : UInt8).toNat = 101 := rfl; omega))
            by_cases h2 : c = 69
            · obtain rfl : true = bE := by rw [← hbe, h2]; rfl
              have c2 : ((c.toNat : Int) == 69) = true := by rw [h2]; rfl
              clear h1 h2 hbe
              go_wp2_with fail
              go_meet
              case rel => exact ⟨rfl, rfl⟩
            · obtain rfl : false = bE := by rw [← hbe]; simp [isE, h1, h2]
              have c2 : ((c.toNat : Int) == 69) = false := by rw [beq_eq_false_iff_ne]; intro h; exact h2 (UInt8.toNat_inj.1 (by have : (69 : UInt8).toNat = 69 := rfl; omega))
              clear h1 h2 hbe
              go_wp2_with fail
              go_meet
              case rel => exact ⟨rfl, rfl⟩
      case rest =>
        obtain ⟨rfl, rfl⟩ := hcut
        obtain ⟨x, hx⟩ : ∃ x, expP ok2 r2 = x := ⟨_, rfl⟩
        have HX := Lib.hid hx
        have hfin := HFIN2.out
        rw [hx] at hfin
        have HF := Lib.hid hfin
        clear hx hfin HFIN2
        go_upto_if 43 with (fail)
        go_cut [3, 4, 5] from 44 to 69 (fun n r o w' => (∃ z : Int, n = .int .i64 z) ∧ r = .string (bs x.2) ∧ o = .bool x.1 ∧ Below w.heap.size w w')
        case first =>
          have hbe := HBE.out
          have hxx := HX.out
          cases bE with
          | false =>
            have he : expP ok2 r2 = (ok2, r2) := by
              cases r2 with
              | nil => rfl
              | cons c t => 
                have : ¬(c = 101 ∨ c = 69) := by simpa [isE] using hbe
                unfold expP
                simp only
                rw [if_neg this]
            rw [he] at hxx
            have HXX := Lib.hid hxx
            clear hbe hxx he
            go_wp2_with fail
            go_meet
            case rel => exact ⟨⟨_, rfl⟩, by rw [← HXX.out], by rw [← HXX.out], HB3.out⟩
          | true =>
            obtain ⟨c, t, hrc, he⟩ := expP_yes ok2 hbe
            rw [he] at hxx
            have HXX := Lib.hid hxx
            obtain ⟨hsz, hg, hem, h0i, h1i, htl⟩ := bs_head hrc
            have htlen : t.length ≤ 281474976710656 := by have := HD2.out; rw [hrc] at this; simp at this; omega
            obtain ⟨bS, hbS⟩ : ∃ b, isS t = b := ⟨_, rfl⟩
            have HBS := Lib.hid hbS
            have HTL := Lib.hid htlen
            clear hbe hxx he hrc hbS htlen
            go_upto_region 8 with (fail)
            go_cut [57] from 46 to 57 (fun q w' => q = .bool bS ∧ w3 = w')
            case first =>
              have hbs := HBS.out
              rcases list_cases t with htc | ⟨d, u, htc⟩
              · have e0 := bs_nil htc
                rw [htc] at hbs
                obtain rfl : false = bS := hbs
                clear htc
                go_wp2_with fail
                go_meet
                case rel => exact ⟨rfl, rfl⟩
              · obtain ⟨hsz2, hg2, hem2, h0i2, h1i2, htl2⟩ := bs_head htc
                rw [htc] at hbs
                clear htc htl2
                by_cases h1 : d = 43
                · obtain rfl : true = bS := by rw [← hbs, h1]; rfl
                  have c1 : ((d.toNat : Int) == 43) = true := by rw [h1]; rfl
                  clear h1 hbs
                  go_wp2_with fail
                  go_meet
                  case rel => exact ⟨rfl, rfl⟩
                · have c1 : ((d.toNat : Int) == 43) = false := by rw [beq_eq_false_iff_ne]; intro h; exact h1 (UInt8.toNat_inj.1 (by have : (43 : UInt8).toNat = 43 := rfl; omega))
                  by_cases h2 : d = 45
                  · obtain rfl : true = bS := by rw [← hbs, h2]; rfl
                    have c2 : ((d.toNat : Int) == 45) = true := by rw [h2]; rfl
                    clear h1 h2 hbs
                    go_wp2_with fail
                    go_meet
                    case rel => exact ⟨rfl, rfl⟩
                  · obtain rfl : false = bS := by rw [← hbs]; simp [isS, h1, h2]
                    have c2 : ((d.toNat : Int) == 45) = false := by rw [beq_eq_false_iff_ne]; intro h; exact h2 (UInt8.toNat_inj.1 (by have : (45 : UInt8).toNat = 45 := rfl; omega))
                    clear h1 h2 hbs
                    go_wp2_with fail
                    go_meet
                    case rel => exact ⟨rfl, rfl⟩
            case rest =>
              obtain ⟨rfl, rfl⟩ := hcut
              obtain ⟨v, hv⟩ : ∃ v, strip t = v := ⟨_, rfl⟩
              rw [hv] at HXX
              have hvl : v.length ≤ 281474976710656 := by
                have := HTL.out
                cases bS with
                | false => rw [← hv, strip_no HBS.out]; exact this
                | true =>
                  obtain ⟨d, u, h1, h2⟩ := strip_yes HBS.out
                  rw [h2] at hv
                  rw [h1] at this
                  rw [← hv]
                  simp at this
                  omega
              have M := Lib.hid (fun w => digits83 v hvl w)
              have HVV := Lib.hid hv
              clear hv hvl
              go_upto_if 57 with (fail)
              go_cut [4] from 58 to 59 (fun r w' => r = .string (bs v) ∧ w3 = w')
              case first =>
                cases bS with
                | false =>
                  have hv2 : t = v := by rw [← HVV.out, strip_no HBS.out]
                  have HV2 := Lib.hid hv2
                  clear hv2
                  go_wp2_with fail
                  go_meet
                  case rel => exact ⟨by rw [HV2.out], rfl⟩
                | true =>
                  obtain ⟨d, u, h1, h2⟩ := strip_yes HBS.out
                  obtain ⟨hsz2, hg2, hem2, h0i2, h1i2, htl2⟩ := bs_head h1
                  have HV2 : Hid (u = v) := Lib.hid (by rw [← HVV.out, h2])
                  clear h1 h2
                  go_wp2_with fail
                  go_meet
                  case rel => exact ⟨by rw [HV2.out], rfl⟩
              case rest =>
                obtain ⟨rfl, rfl⟩ := hcut
                go_wp2_with fail
                refine (M.out _).mono ?_
                rintro e w5 ⟨rfl, hb5⟩
                have HB5 := Lib.hid (HB3.out.trans (hb5.mono HB3.out.size))
                clear hb5
                have hxx := HXX.out
                rcases list_cases (v.takeWhile PF.isDig) with hk | ⟨a, u, hk⟩
                · rw [hk] at hxx ⊢
                  have HXY := Lib.hid hxx
                  clear hxx hk
                  cases ok2
                  · go_wp2_with fail
                    go_meet
                    case rel => exact ⟨⟨_, rfl⟩, by rw [← HXY.out], by rw [← HXY.out]; rfl, HB5.out⟩
                  · go_wp2_with fail
                    go_meet
                    case rel => exact ⟨⟨_, rfl⟩, by rw [← HXY.out], by rw [← HXY.out]; rfl, HB5.out⟩
                · rw [hk] at hxx ⊢
                  have HXY := Lib.hid hxx
                  have u1 : (0 : Int) < ((u.length + 1 : Nat) : Int) := by omega
                  clear hxx hk
                  cases ok2
                  · go_wp2_with fail
                    go_meet
                    case rel => exact ⟨⟨_, rfl⟩, by rw [← HXY.out], by rw [← HXY.out]; rfl, HB5.out⟩
                  · go_wp2_with fail
                    go_meet
                    case rel => exact ⟨⟨_, rfl⟩, by rw [← HXY.out], by rw [← HXY.out]; rfl, HB5.out⟩
        case rest =>
          obtain ⟨⟨z2, rfl⟩, rfl, rfl, hb⟩ := hcut
          rename World => w4
          obtain ⟨ok3, r3⟩ := x
          have hf := HF.out
          simp only at hf
          have HF2 := Lib.hid hf
          have HB4 := Lib.hid hb
          clear hf hb
          cases ok3 with
          | false =>
            go_wp2_with fail
            go_ret
            exact ⟨by rw [← HF2.out]; rfl, HB4.out⟩
          | true =>
            rcases list_cases r3 with hrc | ⟨c, t, hrc⟩
            · have e0 := bs_nil hrc
              rw [hrc] at HF2
              clear hrc
              go_wp2_with fail
              go_ret
              exact ⟨by rw [← HF2.out]; rfl, HB4.out⟩
            · obtain ⟨hsz, hg, hem, h0i, h1i, htl⟩ := bs_head hrc
              rw [hrc] at HF2
              clear hrc htl
              go_wp2_with fail
              go_ret
              exact ⟨by rw [← HF2.out]; rfl, HB4.out⟩
end Go.Proofs.YtagiddbfhlokcaaGreatDoor
/- The builder's two writers at this dump: copyCheck and WriteByte, after the shelf's own proofs (the dump's copyCheck bears a refused panic, so the shelf's laying does not fit). Condition: a builder of the call's own, of fewer than 2^47 bytes. -/
namespace Go.Proofs.YtagiddbfhlokcaaGreatDoor
open Go.RowKit
set_option maxRecDepth 100000
theorem sizeBuilder : (Tryz.prog.info? 117).map (·.size) = some 2 := by kernel_rfl
theorem info5b : (Tryz.prog.info? 5).map (fun i => (i.zero, i.size, i.bytes)) = some (some (.int .u8 0), 1, 1) := by kernel_rfl
theorem liesBuilder : liesAt Tryz.prog Tryz.prog.depth 117 (2 / Tryz.prog.cellsOf 117) 0 117 1 = true := by kernel_rfl
theorem copyCheck_used (b : Nat) (w : World) (h0 : w.cell? ⟨b, 0, none⟩ = some (.pointer (some ⟨b, 0, none⟩))) :
    Calls Tryz.prog 108 #[.pointer (some ⟨b, 0, none⟩)] w fun e w' => e = .returned (.tuple #[]) ∧ w = w' := by
  obtain ⟨j, hj, _⟩ := Option.map_eq_some_iff.1 sizeBuilder
  go_enter Tryz.func108, Tryz.ntmps108
  go_wp2
  rw [Lib.run_neq_ptr_same w _ Tryz.underlying115 hj]
  go_wp2
  go_end0
  exact ⟨rfl, rfl⟩
theorem copyCheck_fresh (b : Nat) (w : World) (h0 : w.cell? ⟨b, 0, none⟩ = some (.pointer none)) (hsh : w.shape? b = some (117, 2)) (hfz : w.frozen? ⟨b, 0, none⟩ = false) :
    Calls Tryz.prog 108 #[.pointer (some ⟨b, 0, none⟩)] w fun e w' => e = .returned (.tuple #[]) ∧ w.setCell ⟨b, 0, none⟩ (.pointer (some ⟨b, 0, none⟩)) = w' := by
  obtain ⟨j, hj, hjs⟩ := Option.map_eq_some_iff.1 sizeBuilder
  go_enter Tryz.func108, Tryz.ntmps108
  go_wp2
  rw [Lib.run_to_unsafe w ⟨b, 0, none⟩ Tryz.underlying115 Tryz.underlying196 hj (by rw [hjs]; decide) hsh (Nat.zero_lt_succ 1)]
  simp only [Result.andThen]
  rw [Oper.upon_value]
  go_wp2
  rw [run_callFunc_extern Tryz.func157 (by kernel_rfl) (by kernel_rfl) (by kernel_rfl) (e := Extern.AbiNoEscape.same) (by kernel_rfl)]
  rw [Lib.run_noEscape]
  simp only [Result.andThen]
  rw [Oper.upon_value]
  go_wp2
  rw [Lib.run_from_unsafe w ⟨b, 0, none⟩ Tryz.underlying196 Tryz.underlying115 hj hsh liesBuilder]
  simp only [Result.andThen]
  rw [Oper.upon_value]
  go_wp2
  go_end0
  exact ⟨rfl, rfl⟩
theorem copyCheck (B b : Nat) (bs : List Value) (w : World) (h : Lib.IsBuilder 117 5 B b bs w) :
    Calls Tryz.prog 108 #[.pointer (some ⟨b, 0, none⟩)] w fun e w' => e = .returned (.tuple #[]) ∧ (Lib.BuilderAt 117 5 B b (.pointer (some ⟨b, 0, none⟩)) bs w' ∧ Below B w w') := by
  rcases h with h | h
  · refine (copyCheck_fresh b w h.cell0 h.shape h.frozen0).mono ?_
    rintro e w' ⟨rfl, rfl⟩
    exact ⟨rfl, h.used _, (Below.refl B w).setCell (p := ⟨b, 0, none⟩) h.1 _⟩
  · refine (copyCheck_used b w h.cell0).mono ?_
    rintro e w' ⟨rfl, rfl⟩
    exact ⟨rfl, h, Below.refl B _⟩
theorem writeByte (B b : Nat) (bs : List Value) (c : Int) (w : World) (h : Lib.IsBuilder 117 5 B b bs w) (hlen : bs.length + 1 ≤ 140737488355328) (hBw : B ≤ w.heap.size) :
    Calls Tryz.prog 71 #[.pointer (some ⟨b, 0, none⟩), .int .u8 c] w fun e w' => e = .returned .nilIface ∧ (Lib.BuilderAt 117 5 B b (.pointer (some ⟨b, 0, none⟩)) (bs ++ [.int .u8 c]) w' ∧ Below B w w') := by
  obtain ⟨i0, hi, hz0, hz1, hz2⟩ := info_parts info5b
  go_enter Tryz.func71, Tryz.ntmps71
  go_wp2_with (go_at_call 108; refine (copyCheck B b bs _ h).mono ?_)
  rintro e w1 ⟨rfl, h1, hb1⟩
  obtain ⟨hB, v, hbk, hown, hne⟩ := h1
  have c0 : w1.cell? ⟨b, 0, none⟩ = some (.pointer (some ⟨b, 0, none⟩)) := by rw [Lib.cell_of_heap hbk]; rfl
  have c1 : w1.cell? ⟨b, 1, none⟩ = some v := by rw [Lib.cell_of_heap hbk]; rfl
  go_wp2_with (at_builtin; refine wpList_append_own _ rfl _ _ 59 rfl B 5 i0 (.int .u8 0) 1 1 Tryz.underlying59 hi hz0 hz1 hz2 rfl (by decide) _ _ _ rfl (hown.alloc _) ⟨w1.heap.size, 0, none⟩ 1 1 [.int .u8 c] rfl rfl ?c1 ?c2 ?c3 ?c4 ?c5 ?_)
  case c1 =>
    intro j u hj
    match j, hj with
    | 0, hj => simp at hj; subst hj; simp [Addr.add]
  case c2 => intro u hu; simp at hu; subst hu; rfl
  case c3 => unfold maxLen; omega
  case c4 => omega
  case c5 => have := hb1.size; simp; omega
  intro v' w2 hown' hgrow _
  have hlt : b < w1.heap.size := by
    rcases Nat.lt_or_ge b w1.heap.size with h' | h'
    · exact h'
    · simp [Array.getElem?_eq_none h'] at hbk
  have hb2 : w2.heap[b]? = some (.cells #[.pointer (some ⟨b, 0, none⟩), v] 117 (0, 0)) := by
    rw [hgrow.block b (by simp; omega) (fun e => hne e.symm), Lib.alloc_old w1 _ b hlt]
    exact hbk
  have d0 : w2.cell? ⟨b, 0, none⟩ = some (.pointer (some ⟨b, 0, none⟩)) := by rw [Lib.cell_of_heap hb2]; rfl
  have d1 : w2.cell? ⟨b, 1, none⟩ = some v := by rw [Lib.cell_of_heap hb2]; rfl
  have f1 : w2.frozen? ⟨b, 1, none⟩ = false := Lib.frozen_of_heap hb2 1
  obtain ⟨g, cap, rfl⟩ : ∃ g cap, v' = .slice (some ⟨g, 0, none⟩) (bs.length + 1) cap := by
    rcases hown'.2 with ⟨_, h0⟩ | ⟨g, cap, cur, hv, _⟩
    · omega
    · exact ⟨g, cap, hv⟩
  go_wp2
  go_ret
  refine ⟨rfl, ?_, ?_⟩
  · exact Lib.BuilderAt.put (T := 117) (e := 5) hB hb2 (bs' := bs ++ [.int .u8 c]) (by simpa using hown') (by decide)
  · exact ((hb1.alloc (by have := hb1.size; omega) _).grown hgrow (by have := hb1.size; simp; omega) (fun k hk => (hown.lt k hk).1)).setCell (p := ⟨b, 1, none⟩) hB _
end Go.Proofs.YtagiddbfhlokcaaGreatDoor
/- A quoted text is read: value's unquote. Condition: the text's length. -/
namespace Go.Proofs.YtagiddbfhlokcaaGreatDoor
open Go.RowKit
set_option maxRecDepth 100000
/-- A value, of the program's type. -/
def val (k b : Int) (t : ByteArray) : Value := .agg #[.int .i64 k, .int .u64 b, .string t]
/-- A quoted text's value, and the error's number. -/
def unqV (o : Option (List UInt8)) : Value × Int := match o with
  | none => (val 0 0 ⟨#[]⟩, 2)
  | some t => if 65536 < t.length then (val 0 0 ⟨#[]⟩, 4) else (val 4 0 (bs t), 0)
theorem unq_close (d : UInt8) (t : List UInt8) : PF.unq (34 :: d :: t) = none := by unfold PF.unq; rw [if_pos (.inl rfl)]
theorem unq_line (t : List UInt8) : PF.unq (10 :: t) = none := by
  cases t with
  | nil => rfl
  | cons d t => unfold PF.unq; rw [if_pos (.inr rfl)]
theorem unq_esc (d : UInt8) (t : List UInt8) : PF.unq (92 :: d :: t) = (if d = 34 ∨ d = 92 then (PF.unq t).map (d :: ·) else if d = 110 then (PF.unq t).map (10 :: ·) else none) := by
  conv => lhs; unfold PF.unq
  rw [if_neg (by decide), if_pos rfl]
theorem unq_plain (c : UInt8) (t : List UInt8) (h1 : c ≠ 34) (h2 : c ≠ 10) (h3 : c ≠ 92) : PF.unq (c :: t) = (PF.unq t).map (c :: ·) := by
  cases t with
  | nil => unfold PF.unq; rw [if_neg h1]; rfl
  | cons d t =>
    conv => lhs; unfold PF.unq
    rw [if_neg (by simp [h1, h2]), if_neg h3]
theorem byteCells_app (l : List UInt8) (c : UInt8) : Lib.byteCells (l ++ [c]) = Lib.byteCells l ++ [.int .u8 c.toNat] := by
  simp [Lib.byteCells]
theorem byteCells_len (l : List UInt8) : (Lib.byteCells l).length = l.length := by simp [Lib.byteCells]
theorem idxE (d : UInt8) (w : World) : Calls Tryz.prog 70 #[.string ⟨#[34, 92, 110]⟩, .int .u8 d.toNat] w fun e w' => e = .returned (.int .i64 (if d = 34 then 0 else if d = 92 then 1 else if d = 110 then 2 else -1)) ∧ w = w' := by
  refine (Tryz.strings_IndexByte ⟨#[34, 92, 110]⟩ d.toNat w).mono ?_
  rintro e w' ⟨rfl, h⟩
  refine ⟨?_, h.symm⟩
  have : ((d.toNat : Int).toNat.toUInt8) = d := by simp
  rw [this]
  congr 2
  have key : ∀ n : Fin 256, (Lib.indexByte [34, 92, 110] (UInt8.ofNat n.val)) = (if UInt8.ofNat n.val = 34 then (0 : Int) else if UInt8.ofNat n.val = 92 then 1 else if UInt8.ofNat n.val = 110 then 2 else -1) := by decide +kernel
  have := key ⟨d.toNat, d.toNat_lt⟩
  simpa using this
def InUnq (r : List UInt8) (B : Nat) (w : World) (v : Value) (wr : World) : Prop :=
  ∃ (t l : List UInt8), v = .string (bs t) ∧ PF.unq r = (PF.unq t).map (l ++ ·) ∧ l.length + t.length ≤ r.length ∧ Lib.IsBuilder 117 5 B B (Lib.byteCells l) wr ∧ Below B w wr
def sizeOfV : Value → Nat
  | .string t => t.size
  | _ => 0
theorem map_app (o : Option (List UInt8)) (l : List UInt8) (c : UInt8) : (o.map (c :: ·)).map (l ++ ·) = o.map ((l ++ [c]) ++ ·) := by
  cases o <;> simp
theorem byte_eq (c : UInt8) (n : Nat) (hn : n < 256) (h : c = UInt8.ofNat n) : ((c.toNat : Int) == (n : Int)) = true := by
  subst h; simp; omega
theorem byte_ne (c : UInt8) (n : Nat) (hn : n < 256) (h : c ≠ UInt8.ofNat n) : ((c.toNat : Int) == (n : Int)) = false := by
  rw [beq_eq_false_iff_ne]
  intro e
  apply h
  apply UInt8.toNat_inj.1
  simp
  omega
theorem heap_setCell_same (w : World) (B k : Nat) (cs : Array Value) (T : TypeId) (u : Value) (h : w.heap[B]? = some (.cells cs T (0, 0))) : (w.setCell ⟨B, k, none⟩ u).heap[B]? = some (.cells (cs.setIfInBounds k u) T (0, 0)) := by
  simp [World.setCell, Array.getElem?_modify, h]
theorem results53 {F : Func} (hF : F.results = #[.cell 2 53, .tmp 3]) {tmps : Array Value} {wr : World} {B : Nat} {x y z a b c : Value} (hb : tmps.getD 2 undef = .pointer (some ⟨B, 0, none⟩)) (hk : wr.heap[B]? = some (.cells #[a, b, c] 53 (0, 0))) :
    (results F tmps).run Tryz.prog (((wr.setCell ⟨B, 0, none⟩ x).setCell ⟨B, 1, none⟩ y).setCell ⟨B, 2, none⟩ z) = .ok (.tuple #[.agg #[x, y, z], tmps.getD 3 undef]) (((wr.setCell ⟨B, 0, none⟩ x).setCell ⟨B, 1, none⟩ y).setCell ⟨B, 2, none⟩ z) := by
  have h1 := heap_setCell_same _ B 0 _ _ x hk
  have h2 := heap_setCell_same _ B 1 _ _ y h1
  have h3 := heap_setCell_same _ B 2 _ _ z h2
  obtain ⟨w2, hw⟩ : ∃ w2, ((wr.setCell ⟨B, 0, none⟩ x).setCell ⟨B, 1, none⟩ y).setCell ⟨B, 2, none⟩ z = w2 := ⟨_, rfl⟩
  rw [hw] at h3 ⊢
  have c0 : w2.cell? ⟨B, 0, none⟩ = some x := Lib.cell_of_heap h3 0
  have c1 : w2.cell? ⟨B, 1, none⟩ = some y := Lib.cell_of_heap h3 1
  have c2 : w2.cell? ⟨B, 2, none⟩ = some z := Lib.cell_of_heap h3 2
  have hb' : tmps[2]?.getD undef = .pointer (some ⟨B, 0, none⟩) := by simpa using hb
  simp [results, hF, hb', c0, c1, c2, go_sem]
/-- The result's cells, behind the loop. -/
theorem resFacts {w w' : World} (h : Below (w.heap.size + 1) (w.alloc (.cells #[.int .i64 0, .int .u64 0, .string ⟨#[]⟩] 53 (0, 0))) w') :
    w'.cell? ⟨w.heap.size, 0, none⟩ = some (.int .i64 0) ∧ w'.cell? ⟨w.heap.size, 1, none⟩ = some (.int .u64 0) ∧ w'.cell? ⟨w.heap.size, 2, none⟩ = some (.string ⟨#[]⟩) ∧
    w'.frozen? ⟨w.heap.size, 0, none⟩ = false ∧ w'.frozen? ⟨w.heap.size, 1, none⟩ = false ∧ w'.frozen? ⟨w.heap.size, 2, none⟩ = false ∧ w'.heap[w.heap.size]? = some (.cells #[.int .i64 0, .int .u64 0, .string ⟨#[]⟩] 53 (0, 0)) ∧ Below w.heap.size w w' := by
  have hb : w'.heap[w.heap.size]? = some (.cells #[.int .i64 0, .int .u64 0, .string ⟨#[]⟩] 53 (0, 0)) := by
    rw [h.block _ (by omega)]
    show (w.heap.push _)[w.heap.size]? = _
    rw [Array.getElem?_push_size]
  have hs := h.size
  simp only [World.size_alloc] at hs
  exact ⟨Lib.cell_of_heap hb 0, Lib.cell_of_heap hb 1, Lib.cell_of_heap hb 2, Lib.frozen_of_heap hb 0, Lib.frozen_of_heap hb 1, Lib.frozen_of_heap hb 2, hb, ((Below.refl _ _).alloc (Nat.le_refl _) _).trans (h.mono (by omega))⟩
set_option maxHeartbeats 4000000 in
theorem unquote56 (a : UInt8) (r : List UInt8) (hr : r.length ≤ 140737488355327) (w : World) : Calls Tryz.prog 56 #[.string (bs (a :: r))] w fun e w' => e = .returned (.tuple #[(unqV (PF.unq r)).1, .int .i64 (unqV (PF.unq r)).2]) ∧ Below w.heap.size w w' := by
  obtain ⟨hsz0, hg0, hem0, h0i0, h1i0, htl0⟩ := bs_head (r := a :: r) rfl
  go_enter Tryz.func56, Tryz.ntmps56
  have W2 : Below w.heap.size w w := Below.refl _ _
  go_wp2_with fail
  go_loopw [5] (fun v wr => InUnq r (w.heap.size + 1) (w.alloc (.cells #[.int .i64 0, .int .u64 0, .string ⟨#[]⟩] 53 (0, 0))) v wr) (fun v _ => sizeOfV v)
  case atStart => 
    refine ⟨r, [], rfl, by cases PF.unq r <;> rfl, by simp, ?_, (Below.refl _ _).alloc (by simp) _⟩
    have := Lib.fresh_isBuilder 117 5 (w.alloc (.cells #[.int .i64 0, .int .u64 0, .string ⟨#[]⟩] 53 (0, 0)))
    simp only [World.size_alloc] at this
    exact this
  case round =>
    obtain ⟨t, l, rfl, hun, hle, hbd, hb⟩ := hrel
    have HD := Lib.hid hbd
    have HB := Lib.hid hb
    have HUN := Lib.hid hun
    have hsz := HB.out.size
    simp only [World.size_alloc] at hsz
    clear hbd hb hun
    rcases list_cases t with e | ⟨c, u, e⟩
    · have e0 := bs_nil e
      have HUN2 : Hid (PF.unq r = none) := Lib.hid (by rw [HUN.out, e]; rfl)
      clear e
      obtain ⟨f0, f1, f2, g0, g1, g2, hk, hbw⟩ := resFacts HB.out
      have HBW := Lib.hid hbw
      have HK := Lib.hid hk
      clear hbw hk
      go_wp2_with fail
      refine bodyPost_ret (results53 (F := Tryz.f56) rfl rfl HK.out) rfl ?_
      exact ⟨by rw [HUN2.out]; rfl, ((HBW.out.setCell (Nat.le_refl _) _).setCell (Nat.le_refl _) _).setCell (Nat.le_refl _) _⟩
    · obtain ⟨hp, hg, hem, h0i, h1i, htl⟩ := bs_head e
      rw [e] at HUN
      have htlen : t.length = u.length + 1 := by rw [e]; rfl
      clear e
      by_cases h34 : c = 34
      · have c34 := byte_eq c 34 (by decide) h34
        subst h34
        rcases list_cases u with e | ⟨d, v, e⟩
        · have e0 := bs_nil e
          have HUN2 : Hid (PF.unq r = some l) := Lib.hid (by rw [HUN.out, e]; simp [PF.unq])
          clear e
          obtain ⟨f0, f1, f2, g0, g1, g2, hk, hbw⟩ := resFacts HB.out
          have HBW := Lib.hid hbw
          have HK := Lib.hid hk
          clear hbw hk
          go_wp2_with fail
          refine (Tryz.Builder_Len (w.heap.size + 1) (w.heap.size + 1) _ wr HD.out).mono ?_
          rintro e w1 ⟨rfl, rfl⟩
          have hbl : (Lib.byteCells l).length = l.length := byteCells_len l
          rw [hbl]
          by_cases hlen : 65536 < l.length
          · have hlz : (65536 : Int) < (l.length : Int) := by omega
            go_wp2_with fail
            refine bodyPost_ret (results53 (F := Tryz.f56) rfl rfl HK.out) rfl ?_
            exact ⟨by rw [HUN2.out]; simp only [unqV]; rw [if_pos hlen]; rfl, ((HBW.out.setCell (Nat.le_refl _) _).setCell (Nat.le_refl _) _).setCell (Nat.le_refl _) _⟩
          · have hlz : ¬((65536 : Int) < (l.length : Int)) := by omega
            go_wp2_with fail
            refine (Tryz.Builder_String_any (w.heap.size + 1) (w.heap.size + 1) _ _ HD.out hsz).mono ?_
            rintro e w2 ⟨rfl, hb2⟩
            have HB2 := Lib.hid (HB.out.trans hb2)
            clear f0 f1 f2 g0 g1 g2 hb2 HBW HK
            obtain ⟨f0, f1, f2, g0, g1, g2, hk, hbw⟩ := resFacts HB2.out
            have HBW := Lib.hid hbw
            have HK := Lib.hid hk
            clear hk hbw
            go_wp2_with fail
            refine bodyPost_ret (results53 (F := Tryz.f56) rfl rfl HK.out) rfl ?_
            exact ⟨by rw [HUN2.out]; simp only [unqV]; rw [if_neg hlen]; rfl, ((HBW.out.setCell (Nat.le_refl _) _).setCell (Nat.le_refl _) _).setCell (Nat.le_refl _) _⟩
        · obtain ⟨hp2, hg2, hem2, h0i2, h1i2, htl2⟩ := bs_head e
          have HUN2 : Hid (PF.unq r = none) := Lib.hid (by rw [HUN.out, e, unq_close]; rfl)
          clear e
          obtain ⟨f0, f1, f2, g0, g1, g2, hk, hbw⟩ := resFacts HB.out
          have HBW := Lib.hid hbw
          have HK := Lib.hid hk
          clear hbw hk
          go_wp2_with fail
          refine bodyPost_ret (results53 (F := Tryz.f56) rfl rfl HK.out) rfl ?_
          exact ⟨by rw [HUN2.out]; rfl, ((HBW.out.setCell (Nat.le_refl _) _).setCell (Nat.le_refl _) _).setCell (Nat.le_refl _) _⟩
      · have c34 := byte_ne c 34 (by decide) h34
        by_cases h10 : c = 10
        · have c10 := byte_eq c 10 (by decide) h10
          have HUN2 : Hid (PF.unq r = none) := Lib.hid (by rw [HUN.out, h10, unq_line]; rfl)
          clear h34 h10
          obtain ⟨f0, f1, f2, g0, g1, g2, hk, hbw⟩ := resFacts HB.out
          have HBW := Lib.hid hbw
          have HK := Lib.hid hk
          clear hbw hk
          go_wp2_with fail
          refine bodyPost_ret (results53 (F := Tryz.f56) rfl rfl HK.out) rfl ?_
          exact ⟨by rw [HUN2.out]; rfl, ((HBW.out.setCell (Nat.le_refl _) _).setCell (Nat.le_refl _) _).setCell (Nat.le_refl _) _⟩
        · have c10 := byte_ne c 10 (by decide) h10
          by_cases h92 : c = 92
          · have c92 := byte_eq c 92 (by decide) h92
            rw [h92] at HUN
            clear h34 h10 h92
            rcases list_cases u with e | ⟨d, v, e⟩
            · have e0 := bs_nil e
              have HUN2 : Hid (PF.unq r = none) := Lib.hid (by rw [HUN.out, e]; rfl)
              clear e
              obtain ⟨f0, f1, f2, g0, g1, g2, hk, hbw⟩ := resFacts HB.out
              have HBW := Lib.hid hbw
              have HK := Lib.hid hk
              clear hbw hk
              go_wp2_with fail
              refine bodyPost_ret (results53 (F := Tryz.f56) rfl rfl HK.out) rfl ?_
              exact ⟨by rw [HUN2.out]; rfl, ((HBW.out.setCell (Nat.le_refl _) _).setCell (Nat.le_refl _) _).setCell (Nat.le_refl _) _⟩
            · obtain ⟨hp2, hg2, hem2, h0i2, h1i2, htl2⟩ := bs_head e
              rw [e] at HUN
              have hul : u.length = v.length + 1 := by rw [e]; rfl
              clear e
              have M := Lib.hid (fun w => idxE d w)
              by_cases d34 : d = 34
              · rw [if_pos d34] at M
                clear c34
                have HUN3 : Hid (PF.unq r = ((PF.unq v).map (34 :: ·)).map (l ++ ·)) := Lib.hid (by rw [HUN.out, unq_esc, if_pos (.inl d34), d34])
                clear d34
                go_wp2_with fail
                refine (M.out _).mono ?_
                rintro e w1 ⟨rfl, rfl⟩
                go_wp2_with fail
                refine (writeByte (w.heap.size + 1) (w.heap.size + 1) _ (34) wr HD.out (by rw [byteCells_len]; omega) hsz).mono ?_
                rintro e w1 ⟨rfl, hd1, hb1⟩
                have HD1 := Lib.hid hd1
                have HB1 := Lib.hid hb1
                clear hd1 hb1
                go_wp2_with fail
                go_roundw
                case rel => exact ⟨v, l ++ [34], rfl, by rw [HUN3.out, map_app], by simp; omega, .inr (by rw [byteCells_app]; exact HD1.out), HB.out.trans HB1.out⟩
                case measure => simp [sizeOfV, bs_size]; omega
              · by_cases d92 : d = 92
                · rw [if_neg d34, if_pos d92] at M
                  have HUN3 : Hid (PF.unq r = ((PF.unq v).map (92 :: ·)).map (l ++ ·)) := Lib.hid (by rw [HUN.out, unq_esc, if_pos (.inr d92), d92])
                  clear d34 d92
                  go_wp2_with fail
                  refine (M.out _).mono ?_
                  rintro e w1 ⟨rfl, rfl⟩
                  go_wp2_with fail
                  refine (writeByte (w.heap.size + 1) (w.heap.size + 1) _ (92) wr HD.out (by rw [byteCells_len]; omega) hsz).mono ?_
                  rintro e w1 ⟨rfl, hd1, hb1⟩
                  have HD1 := Lib.hid hd1
                  have HB1 := Lib.hid hb1
                  clear hd1 hb1
                  go_wp2_with fail
                  go_roundw
                  case rel => exact ⟨v, l ++ [92], rfl, by rw [HUN3.out, map_app], by simp; omega, .inr (by rw [byteCells_app]; exact HD1.out), HB.out.trans HB1.out⟩
                  case measure => simp [sizeOfV, bs_size]; omega
                · by_cases d110 : d = 110
                  · rw [if_neg d34, if_neg d92, if_pos d110] at M
                    have HUN3 : Hid (PF.unq r = ((PF.unq v).map (10 :: ·)).map (l ++ ·)) := Lib.hid (by rw [HUN.out, unq_esc, if_neg (by simp [d34, d92]), if_pos d110])
                    clear d34 d92 d110
                    go_wp2_with fail
                    refine (M.out _).mono ?_
                    rintro e w1 ⟨rfl, rfl⟩
                    go_wp2_with fail
                    refine (writeByte (w.heap.size + 1) (w.heap.size + 1) _ (10) wr HD.out (by rw [byteCells_len]; omega) hsz).mono ?_
                    rintro e w1 ⟨rfl, hd1, hb1⟩
                    have HD1 := Lib.hid hd1
                    have HB1 := Lib.hid hb1
                    clear hd1 hb1
                    go_wp2_with fail
                    go_roundw
                    case rel => exact ⟨v, l ++ [10], rfl, by rw [HUN3.out, map_app], by simp; omega, .inr (by rw [byteCells_app]; exact HD1.out), HB.out.trans HB1.out⟩
                    case measure => simp [sizeOfV, bs_size]; omega
                  · rw [if_neg d34, if_neg d92, if_neg d110] at M
                    have HUN3 : Hid (PF.unq r = none) := Lib.hid (by rw [HUN.out, unq_esc, if_neg (by simp [d34, d92]), if_neg d110]; rfl)
                    clear d34 d92 d110
                    go_wp2_with fail
                    refine (M.out _).mono ?_
                    rintro e w1 ⟨rfl, rfl⟩
                    obtain ⟨f0, f1, f2, g0, g1, g2, hk, hbw⟩ := resFacts HB.out
                    have HBW := Lib.hid hbw
                    have HK := Lib.hid hk
                    clear hbw hk
                    go_wp2_with fail
                    refine bodyPost_ret (results53 (F := Tryz.f56) rfl rfl HK.out) rfl ?_
                    exact ⟨by rw [HUN3.out]; rfl, ((HBW.out.setCell (Nat.le_refl _) _).setCell (Nat.le_refl _) _).setCell (Nat.le_refl _) _⟩
          · have c92 := byte_ne c 92 (by decide) h92
            have HUN3 : Hid (PF.unq r = ((PF.unq u).map (c :: ·)).map (l ++ ·)) := Lib.hid (by rw [HUN.out, unq_plain c u h34 h10 h92])
            clear h34 h10 h92
            go_wp2_with fail
            refine (writeByte (w.heap.size + 1) (w.heap.size + 1) _ ((c.toNat : Int)) wr HD.out (by rw [byteCells_len]; omega) hsz).mono ?_
            rintro e w1 ⟨rfl, hd1, hb1⟩
            have HD1 := Lib.hid hd1
            have HB1 := Lib.hid hb1
            clear hd1 hb1
            go_wp2_with fail
            go_roundw
            case rel => exact ⟨u, l ++ [c], rfl, by rw [HUN3.out, map_app], by simp; omega, .inr (by rw [byteCells_app]; exact HD1.out), HB.out.trans HB1.out⟩
            case measure => simp [sizeOfV, bs_size]; omega

end Go.Proofs.YtagiddbfhlokcaaGreatDoor
/- The other package's digits and isFloat: they answer as the plain texts do. Condition: the text's length. -/
namespace Go.Proofs.YtagiddbfhlokcaaGreatDoor
open Go.RowKit
set_option maxRecDepth 100000
theorem at_cons {l : List UInt8} {k : Nat} {c : UInt8} {t : List UInt8} (e : l.drop k = c :: t) : ∃ h : k < (bs l).size, (bs l)[k] = c ∧ (k : Int) < ((bs l).size : Int) ∧ l.drop (k + 1) = t ∧ k + 1 ≤ l.length := by
  have hk : k < l.length := by
    rcases Nat.lt_or_ge k l.length with h | h
    · exact h
    · rw [List.drop_of_length_le h] at e; cases e
  have h : k < (bs l).size := by rw [bs_size]; exact hk
  rw [List.drop_eq_getElem_cons hk] at e
  injection e with e1 e2
  exact ⟨h, by rw [bs_get]; exact e1, by omega, e2, hk⟩
theorem at_nil {l : List UInt8} {k : Nat} (hk : k ≤ l.length) (e : l.drop k = []) : ¬((k : Int) < ((bs l).size : Int)) ∧ k = (bs l).size := by
  have : (l.drop k).length = 0 := by rw [e]; rfl
  simp at this
  have h2 : (bs l).size = l.length := bs_size l
  omega
theorem isDig_true {c : UInt8} (h : PF.isDig c = true) : (48 : Int) ≤ (c.toNat : Int) ∧ (c.toNat : Int) ≤ 57 := by
  simp only [PF.isDig, Bool.and_eq_true, decide_eq_true_eq] at h
  omega
theorem isDig_false {c : UInt8} (h : PF.isDig c = false) : ¬(48 : Int) ≤ (c.toNat : Int) ∨ ((48 : Int) ≤ (c.toNat : Int) ∧ ¬(c.toNat : Int) ≤ 57) := by
  simp only [PF.isDig, Bool.and_eq_false_iff, decide_eq_false_iff_not] at h
  omega
def tw (l : List UInt8) (k : Nat) : Nat := ((l.drop k).takeWhile PF.isDig).length
theorem tw_yes {l : List UInt8} {k : Nat} {c : UInt8} {t : List UInt8} (e : l.drop k = c :: t) (h : PF.isDig c = true) : tw l k = tw l (k + 1) + 1 := by
  have h2 := (at_cons e).choose_spec.2.2.1
  unfold tw
  rw [h2, e, List.takeWhile_cons, if_pos h]
  rfl
theorem tw_no {l : List UInt8} {k : Nat} {c : UInt8} {t : List UInt8} (e : l.drop k = c :: t) (h : PF.isDig c = false) : tw l k = 0 := by
  unfold tw
  rw [e, List.takeWhile_cons, if_neg (by rw [h]; decide)]
  rfl
theorem tw_end {l : List UInt8} {k : Nat} (e : l.drop k = []) : tw l k = 0 := by unfold tw; rw [e]; rfl
theorem digits79 (l : List UInt8) (i : Nat) (hl : l.length ≤ 281474976710656) (hi : i ≤ l.length) (w : World) :
    Calls Tryz.prog 79 #[.string (bs l), .int .i64 (i : Int)] w fun e w' => e = .returned (.int .i64 ((i + tw l i : Nat) : Int)) ∧ w = w' := by
  obtain ⟨m, hm⟩ : ∃ m, i + tw l i = m := ⟨_, rfl⟩
  rw [hm]
  go_enter Tryz.func79, Tryz.ntmps79
  go_wp2
  go_loopw [1] (fun v wr => ∃ k : Nat, v = .int .i64 (k : Int) ∧ k ≤ l.length ∧ k + tw l k = m ∧ w = wr) (fun v _ => match v with | .int _ k => l.length - k.toNat | _ => 0)
  case atStart => exact ⟨i, rfl, hi, hm, rfl⟩
  case round =>
    obtain ⟨k, rfl, hk, hkk, rfl⟩ := hrel
    have HKK := Lib.hid hkk
    clear hkk
    rcases list_cases (l.drop k) with e | ⟨c, t, e⟩
    · have h1 := (at_nil hk e).1
      have h0 : Hid (k = m) := Lib.hid (by rw [← HKK.out, tw_end e]; rfl)
      clear e
      go_wp2_with fail
      go_ret
      exact ⟨by rw [← h0.out]; rfl, rfl⟩
    · obtain ⟨hlt, hg, hz, hd, hk1⟩ := at_cons e
      cases hc : PF.isDig c with
      | true =>
        obtain ⟨d1, d2⟩ := isDig_true hc
        have HK2 : Hid (k + 1 + tw l (k + 1) = m) := Lib.hid (by rw [← HKK.out, tw_yes e hc]; omega)
        clear e hc hd
        go_wp2_with fail
        go_roundw
        case rel => exact ⟨k + 1, rfl, hk1, HK2.out, trivial⟩
        case measure => simp; omega
      | false =>
        have h0 : Hid (k = m) := Lib.hid (by rw [← HKK.out, tw_no e hc]; rfl)
        rcases isDig_false hc with d1 | ⟨d1, d2⟩
        · clear e hc hd
          go_wp2_with fail
          go_ret
          exact ⟨by rw [← h0.out]; rfl, rfl⟩
        · clear e hc hd
          go_wp2_with fail
          go_ret
          exact ⟨by rw [← h0.out]; rfl, rfl⟩
theorem drop_tw (l : List UInt8) (k : Nat) : l.drop (k + tw l k) = (l.drop k).dropWhile PF.isDig := by
  unfold tw
  rw [← List.drop_drop]
  have key : ∀ u : List UInt8, u.drop (u.takeWhile PF.isDig).length = u.dropWhile PF.isDig := by
    intro u
    have h := List.takeWhile_append_dropWhile (p := PF.isDig) (l := u)
    calc u.drop (u.takeWhile PF.isDig).length = (u.takeWhile PF.isDig ++ u.dropWhile PF.isDig).drop (u.takeWhile PF.isDig).length := by rw [h]
      _ = _ := List.drop_left' rfl
  exact key _
theorem tw_le (l : List UInt8) (k : Nat) (hk : k ≤ l.length) : k + tw l k ≤ l.length := by
  unfold tw
  have := take_drop_len (l.drop k)
  simp at this
  omega
theorem tw_empty (l : List UInt8) (k : Nat) : ((l.drop k).takeWhile PF.isDig).isEmpty = decide (tw l k = 0) := by
  unfold tw
  cases (l.drop k).takeWhile PF.isDig <;> simp
/-- Where the sign ends. -/
def p0 (l : List UInt8) : Nat := if PF.isNeg l then 1 else 0
theorem p0_drop (l : List UInt8) : l.drop (p0 l) = PF.body l ∧ p0 l ≤ l.length := by
  by_cases hc : ∃ r, l = 45 :: r
  · obtain ⟨r, rfl⟩ := hc
    unfold p0
    rw [(PF.body_neg r).1, (PF.body_neg r).2, if_pos rfl]
    exact ⟨rfl, by simp⟩
  · have hb := PF.body_pos (l := l) (fun r e => hc ⟨r, e⟩)
    unfold p0
    rw [hb.1, hb.2, if_neg (by decide)]
    exact ⟨rfl, by omega⟩
theorem isNeg_head (l : List UInt8) : PF.isNeg l = headIs 45 l := by
  by_cases hc : ∃ r, l = 45 :: r
  · obtain ⟨r, rfl⟩ := hc; rfl
  · rw [(PF.body_pos (l := l) (fun r e => hc ⟨r, e⟩)).2, head_no (fun t e => hc ⟨t, e⟩)]
theorem head_yes {c : UInt8} {r : List UInt8} (h : headIs c r = true) : ∃ t, r = c :: t := by
  cases r with
  | nil => cases h
  | cons a t => exact ⟨t, by rw [of_decide_eq_true h]⟩
theorem tailM_no {r : List UInt8} (h : headIs 46 r = false) : PF.tailM r = PF.tailE r := by
  unfold PF.tailM
  split
  · cases h
  · rfl
theorem tailE_no {r : List UInt8} (h : isE r = false) : PF.tailE r = r.isEmpty := by
  cases r with
  | nil => rfl
  | cons c t =>
    unfold PF.tailE
    have : (decide (c = 101) || decide (c = 69)) = false := h
    simp only [this, Bool.false_and]
    rfl
theorem tailE_yes {r : List UInt8} (h : isE r = true) : ∃ c t, r = c :: t ∧ PF.tailE r = PF.okX t := by
  cases r with
  | nil => cases h
  | cons c t =>
    refine ⟨c, t, rfl, ?_⟩
    unfold PF.tailE
    have : (decide (c = 101) || decide (c = 69)) = true := h
    simp only [this, Bool.true_and]
/-- Behind the mantissa / behind all. -/
def AtM (l : List UInt8) (R : Bool) (w : World) (v : Value) (w' : World) : Prop := ∃ p : Nat, v = .int .i64 (p : Int) ∧ p ≤ l.length ∧ PF.tailE (l.drop p) = R ∧ w = w'
def AtS (l : List UInt8) (R : Bool) (w : World) (v : Value) (w' : World) : Prop := ∃ p : Nat, v = .int .i64 (p : Int) ∧ p ≤ l.length ∧ PF.okD (l.drop p) = R ∧ w = w'
def AtE (l : List UInt8) (R : Bool) (w : World) (v : Value) (w' : World) : Prop := ∃ p : Nat, v = .int .i64 (p : Int) ∧ p ≤ l.length ∧ (l.drop p).isEmpty = R ∧ w = w'
set_option maxHeartbeats 8000000 in
theorem isFloat53 (l : List UInt8) (hl : l.length ≤ 281474976710656) (w : World) :
    Calls Tryz.prog 53 #[.string (bs l)] w fun e w' => e = .returned (.bool (PF.decB l)) ∧ w = w' := by
  obtain ⟨R, hR⟩ : ∃ R, PF.decB l = R := ⟨_, rfl⟩
  have hdec : (!((PF.body l).takeWhile PF.isDig).isEmpty && PF.tailM ((PF.body l).dropWhile PF.isDig) && decide (l.length ≤ 400)) = R := by
    rw [← hR]
    unfold PF.decB
    rw [PF.okM_parts]
  rw [hR]
  obtain ⟨hp0, hp0l⟩ := p0_drop l
  rw [← hp0, ← drop_tw, tw_empty] at hdec
  have MD := Lib.hid (fun i hi => digits79 l i hl hi)
  have HNEG := Lib.hid (isNeg_head l)
  obtain ⟨q0, hq0⟩ : ∃ q, p0 l = q := ⟨_, rfl⟩
  have HQ0 : Hid ((if PF.isNeg l then 1 else 0) = q0) := Lib.hid hq0
  rw [hq0] at hdec hp0l
  have HDEC := Lib.hid hdec
  have HSZ := Lib.hid (bs_size l)
  clear hdec hR hp0 hq0
  go_enter Tryz.func53, Tryz.ntmps53
  obtain ⟨bn, hbn⟩ : ∃ b, PF.isNeg l = b := ⟨_, rfl⟩
  rw [hbn] at HQ0 HNEG
  clear hbn
  go_upto_region 2 with (fail)
  go_cut [14] from 5 to 14 (fun v w' => v = .bool bn ∧ w = w')
  case first =>
    rcases list_cases l with e | ⟨c, t, e⟩
    · have h0 : (bs l).size = 0 := by rw [bs_size, e]; rfl
      have h0z : ¬((0 : Int) < ((bs l).size : Int)) := by omega
      have hq : bn = false := by rw [HNEG.out, e]; rfl
      subst hq
      clear e h0
      go_wp2_with fail
      go_meet
      case rel => exact ⟨rfl, rfl⟩
    · obtain ⟨hlt, hg, hem, h0i, h1i, htl⟩ := bs_head e
      by_cases h45 : c = 45
      · have c45 : ((c.toNat : Int) == 45) = true := byte_eq c 45 (by decide) h45
        have hq : bn = true := by rw [HNEG.out, e, h45]; rfl
        subst hq
        clear e htl h45
        go_wp2_with fail
        go_meet
        case rel => exact ⟨rfl, rfl⟩
      · have c45 : ((c.toNat : Int) == 45) = false := byte_ne c 45 (by decide) h45
        have hq : bn = false := by rw [HNEG.out, e]; simp [headIs, h45]
        subst hq
        clear e htl h45
        go_wp2_with fail
        go_meet
        case rel => exact ⟨rfl, rfl⟩
  case rest =>
   obtain ⟨rfl, rfl⟩ := hcut
   go_upto_if 14 with (fail)
   go_cut [3] from 15 to 16 (fun v w' => v = .int .i64 (q0 : Int) ∧ w = w')
   case first =>
    cases bn with
    | true =>
      have hq : q0 = 1 := HQ0.out.symm
      subst hq
      go_wp2_with fail
      go_meet
      case rel => exact ⟨rfl, rfl⟩
    | false =>
      have hq : q0 = 0 := HQ0.out.symm
      subst hq
      go_wp2_with fail
      go_meet
      case rel => exact ⟨rfl, rfl⟩
   case rest =>
    obtain ⟨rfl, rfl⟩ := hcut
    have htl := tw_le l q0 hp0l
    obtain ⟨n, hn⟩ : ∃ n, tw l q0 = n := ⟨_, rfl⟩
    have M := Lib.hid (MD.out q0 hp0l w)
    rw [hn] at htl HDEC M
    obtain ⟨q, hq⟩ : ∃ q, q0 + n = q := ⟨_, rfl⟩
    rw [hq] at htl HDEC M
    go_wp2_with fail
    refine M.out.mono ?_
    rintro e w' ⟨rfl, rfl⟩
    by_cases hq1 : q = q0
    · have hqz : ((q : Int) == (q0 : Int)) = true := by simp; omega
      obtain rfl : false = R := by rw [← HDEC.out]; rw [show n = 0 by omega]; rfl
      clear hq1 hq
      go_wp2_with fail
      go_ret
      exact ⟨rfl, rfl⟩
    · have hqz : ((q : Int) == (q0 : Int)) = false := by rw [beq_eq_false_iff_ne]; omega
      by_cases h400 : 400 < l.length
      · have h400z : (400 : Int) < ((bs l).size : Int) := by have := HSZ.out; omega
        obtain rfl : false = R := by rw [← HDEC.out]; simp; omega
        clear hq1 hq
        go_wp2_with fail
        go_ret
        exact ⟨rfl, rfl⟩
      · have h400z : ¬((400 : Int) < ((bs l).size : Int)) := by have := HSZ.out; omega
        have hm : PF.tailM (l.drop q) = R := by
          rw [← HDEC.out]
          have : ¬(n = 0) := by omega
          have h4 : l.length ≤ 400 := by omega
          simp [this, h4]
        have HM := Lib.hid hm
        clear HDEC hm hq1 hq hn
        obtain ⟨b46, hb46⟩ : ∃ b, headIs 46 (l.drop q) = b := ⟨_, rfl⟩
        have H46 := Lib.hid hb46
        clear hb46
        go_upto_region 8 with (fail)
        go_cut [38] from 29 to 38 (fun v w' => v = .bool b46 ∧ w = w')
        case first =>
          have h46 := H46.out
          rcases list_cases (l.drop q) with e | ⟨c, t, e⟩
          · have h1 := (at_nil htl e).1
            rw [e] at h46
            obtain rfl : false = b46 := h46
            clear e
            go_wp2_with fail
            go_meet
            case rel => exact ⟨rfl, rfl⟩
          · obtain ⟨hlt, hg, hz, hd, hk1⟩ := at_cons e
            rw [e] at h46
            clear e hd
            by_cases hc : c = 46
            · have c46 : ((c.toNat : Int) == 46) = true := byte_eq c 46 (by decide) hc
              obtain rfl : true = b46 := by rw [← h46, hc]; rfl
              clear h46 hc
              go_wp2_with fail
              go_meet
              case rel => exact ⟨rfl, rfl⟩
            · have c46 : ((c.toNat : Int) == 46) = false := byte_ne c 46 (by decide) hc
              obtain rfl : false = b46 := by rw [← h46]; simp [headIs, hc]
              clear h46 hc
              go_wp2_with fail
              go_meet
              case rel => exact ⟨rfl, rfl⟩
        case rest =>
         obtain ⟨rfl, rfl⟩ := hcut
         go_upto_if 38 with (fail)
         go_cut [3, 4] from 39 to 47 (fun v z w' => (∃ y : Int, z = .int .i64 y) ∧ AtM l R w v w')
         case first =>
          cases b46 with
          | true =>
            obtain ⟨t, e⟩ := head_yes H46.out
            obtain ⟨hlt, hg, hz, hd, hk1⟩ := at_cons e
            have hm := HM.out
            rw [e] at hm
            have hm2 : (!(t.takeWhile PF.isDig).isEmpty && PF.tailE (t.dropWhile PF.isDig)) = R := hm
            rw [← hd, ← drop_tw, tw_empty] at hm2
            have htl2 := tw_le l (q + 1) hk1
            have M := Lib.hid (MD.out (q + 1) hk1 w)
            obtain ⟨n2, hn2⟩ : ∃ n, tw l (q + 1) = n := ⟨_, rfl⟩
            rw [hn2] at hm2 htl2 M
            obtain ⟨q2, hq2⟩ : ∃ q2, q + 1 + n2 = q2 := ⟨_, rfl⟩
            rw [hq2] at hm2 htl2 M
            have HM2 := Lib.hid hm2
            have HQ2 := Lib.hid hq2
            clear hm hm2 hn2 e hd hq2
            simp only [Int.natCast_add, Int.cast_ofNat_Int] at M
            go_wp2_with fail
            refine M.out.mono ?_
            rintro e w' ⟨rfl, rfl⟩
            have hq2 := HQ2.out
            by_cases hnz : n2 = 0
            · have hqz : ((q2 : Int) == (q : Int) + 1) = true := by simp; omega
              obtain rfl : false = R := by rw [← HM2.out, hnz]; rfl
              clear hnz hq2
              go_wp2_with fail
              go_ret
              exact ⟨rfl, rfl⟩
            · have hqz : ((q2 : Int) == (q : Int) + 1) = false := by rw [beq_eq_false_iff_ne]; omega
              have HM3 : Hid (PF.tailE (l.drop q2) = R) := Lib.hid (by rw [← HM2.out]; simp [hnz])
              clear hnz hq2
              go_wp2_with fail
              go_meet
              case rel => exact ⟨⟨_, rfl⟩, q2, rfl, htl2, HM3.out, rfl⟩
          | false =>
            have HM2 : Hid (PF.tailE (l.drop q) = R) := Lib.hid (by rw [← HM.out, tailM_no H46.out])
            go_wp2_with fail
            go_meet
            case rel => exact ⟨⟨_, rfl⟩, q, rfl, htl, HM2.out, rfl⟩
         case rest =>
          clear HM H46
          obtain ⟨⟨y, rfl⟩, p, rfl, hp, hr, rfl⟩ := hcut
          have HR := Lib.hid hr
          obtain ⟨bE, hbE⟩ : ∃ b, isE (l.drop p) = b := ⟨_, rfl⟩
          have HBE := Lib.hid hbE
          clear hr hbE
          go_upto_region 13 with (fail)
          go_cut [63] from 48 to 63 (fun v w' => v = .bool bE ∧ w = w')
          case first =>
            have hbe := HBE.out
            rcases list_cases (l.drop p) with e | ⟨c, t, e⟩
            · have h1 := (at_nil hp e).1
              rw [e] at hbe
              obtain rfl : false = bE := hbe
              clear e
              go_wp2_with fail
              go_meet
              case rel => exact ⟨rfl, rfl⟩
            · obtain ⟨hlt, hg, hz, hd, hk1⟩ := at_cons e
              rw [e] at hbe
              clear e hd
              by_cases hc : c = 101
              · have c1 : ((c.toNat : Int) == 101) = true := byte_eq c 101 (by decide) hc
                obtain rfl : true = bE := by rw [← hbe, hc]; rfl
                clear hbe hc
                go_wp2_with fail
                go_meet
                case rel => exact ⟨rfl, rfl⟩
              · have c1 : ((c.toNat : Int) == 101) = false := byte_ne c 101 (by decide) hc
                by_cases hc2 : c = 69
                · have c2 : ((c.toNat : Int) == 69) = true := byte_eq c 69 (by decide) hc2
                  obtain rfl : true = bE := by rw [← hbe, hc2]; rfl
                  clear hbe hc hc2
                  go_wp2_with fail
                  go_meet
                  case rel => exact ⟨rfl, rfl⟩
                · have c2 : ((c.toNat : Int) == 69) = false := byte_ne c 69 (by decide) hc2
                  obtain rfl : false = bE := by rw [← hbe]; simp [isE, hc, hc2]
                  clear hbe hc hc2
                  go_wp2_with fail
                  go_meet
                  case rel => exact ⟨rfl, rfl⟩
          case rest =>
           obtain ⟨rfl, rfl⟩ := hcut
           go_upto_if 63 with (fail)
           go_cut [3, 4] from 64 to 90 (fun v z w' => (∃ y : Int, z = .int .i64 y) ∧ AtE l R w v w')
           case first =>
            cases bE with
            | false =>
              have HE2 : Hid ((l.drop p).isEmpty = R) := Lib.hid (by rw [← HR.out, tailE_no HBE.out])
              go_wp2_with fail
              go_meet
              case rel => exact ⟨⟨_, rfl⟩, p, rfl, hp, HE2.out, rfl⟩
            | true =>
              obtain ⟨c, t, e, hte⟩ := tailE_yes HBE.out
              obtain ⟨hlt, hg, hz, hd, hk1⟩ := at_cons e
              rw [hte, ← hd] at HR
              obtain ⟨bS, hbS⟩ : ∃ b, isS (l.drop (p + 1)) = b := ⟨_, rfl⟩
              have HBS := Lib.hid hbS
              clear e hte hd hbS
              obtain ⟨p1, hp1⟩ : ∃ p1, p + 1 = p1 := ⟨_, rfl⟩
              have hp1z : (p : Int) + 1 = (p1 : Int) := by omega
              rw [hp1] at HR HBS hk1
              have hp1s : (p1 : Int) ≤ 281474976710656 := by omega
              clear hp1
              go_upto_region 15 with (fail)
              go_cut [81] from 66 to 81 (fun v w' => v = .bool bS ∧ w = w')
              case first =>
                have hbs := HBS.out
                rcases list_cases (l.drop p1) with e | ⟨c, t, e⟩
                · have h1 := (at_nil hk1 e).1
                  rw [e] at hbs
                  obtain rfl : false = bS := hbs
                  clear e
                  go_wp2_with fail
                  go_meet
                  case rel => exact ⟨rfl, rfl⟩
                · obtain ⟨hlt, hg, hz, hd, hk1⟩ := at_cons e
                  rw [e] at hbs
                  clear e hd
                  by_cases hc : c = 43
                  · have c1 : ((c.toNat : Int) == 43) = true := byte_eq c 43 (by decide) hc
                    obtain rfl : true = bS := by rw [← hbs, hc]; rfl
                    clear hbs hc
                    go_wp2_with fail
                    go_meet
                    case rel => exact ⟨rfl, rfl⟩
                  · have c1 : ((c.toNat : Int) == 43) = false := byte_ne c 43 (by decide) hc
                    by_cases hc2 : c = 45
                    · have c2 : ((c.toNat : Int) == 45) = true := byte_eq c 45 (by decide) hc2
                      obtain rfl : true = bS := by rw [← hbs, hc2]; rfl
                      clear hbs hc hc2
                      go_wp2_with fail
                      go_meet
                      case rel => exact ⟨rfl, rfl⟩
                    · have c2 : ((c.toNat : Int) == 45) = false := byte_ne c 45 (by decide) hc2
                      obtain rfl : false = bS := by rw [← hbs]; simp [isS, hc, hc2]
                      clear hbs hc hc2
                      go_wp2_with fail
                      go_meet
                      case rel => exact ⟨rfl, rfl⟩
              case rest =>
                obtain ⟨rfl, rfl⟩ := hcut
                go_upto_if 81 with (fail)
                go_cut [3] from 82 to 83 (fun v w' => AtS l R w v w')
                case first =>
                  cases bS with
                  | false =>
                    have HS2 : Hid (PF.okD (l.drop p1) = R) := Lib.hid (by rw [← HR.out, okX_strip, strip_no HBS.out])
                    go_wp2_with fail
                    go_meet
                    case rel => exact ⟨p1, rfl, hk1, HS2.out, rfl⟩
                  | true =>
                    obtain ⟨d, u, e, hst⟩ := strip_yes HBS.out
                    obtain ⟨hlt, hg, hz, hd, hk1⟩ := at_cons e
                    have HS2 : Hid (PF.okD (l.drop (p1 + 1)) = R) := Lib.hid (by rw [← HR.out, okX_strip, hst, hd])
                    clear e hd hst
                    go_wp2_with fail
                    go_meet
                    case rel => exact ⟨p1 + 1, rfl, hk1, HS2.out, rfl⟩
                case rest =>
                  obtain ⟨p2, rfl, hp2, hok, rfl⟩ := hcut
                  rw [okD_parts, ← drop_tw, tw_empty] at hok
                  have htl2 := tw_le l p2 hp2
                  have M := Lib.hid (MD.out p2 hp2 w)
                  obtain ⟨n2, hn2⟩ : ∃ n, tw l p2 = n := ⟨_, rfl⟩
                  rw [hn2] at hok htl2 M
                  obtain ⟨q2, hq2⟩ : ∃ q2, p2 + n2 = q2 := ⟨_, rfl⟩
                  rw [hq2] at hok htl2 M
                  have HOK := Lib.hid hok
                  clear hok hn2
                  go_wp2_with fail
                  refine M.out.mono ?_
                  rintro e w' ⟨rfl, rfl⟩
                  by_cases hnz : n2 = 0
                  · have hqz : ((q2 : Int) == (p2 : Int)) = true := by simp; omega
                    obtain rfl : false = R := by rw [← HOK.out, hnz]; rfl
                    clear hnz hq2
                    go_wp2_with fail
                    go_ret
                    exact ⟨rfl, rfl⟩
                  · have hqz : ((q2 : Int) == (p2 : Int)) = false := by rw [beq_eq_false_iff_ne]; omega
                    have HM3 : Hid ((l.drop q2).isEmpty = R) := Lib.hid (by rw [← HOK.out]; simp [hnz])
                    clear hnz hq2
                    go_wp2_with fail
                    go_meet
                    case rel => exact ⟨⟨_, rfl⟩, q2, rfl, htl2, HM3.out, rfl⟩
           case rest =>
            obtain ⟨⟨y, rfl⟩, p, rfl, hp, hr, rfl⟩ := hcut
            rcases list_cases (l.drop p) with e | ⟨c, t, e⟩
            · have h2 := (at_nil hp e).2
              obtain rfl : true = R := by rw [← hr, e]; rfl
              have hz : ((p : Int) == ((bs l).size : Int)) = true := by simp; omega
              clear e hr h2
              go_wp2_with fail
              go_ret
              exact ⟨rfl, rfl⟩
            · obtain ⟨hlt, hg, hz, hd, hk1⟩ := at_cons e
              obtain rfl : false = R := by rw [← hr, e]; rfl
              have hz : ((p : Int) == ((bs l).size : Int)) = false := by rw [beq_eq_false_iff_ne]; omega
              clear e hd hr
              go_wp2_with fail
              go_ret
              exact ⟨rfl, rfl⟩
end Go.Proofs.YtagiddbfhlokcaaGreatDoor
