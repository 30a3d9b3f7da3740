/-
  DERIVED: THE SHELF's CONTRACTS AT THIS DUMP, IN PLAIN WORDS (tools/lay-plain.mjs out of 'TryShelf.lean', which tools/lay-shelf.mjs wrote): THE SAME DECLARATIONS UNDER THE SAME NAMES: 'import', 'namespace', 'open', 'def', 'theorem' AND NOTHING ELSE: no command of the shelf's: FOR A HAND-IN. Each laying: the table of numbers ('.._ren') and one theorem, a field a fact of the dump's own or the kernel's comparison; each contract: ONE APPLICATION.
-/
import Derived.Shelf.Small.Bits
import Derived.Shelf.Strconv.Itoa0
import Derived.Shelf.Sort.Plain
import Derived.Shelf.Slices.In.SortNone
import Derived.Ground.SlbCloneProg
import Derived.Shelf.Bytes.SlClone
import Derived.Shelf.SlGeneric
import Derived.Shelf.SlIter.Nil
import Derived.Shelf.SortM.Plain
import Derived.Shelf.SortM.SortNone
import Derived.Ground.GgzProg
import Derived.Ground.SlgmProg
import Derived.Test.YtjkgcpbgacdgaaaProg
namespace Go.Proofs
open Go.Shelf
def Try.lays128_ren : Go.Shelf.Ren := ⟨fun | 128 => 91 | n => n, fun | 51 => 123 | 3 => 3 | 4 => 4 | 46 => 75 | 5 => 5 | 9 => 9 | n => n, fun | n => n⟩
theorem Try.lays128 : Go.Proofs.Lays.n128 Try.prog Try.lays128_ren := {
  mixed := by kernel_rfl
  f128 := Try.func91.trans (congrArg some (by kernel_rfl))
  t3 := Try.underlying3
  a3 := Try.isAgg3
  z3 := Try.sizeOf3
  v3 := Try.zeroValue3
  t4 := Try.underlying4
  a4 := Try.isAgg4
  z4 := Try.sizeOf4
  v4 := Try.zeroValue4
  t5 := Try.underlying5
  a5 := Try.isAgg5
  z5 := Try.sizeOf5
  v5 := Try.zeroValue5
  t9 := Try.underlying9
  a9 := Try.isAgg9
  z9 := Try.sizeOf9
  v9 := Try.zeroValue9
  t46 := Try.underlying75
  a46 := Try.isAgg75
  z46 := Try.sizeOf75
  v46 := Try.zeroValue75
  t51 := Try.underlying123
  a51 := Try.isAgg123
  z51 := Try.sizeOf123
  v51 := Try.zeroValue123 }
/-- bits.Len32: "Len32 returns the minimum number of bits required to represent x; the result is 0 for x == 0.": IT RETURNS 'Lib.bitLen x'; the world is as it was. ('h0', 'h1': x is a uint32.) (LAID: no walk: one application.) -/
theorem Try.bits_Len32 (x : Int) (w : World) (h0 : 0 ≤ x) (h1 : x ≤ 4294967295) :
    Calls Try.prog 91 #[.int .u32 x] w fun e w' => e = .returned (.int .i64 (Lib.bitLen x.toNat)) ∧ w' = w := Any.bits_Len32 Try.lays128 x w h0 h1
def Try.lays125_ren : Go.Shelf.Ren := ⟨fun | 125 => 81 | 128 => 91 | 129 => 92 | n => n, fun | 46 => 75 | 3 => 3 | 51 => 123 | 53 => 125 | 4 => 4 | 5 => 5 | 9 => 9 | n => n, fun | n => n⟩
theorem Try.lays125 : Go.Proofs.Lays.n125 Try.prog Try.lays125_ren := {
  mixed := by kernel_rfl
  f125 := Try.func81.trans (congrArg some (by kernel_rfl))
  f128 := Try.func91.trans (congrArg some (by kernel_rfl))
  f129 := Try.func92.trans (congrArg some (by kernel_rfl))
  t3 := Try.underlying3
  a3 := Try.isAgg3
  z3 := Try.sizeOf3
  v3 := Try.zeroValue3
  t4 := Try.underlying4
  a4 := Try.isAgg4
  z4 := Try.sizeOf4
  v4 := Try.zeroValue4
  t5 := Try.underlying5
  a5 := Try.isAgg5
  z5 := Try.sizeOf5
  v5 := Try.zeroValue5
  t9 := Try.underlying9
  a9 := Try.isAgg9
  z9 := Try.sizeOf9
  v9 := Try.zeroValue9
  t46 := Try.underlying75
  a46 := Try.isAgg75
  z46 := Try.sizeOf75
  v46 := Try.zeroValue75
  t51 := Try.underlying123
  a51 := Try.isAgg123
  z51 := Try.sizeOf123
  v51 := Try.zeroValue123
  t53 := Try.underlying125
  a53 := Try.isAgg125
  z53 := Try.sizeOf125
  v53 := Try.zeroValue125 }
/-- bits.Len: "Len returns the minimum number of bits required to represent x; the result is 0 for x == 0.": IT RETURNS 'Lib.bitLen x'; the world is as it was. (A uint has 64 bits in the model.) ITS CALLEE bits.Len64 IS MET BY ITS OWN CONTRACT OFF THE SHELF (lay that first). (LAID: no walk: one application.) -/
theorem Try.bits_Len (x : Int) (w : World) (h0 : 0 ≤ x) (h1 : x ≤ 18446744073709551615) :
    Calls Try.prog 81 #[.int .u64 x] w fun e w' => e = .returned (.int .i64 (Lib.bitLen x.toNat)) ∧ w' = w := Any.bits_Len Try.lays125 x w h0 h1
def Try.lays129_ren : Go.Shelf.Ren := ⟨fun | 129 => 92 | n => n, fun | 53 => 125 | 3 => 3 | 4 => 4 | 46 => 75 | 5 => 5 | 9 => 9 | n => n, fun | n => n⟩
theorem Try.lays129 : Go.Proofs.Lays.n129 Try.prog Try.lays129_ren := {
  mixed := by kernel_rfl
  f129 := Try.func92.trans (congrArg some (by kernel_rfl))
  t3 := Try.underlying3
  a3 := Try.isAgg3
  z3 := Try.sizeOf3
  v3 := Try.zeroValue3
  t4 := Try.underlying4
  a4 := Try.isAgg4
  z4 := Try.sizeOf4
  v4 := Try.zeroValue4
  t5 := Try.underlying5
  a5 := Try.isAgg5
  z5 := Try.sizeOf5
  v5 := Try.zeroValue5
  t9 := Try.underlying9
  a9 := Try.isAgg9
  z9 := Try.sizeOf9
  v9 := Try.zeroValue9
  t46 := Try.underlying75
  a46 := Try.isAgg75
  z46 := Try.sizeOf75
  v46 := Try.zeroValue75
  t53 := Try.underlying125
  a53 := Try.isAgg125
  z53 := Try.sizeOf125
  v53 := Try.zeroValue125 }
/-- bits.Len64: "Len64 returns the minimum number of bits required to represent x; the result is 0 for x == 0.": IT RETURNS 'Lib.bitLen x'; the world is as it was. ('h0', 'h1': x is a uint64.) (LAID: no walk: one application.) -/
theorem Try.bits_Len64 (x : Int) (w : World) (h0 : 0 ≤ x) (h1 : x ≤ 18446744073709551615) :
    Calls Try.prog 92 #[.int .u64 x] w fun e w' => e = .returned (.int .i64 (Lib.bitLen x.toNat)) ∧ w' = w := Any.bits_Len64 Try.lays129 x w h0 h1
def Try.lays190_ren : Go.Shelf.Ren := ⟨fun | 190 => 72 | 125 => 81 | 258 => 80 | 128 => 91 | 129 => 92 | 302 => 82 | 303 => 83 | 304 => 84 | 305 => 85 | 306 => 86 | 307 => 87 | 308 => 88 | 309 => 89 | 310 => 90 | 333 => 93 | 329 => 94 | 330 => 95 | 334 => 96 | 335 => 97 | 336 => 98 | 344 => 99 | n => n, fun | 31 => 48 | 9 => 9 | 3 => 3 | 46 => 75 | 0 => 0 | 51 => 123 | 53 => 125 | 4 => 4 | 183 => 115 | 182 => 114 | 131 => 120 | 5 => 5 | 218 => 126 | 222 => 130 | 228 => 132 | 229 => 133 | n => n, fun | n => n⟩
theorem Try.lays190 : Go.Proofs.Lays.n190 Try.prog Try.lays190_ren := {
  mixed := by kernel_rfl
  f125 := Try.func81.trans (congrArg some (by kernel_rfl))
  f128 := Try.func91.trans (congrArg some (by kernel_rfl))
  f129 := Try.func92.trans (congrArg some (by kernel_rfl))
  f190 := Try.func72.trans (congrArg some (by kernel_rfl))
  f258 := Try.func80.trans (congrArg some (by kernel_rfl))
  f302 := Try.func82.trans (congrArg some (by kernel_rfl))
  f303 := Try.func83.trans (congrArg some (by kernel_rfl))
  f304 := Try.func84.trans (congrArg some (by kernel_rfl))
  f305 := Try.func85.trans (congrArg some (by kernel_rfl))
  f306 := Try.func86.trans (congrArg some (by kernel_rfl))
  f307 := Try.func87.trans (congrArg some (by kernel_rfl))
  f308 := Try.func88.trans (congrArg some (by kernel_rfl))
  f309 := Try.func89.trans (congrArg some (by kernel_rfl))
  f310 := Try.func90.trans (congrArg some (by kernel_rfl))
  f329 := Try.func94.trans (congrArg some (by kernel_rfl))
  f330 := Try.func95.trans (congrArg some (by kernel_rfl))
  f333 := Try.func93.trans (congrArg some (by kernel_rfl))
  f334 := Try.func96.trans (congrArg some (by kernel_rfl))
  f335 := Try.func97.trans (congrArg some (by kernel_rfl))
  f336 := Try.func98.trans (congrArg some (by kernel_rfl))
  f344 := Try.func99.trans (congrArg some (by kernel_rfl))
  t0 := Try.underlying0
  a0 := Try.isAgg0
  z0 := Try.sizeOf0
  v0 := Try.zeroValue0
  t3 := Try.underlying3
  a3 := Try.isAgg3
  z3 := Try.sizeOf3
  v3 := Try.zeroValue3
  t4 := Try.underlying4
  a4 := Try.isAgg4
  z4 := Try.sizeOf4
  v4 := Try.zeroValue4
  t5 := Try.underlying5
  a5 := Try.isAgg5
  z5 := Try.sizeOf5
  v5 := Try.zeroValue5
  t9 := Try.underlying9
  a9 := Try.isAgg9
  z9 := Try.sizeOf9
  v9 := Try.zeroValue9
  t31 := Try.underlying48
  a31 := Try.isAgg48
  z31 := Try.sizeOf48
  v31 := Try.zeroValue48
  t46 := Try.underlying75
  a46 := Try.isAgg75
  z46 := Try.sizeOf75
  v46 := Try.zeroValue75
  t51 := Try.underlying123
  a51 := Try.isAgg123
  z51 := Try.sizeOf123
  v51 := Try.zeroValue123
  t53 := Try.underlying125
  a53 := Try.isAgg125
  z53 := Try.sizeOf125
  v53 := Try.zeroValue125
  t131 := Try.underlying120
  a131 := Try.isAgg120
  z131 := Try.sizeOf120
  v131 := Try.zeroValue120
  t182 := Try.underlying114
  a182 := Try.isAgg114
  z182 := Try.sizeOf114
  v182 := Try.zeroValue114
  t183 := Try.underlying115
  a183 := Try.isAgg115
  z183 := Try.sizeOf115
  v183 := Try.zeroValue115
  t218 := Try.underlying126
  a218 := Try.isAgg126
  z218 := Try.sizeOf126
  v218 := Try.zeroValue126
  t222 := Try.underlying130
  a222 := Try.isAgg130
  z222 := Try.sizeOf130
  v222 := Try.zeroValue130
  t228 := Try.underlying132
  a228 := Try.isAgg132
  z228 := Try.sizeOf132
  v228 := Try.zeroValue132
  t229 := Try.underlying133
  a229 := Try.isAgg133
  z229 := Try.sizeOf133
  v229 := Try.zeroValue133 }
open Go.Sort Go.RowKit in
theorem Try.slices_Sort_string (blk off cap : Nat) (ss : List (List UInt8)) (w : World) (hH : Holds encStr w blk off ss.toArray) (hblk : blk < w.heap.size) (hsz : ss.length < 4611686018427387904) :
    Calls Try.prog 72 #[.slice (some ⟨blk, off, none⟩) ss.length cap] w fun e w' =>
      e = .returned (.tuple #[]) ∧ ∃ n os, w' = grow (putRow encStr (Sort.ahead w n) blk off (ss.mergeSort fun x y => decide (x ≤ y)).toArray) os := Any.slices_Sort_string Try.lays190 blk off cap ss w hH hblk hsz
open Go.RowKit Go.Sort in
/-- .. and plain. (LAID: no walk: one application.) -/
theorem Try.slices_Sort_string_none (p : Option Addr) (cap : Nat) (w : World) :
    Calls Try.prog 72 #[.slice p 0 cap] w fun e w' => e = .returned (.tuple #[]) ∧ w' = w := Any.slices_Sort_string_none Try.lays190 p cap w
def Try.laysSlK4_ren : Go.Shelf.Ren := ⟨fun | 4 => 46 | n => n, fun | 22 => 23 | 4 => 4 | 5 => 5 | n => n, fun | n => n⟩
theorem Try.laysSlK4 : Go.Proofs.SlLaysK.n4 Try.prog Try.laysSlK4_ren := {
  mixed := by kernel_rfl
  f4 := Try.func46.trans (congrArg some (by kernel_rfl))
  t4 := Try.underlying4
  a4 := Try.isAgg4
  z4 := Try.sizeOf4
  v4 := Try.zeroValue4
  t22 := Try.underlying23
  a22 := Try.isAgg23
  z22 := Try.sizeOf23
  v22 := Try.zeroValue23
  t5 := Try.underlying5
  i5 := by kernel_rfl }
open Go.RowKit Go.Lib in
/-- bytes.Clone: "Clone returns a copy of b[:len(b)]. The result may have additional unused capacity.": OF A SLICE THAT IS NOT nil IT RETURNS A SLICE THAT IS NOT nil, OF THE SAME BYTES, IN MEMORY OF THE CALL's OWN: in the how-to's words (6f): 'w'.ownsRow B e 1 v' n cells' · 'Below B w w'', B the heap's size at the call. b AT WHATEVER ADDRESS, its cells as 'open_ints' hands them ('a.add i'; the numbers 'xs'). No byte: no cell is asked for. (LAID: no walk: one application.) -/
theorem Try.bytes_Clone_at (a : Addr) (n c : Nat) (xs : List Int) (w : World) (hx : xs.length = n) (hbig : n ≤ 140737488355328) (hc : ∀ i, i < n → w.cell? (a.add i) = some (.int .u8 (xs.getD i 0))) :
    Calls Try.prog 46 #[.slice (some a) n c] w fun e w' => ∃ v', e = .returned v' ∧ w'.ownsRow w.heap.size 5 1 v' n (xs.map (Value.int .u8)) ∧ v' ≠ .slice none 0 0 ∧ Below w.heap.size w w' := Any.bytes_Clone_at Try.laysSlK4 a n c xs w hx hbig hc
open Go.RowKit Go.Lib in
/-- "Clone(nil) returns nil.": the world is as it was. (LAID: no walk: one application.) -/
theorem Try.bytes_Clone_nil (n c : Nat) (w : World) :
    Calls Try.prog 46 #[.slice none n c] w fun e w' => e = .returned (.slice none 0 0) ∧ w' = w := Any.bytes_Clone_nil Try.laysSlK4 n c w
def Try.keys49_ren : Go.Shelf.Ren := ⟨fun | 7 => 49 | 10 => 73 | n => n, fun | 23 => 76 | 26 => 9 | 3 => 80 | 28 => 92 | 0 => 0 | 27 => 91 | 33 => 45 | 4 => 4 | n => n, fun | n => n⟩
theorem Try.keys49 : Go.Proofs.SlLaysZ.n7 Try.prog Try.keys49_ren := {
  mixed := by kernel_rfl
  f7 := ⟨Try.f49.name, by decide, Try.func49.trans (congrArg some (by kernel_rfl))⟩
  f10 := ⟨Try.f73.name, by decide, Try.func73.trans (congrArg some (by kernel_rfl))⟩
  t0 := Try.underlying0
  a0 := Try.isAgg0
  z0 := Try.sizeOf0
  v0 := Try.zeroValue0
  t4 := Try.underlying4
  a4 := Try.isAgg4
  z4 := Try.sizeOf4
  v4 := Try.zeroValue4
  t23 := Try.underlying76
  a23 := Try.isAgg76
  z23 := Try.sizeOf76
  v23 := Try.zeroValue76
  t26 := Try.underlying9
  a26 := Try.isAgg9
  z26 := Try.sizeOf9
  v26 := Try.zeroValue9
  t27 := Try.underlying91
  a27 := Try.isAgg91
  z27 := Try.sizeOf91
  v27 := Try.zeroValue91
  t28 := Try.underlying92
  a28 := Try.isAgg92
  z28 := Try.sizeOf92
  v28 := Try.zeroValue92
  t33 := Try.underlying45
  a33 := Try.isAgg45
  z33 := Try.sizeOf45
  v33 := Try.zeroValue45 }
def Try.sorted48_ren : Go.Shelf.Ren := ⟨fun | 6 => 48 | 8 => 71 | 9 => 72 | 11 => 79 | 13 => 81 | 12 => 80 | 23 => 91 | 24 => 92 | 14 => 82 | 15 => 83 | 16 => 84 | 17 => 85 | 18 => 86 | 19 => 87 | 20 => 88 | 21 => 89 | 22 => 90 | 25 => 93 | 26 => 94 | 27 => 95 | 28 => 96 | 29 => 97 | 30 => 98 | 31 => 99 | n => n, fun | 26 => 9 | 28 => 92 | 24 => 48 | 0 => 0 | 3 => 3 | 37 => 75 | 48 => 123 | 50 => 125 | 4 => 4 | 40 => 115 | 39 => 114 | 45 => 120 | 5 => 5 | 9 => 9 | 51 => 126 | 55 => 130 | 57 => 132 | 58 => 133 | 33 => 45 | n => n, fun | n => n⟩
theorem Try.sorted48 : Go.Proofs.SlLaysZ.n6 Try.prog Try.sorted48_ren := {
  mixed := by kernel_rfl
  f6 := ⟨Try.f48.name, by decide, Try.func48.trans (congrArg some (by kernel_rfl))⟩
  f8 := ⟨Try.f71.name, by decide, Try.func71.trans (congrArg some (by kernel_rfl))⟩
  f11 := ⟨Try.f79.name, by decide, Try.func79.trans (congrArg some (by kernel_rfl))⟩
  t0 := Try.underlying0
  a0 := Try.isAgg0
  z0 := Try.sizeOf0
  v0 := Try.zeroValue0
  t24 := Try.underlying48
  a24 := Try.isAgg48
  z24 := Try.sizeOf48
  v24 := Try.zeroValue48
  t26 := Try.underlying9
  a26 := Try.isAgg9
  z26 := Try.sizeOf9
  v26 := Try.zeroValue9
  t28 := Try.underlying92
  a28 := Try.isAgg92
  z28 := Try.sizeOf92
  v28 := Try.zeroValue92
  i26 := by kernel_rfl }
def Try.sort72_ren : Go.Shelf.Ren := ⟨fun | 6 => 72 | 8 => 81 | 9 => 80 | 19 => 91 | 20 => 92 | 21 => 82 | 22 => 83 | 23 => 84 | 24 => 85 | 25 => 86 | 26 => 87 | 27 => 88 | 28 => 89 | 29 => 90 | 36 => 93 | 31 => 94 | 32 => 95 | 37 => 96 | 38 => 97 | 39 => 98 | 41 => 99 | n => n, fun | 27 => 48 | 29 => 9 | 3 => 3 | 32 => 75 | 26 => 48 | 0 => 0 | 44 => 123 | 46 => 125 | 4 => 4 | 36 => 115 | 35 => 114 | 41 => 120 | 5 => 5 | 9 => 9 | 53 => 126 | 57 => 130 | 63 => 132 | 64 => 133 | n => n, fun | n => n⟩
theorem Try.sort72 : Go.Proofs.SlLaysM.n6 Try.prog Try.sort72_ren := {
  mixed := by kernel_rfl
  f6 := ⟨Try.f72.name, by decide, Try.func72.trans (congrArg some (by kernel_rfl))⟩
  f8 := Try.func81.trans (congrArg some (by kernel_rfl))
  f9 := ⟨Try.f80.name, by decide, Try.func80.trans (congrArg some (by kernel_rfl))⟩
  f19 := Try.func91.trans (congrArg some (by kernel_rfl))
  f20 := Try.func92.trans (congrArg some (by kernel_rfl))
  f21 := ⟨Try.f82.name, by decide, Try.func82.trans (congrArg some (by kernel_rfl))⟩
  f22 := ⟨Try.f83.name, by decide, Try.func83.trans (congrArg some (by kernel_rfl))⟩
  f23 := ⟨Try.f84.name, by decide, Try.func84.trans (congrArg some (by kernel_rfl))⟩
  f24 := ⟨Try.f85.name, by decide, Try.func85.trans (congrArg some (by kernel_rfl))⟩
  f25 := ⟨Try.f86.name, by decide, Try.func86.trans (congrArg some (by kernel_rfl))⟩
  f26 := ⟨Try.f87.name, by decide, Try.func87.trans (congrArg some (by kernel_rfl))⟩
  f27 := ⟨Try.f88.name, by decide, Try.func88.trans (congrArg some (by kernel_rfl))⟩
  f28 := ⟨Try.f89.name, by decide, Try.func89.trans (congrArg some (by kernel_rfl))⟩
  f29 := ⟨Try.f90.name, by decide, Try.func90.trans (congrArg some (by kernel_rfl))⟩
  f31 := Try.func94.trans (congrArg some (by kernel_rfl))
  f32 := Try.func95.trans (congrArg some (by kernel_rfl))
  f36 := ⟨Try.f93.name, by decide, Try.func93.trans (congrArg some (by kernel_rfl))⟩
  f37 := ⟨Try.f96.name, by decide, Try.func96.trans (congrArg some (by kernel_rfl))⟩
  f38 := ⟨Try.f97.name, by decide, Try.func97.trans (congrArg some (by kernel_rfl))⟩
  f39 := ⟨Try.f98.name, by decide, Try.func98.trans (congrArg some (by kernel_rfl))⟩
  f41 := ⟨Try.f99.name, by decide, Try.func99.trans (congrArg some (by kernel_rfl))⟩
  t0 := Try.underlying0
  a0 := Try.isAgg0
  z0 := Try.sizeOf0
  v0 := Try.zeroValue0
  t3 := Try.underlying3
  a3 := Try.isAgg3
  z3 := Try.sizeOf3
  v3 := Try.zeroValue3
  t4 := Try.underlying4
  a4 := Try.isAgg4
  z4 := Try.sizeOf4
  v4 := Try.zeroValue4
  t5 := Try.underlying5
  a5 := Try.isAgg5
  z5 := Try.sizeOf5
  v5 := Try.zeroValue5
  t9 := Try.underlying9
  a9 := Try.isAgg9
  z9 := Try.sizeOf9
  v9 := Try.zeroValue9
  t26 := Try.underlying48
  a26 := Try.isAgg48
  z26 := Try.sizeOf48
  v26 := Try.zeroValue48
  t27 := Try.underlying48
  a27 := Try.isAgg48
  z27 := Try.sizeOf48
  v27 := Try.zeroValue48
  t29 := Try.underlying9
  a29 := Try.isAgg9
  z29 := Try.sizeOf9
  v29 := Try.zeroValue9
  t32 := Try.underlying75
  a32 := Try.isAgg75
  z32 := Try.sizeOf75
  v32 := Try.zeroValue75
  t35 := Try.underlying114
  a35 := Try.isAgg114
  z35 := Try.sizeOf114
  v35 := Try.zeroValue114
  t36 := Try.underlying115
  a36 := Try.isAgg115
  z36 := Try.sizeOf115
  v36 := Try.zeroValue115
  t41 := Try.underlying120
  a41 := Try.isAgg120
  z41 := Try.sizeOf120
  v41 := Try.zeroValue120
  t44 := Try.underlying123
  a44 := Try.isAgg123
  z44 := Try.sizeOf123
  v44 := Try.zeroValue123
  t46 := Try.underlying125
  a46 := Try.isAgg125
  z46 := Try.sizeOf125
  v46 := Try.zeroValue125
  t53 := Try.underlying126
  a53 := Try.isAgg126
  z53 := Try.sizeOf126
  v53 := Try.zeroValue126
  t57 := Try.underlying130
  a57 := Try.isAgg130
  z57 := Try.sizeOf130
  v57 := Try.zeroValue130
  t63 := Try.underlying132
  a63 := Try.isAgg132
  z63 := Try.sizeOf132
  v63 := Try.zeroValue132
  t64 := Try.underlying133
  a64 := Try.isAgg133
  z64 := Try.sizeOf133
  v64 := Try.zeroValue133 }
open Go.RowKit Go.Maps Go.Sort Go.Shelf
/-- slices.Sort's two contracts at this dump, at the fence that asks nothing. -/
theorem Try.sorts48 (m : Nat) : AnyZ.SortsIn Try.prog Try.sorted48_ren Fence.wide m :=
  ⟨fun blk off cap ss W hH hblk hsz => callsIn_wide.2 (AnyM.slices_Sort_string Try.sort72 blk off cap ss W hH hblk hsz),
   fun p cap W => callsIn_wide.2 (AnyM.slices_Sort_string_none Try.sort72 p cap W)⟩

/-- **maps.Keys[map[string]*grist/disk.file,string,*grist/disk.file], at whatever map, the nil one too:** a function value over ONE NEW BLOCK, which holds the map. -/
theorem Try.maps_Keys_49 (mb : Option Nat) (W : World) : CallsIn Fence.wide 5 Try.prog 49 #[.map mb] W fun e w' => e = .returned (.func (.func 73) #[] #[.pointer (some ⟨W.heap.size, 0, none⟩)]) ∧ w' = W.alloc (.cells #[.map mb] 76) :=
  AnyZ.keys_in Try.keys49 Fence.wide 5 trivial rfl mb W

set_option maxHeartbeats 1000000 in
/-- **slices.Sorted[string] AT WHAT maps.Keys[map[string]*grist/disk.file,string,*grist/disk.file] HANDED BACK FOR A MAP THAT IS NOT nil** ('w': the world AHEAD of maps.Keys' call): A NEW SLICE THAT HOLDS THE MAP's KEYS, SORTED; nil just where it has none; nothing that lay before has turned. -/
theorem Try.slices_Sorted_keys_48_49 {H : Type} (b nn : Nat) (D0 : DataW H) (R : Value → Option (DataW H × List MemPlace)) (w : World) (hown : w.ownsMap Try.prog 9 R b nn D0) (hmax : Maps.size D0 ≤ maxLen) (hbytes : Maps.size D0 * 16 ≤ 140737488355328) :
    CallsIn Fence.wide 5 Try.prog 48 #[.func (.func 73) #[] #[.pointer (some ⟨w.heap.size, 0, none⟩)]] (w.alloc (.cells #[.map (some b)] 76)) fun e w' => ∃ (v : Value) (ss : List (List UInt8)), e = .returned v ∧ ss.Perm (strKeys D0) ∧
      w'.ownsRow (w.alloc (.cells #[.map (some b)] 76)).heap.size 9 1 v ss.length ((ss.mergeSort (fun x y => decide (x ≤ y))).map encStr) ∧ (v = .slice none 0 0 ↔ ss = []) ∧ Below (w.alloc (.cells #[.map (some b)] 76)).heap.size (w.alloc (.cells #[.map (some b)] 76)) w' := by
  have hbl := hown.lt
  have hseq : SeqGives Fence.wide 2 Try.prog 73 #[.pointer (some ⟨w.heap.size, 0, none⟩)] encStr (fun ss => ss.Perm (strKeys D0)) (Maps.size D0) (w.alloc (.cells #[.map (some b)] 76)) :=
    AnyZ.keys_gives (ρ := Try.keys49_ren) { Try.keys49 with } Fence.wide _ trivial rfl (by omega) w.heap.size b nn D0 _ (by simp) (by simp) (by
      obtain ⟨es, clock, hb, Ft, hs, hD⟩ := hown
      exact ⟨es, clock, (Below.heap_alloc _ _ b hbl).trans hb, Ft, hs, hD⟩)
  exact AnyZ.sorted_in Try.sorted48 Fence.wide 5 trivial trivial trivial trivial rfl (by omega) (Try.sorts48 _) (enters_of Try.func72 (by kernel_rfl) rfl) 73 #[.pointer (some ⟨w.heap.size, 0, none⟩)] trivial (enters_of Try.func73 (by kernel_rfl) rfl) _ _ hmax hbytes _ hseq

set_option maxHeartbeats 1000000 in
/-- **.. AND FOR THE nil MAP: nil.** -/
theorem Try.slices_Sorted_keys_nil_48_49 (w : World) :
    CallsIn Fence.wide 5 Try.prog 48 #[.func (.func 73) #[] #[.pointer (some ⟨w.heap.size, 0, none⟩)]] (w.alloc (.cells #[.map none] 76)) fun e w' => ∃ (v : Value) (ss : List (List UInt8)), e = .returned v ∧ ss = [] ∧
      w'.ownsRow (w.alloc (.cells #[.map none] 76)).heap.size 9 1 v ss.length ((ss.mergeSort (fun x y => decide (x ≤ y))).map encStr) ∧ (v = .slice none 0 0 ↔ ss = []) ∧ Below (w.alloc (.cells #[.map none] 76)).heap.size (w.alloc (.cells #[.map none] 76)) w' := by
  have hseq : SeqGives Fence.wide 2 Try.prog 73 #[.pointer (some ⟨w.heap.size, 0, none⟩)] encStr (fun ss : List (List UInt8) => ss = []) 0 (w.alloc (.cells #[.map none] 76)) :=
    AnyZ.keys_gives_nil (ρ := Try.keys49_ren) { Try.keys49 with } Fence.wide _ trivial rfl w.heap.size _ (by simp) (by simp)
  exact AnyZ.sorted_in Try.sorted48 Fence.wide 5 trivial trivial trivial trivial rfl (by omega) (Try.sorts48 _) (enters_of Try.func72 (by kernel_rfl) rfl) 73 #[.pointer (some ⟨w.heap.size, 0, none⟩)] trivial (enters_of Try.func73 (by kernel_rfl) rfl) _ 0 (Nat.zero_le _) (by omega) _ hseq

end Go.Proofs
