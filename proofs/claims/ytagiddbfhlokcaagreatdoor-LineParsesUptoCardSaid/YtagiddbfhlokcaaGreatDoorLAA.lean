/- Several texts of this proof, laid together. Conditions: as each says. -/
import Derived.Test.YtagiddbfhlokcaaGreatDoorRows
import Derived.WalkKit
import Derived.ProofKit
import Derived.OpenShut
import Derived.Below
import Derived.WalkLawsBesides
import Derived.WalkSpells
import Derived.Deep.Draws
import Derived.Deep.QuietTactic
import Derived.BigQuiet
import Derived.Deep.RegionHeld3
import Derived.Deep.AppendLies
import Derived.Laws.IdiomStrings
import Derived.Lib.Hide
import Derived.IntWalk
import Derived.Lib.Builder
import Derived.Shelf.Small.Bits
import Derived.Shelf.Bits.Mul64
import Derived.Shelf.Strconv.Itoa0
import Derived.Test.YtagiddbfhlokcaaGreatDoorProg
import Derived.Shelf.Strings.Builder1
import Derived.Shelf.Strings.Builder2
import Derived.Shelf.Strings.OnBuilder
import Derived.Shelf.Strings.Trim
import Derived.Shelf.Small.Utf8
import Derived.Shelf.Small.Strs
import Derived.Shelf.Small.Wraps
import Derived.Shelf.Strings.BuilderF
import Derived.Shelf.Strings.BuilderK
import Derived.Shelf.Utf8.RuneCount
import Derived.Shelf.Strings.Builder2Cap
import Derived.Shelf.Strconv.Atoi
import Derived.Shelf.Strconv.Itoa1
import Derived.Shelf.LaysM
import Derived.Shelf.Strconv.Itoa2
import Derived.Shelf.Strconv.Itoa3
import Derived.Shelf.Strconv.Itoa4
import Derived.Shelf.Strconv.AtoiErrFast
import Derived.Shelf.Strconv.ParseIntEmpty
import Derived.Shelf.Strconv.AtoiFail
import Derived.Shelf.Strconv.Clone
import Derived.Shelf.Strconv.SyntaxError
import Derived.Shelf.LaysC
import Derived.Shelf.Strconv.ToError
import Derived.Shelf.Strconv.Lower
import Derived.Shelf.Strconv.ParseUint10
import Derived.Shelf.Strconv.ParseUint10Empty
import Derived.Shelf.Strconv.ParseUint10Any
import Derived.Shelf.Strconv.ParseInt10
import Derived.Shelf.Strconv.AtoiLong
import Derived.Shelf.Strconv.AtoiInnerAll
import Derived.Shelf.Strconv.RangeError
import Derived.Shelf.Strconv.ToErrorRange
import Derived.Shelf.Strconv.AtoiAll
import Derived.Shelf.Strconv.ErrVarAll
import Derived.Shelf.Strconv.ParseUintEmpty
import Derived.Shelf.Strconv.ParseUint10b64
import Derived.Shelf.Strconv.ParseUint10b32
import Derived.Shelf.Strconv.ParseUint10b16
import Derived.Shelf.Strconv.ParseUint10b8
import Derived.Shelf.Strconv.ParseUint10At
import Derived.Shelf.Strconv.ParseInt10At64
import Derived.Shelf.Strconv.ParseInt10At32
import Derived.Shelf.Strconv.ParseInt10At16
import Derived.Shelf.Strconv.ParseInt10At8
import Derived.Shelf.Strconv.ParseInt10All
import Derived.Shelf.Strconv.ParseIntPublic10
import Derived.Shelf.Strconv.ErrVarParseInt
import Derived.Shelf.Strings.Search1
import Derived.Shelf.Strings.Search2
import Derived.Shelf.Strings.Search3
import Derived.Shelf.Strings.Cut
import Derived.Shelf.Strings.Count
import Derived.Shelf.Strings.Shaped
import Derived.Shelf.Strconv.AppendUint10
import Derived.Shelf.Strconv.AppendInt10
import Derived.Shelf.Strings.Prefix
import Derived.Shelf.Strings.Split
import Derived.Shelf.Strings.SplitShaped
import Derived.Shelf.Unicode.Decode
import Derived.Shelf.Strings.Runes
import Derived.Shelf.Strings.RuneCount
import Derived.Shelf.Strings.IndexAny
import Derived.Shelf.Strings.AsciiSet
import Derived.Shelf.Strings.IndexAnyAll
import Derived.Shelf.Strings.Explode
import Derived.Shelf.Unicode.DecodeSlow
import Derived.Shelf.Unicode.DecodeAny
import Derived.Lib.QuietBelow
/- The leaves of layer 15: names, special bytes, each as the code computes it. No condition but the sizes of what is read. -/
namespace Go.Proofs.YtagiddbfhlokcaaGreatDoor.Ser
open Go.RowKit
def okc (c : UInt8) : Bool := !(decide (c.toNat < 32) || decide (c.toNat = 127))
def nameB (l : List UInt8) : Bool := l.all okc && (decide (1 ≤ l.length) && decide (l.length ≤ 64))
theorem take_snoc (s : ByteArray) (k : Nat) (h : k < s.size) : s.data.toList.take (k + 1) = s.data.toList.take k ++ [s[k]] := by
  rw [List.take_succ_eq_append_getElem (by simpa using h)]; rfl
theorem nameB_bad (s : ByteArray) (k : Nat) (h : k < s.size) (hc : okc s[k] = false) : nameB s.data.toList = false := by
  have : s.data.toList.all okc = false := by
    rw [List.all_eq_false]
    exact ⟨s[k], List.getElem_mem (l := s.data.toList) (by simpa using h), by simp [hc]⟩
  simp [nameB, this]
theorem nameB_all (s : ByteArray) (h : (s.data.toList.take s.size).all okc = true) : nameB s.data.toList = (decide (1 ≤ s.size) && decide (s.size ≤ 64)) := by
  rw [List.take_of_length_le (by simp)] at h
  have e : s.data.toList.length = s.size := by simp
  simp only [nameB, h, Bool.true_and, e]
theorem toList_len (s : ByteArray) : s.toList.length = s.size := by rw [ByteArray.toList_eq]; simp
theorem not_empty {s : ByteArray} (h : 1 ≤ s.size) : s.toList.isEmpty = false := by
  rw [List.isEmpty_eq_false_iff_exists_mem]
  have : 0 < s.toList.length := by rw [toList_len]; omega
  exact ⟨s.toList[0], List.getElem_mem _⟩
theorem is_empty {s : ByteArray} (h : s.size = 0) : s.toList.isEmpty = true := by
  rw [List.isEmpty_iff_length_eq_zero, toList_len, h]
theorem ret_bool {a b : Bool} (h : a = b) : Ending.returned (.bool a) = .returned (.bool b) := by rw [h]
def InName (s : ByteArray) (i : Value) : Prop := ∃ k : Nat, k ≤ s.size ∧ i = .int .i64 k ∧ (s.data.toList.take k).all okc = true
theorem inName_next {s : ByteArray} {k : Nat} (h : k < s.size) (ha : (s.data.toList.take k).all okc = true) (hc : okc s[k] = true) : InName s (.int .i64 ((k : Int) + 1)) :=
  ⟨k + 1, h, by go_num, by rw [take_snoc s k h, List.all_append, ha]; simp [hc]⟩
theorem rname (s : ByteArray) (w : World) (hs : s.size ≤ maxLen) : Calls Tryz.prog 34 #[.string s] w fun e w' => e = .returned (.bool (nameB s.data.toList)) ∧ w = w' := by
  unfold maxLen at hs
  go_enter Tryz.func34, Tryz.ntmps34
  go_wp2
  go_loop [3] (fun i => InName s i) (fun i => s.size - (intOf i).toNat)
  case atStart => exact ⟨0, Nat.zero_le _, rfl, rfl⟩
  case round =>
    obtain ⟨k, hk, rfl, hall⟩ := hrel
    have HA := Lib.hid hall
    clear hall
    by_cases hlt : k < s.size
    · obtain ⟨c, hcc⟩ : ∃ c, s[k] = c := ⟨_, rfl⟩
      have HN := Lib.hid (inName_next hlt HA.out)
      have HB := Lib.hid (nameB_bad s k hlt)
      rw [hcc] at HN HB
      by_cases h1 : c.toNat < 32
      · have HC := Lib.hid (show okc c = false by simp [okc, h1])
        have h1i : (c.toNat : Int) < 32 := by omega
        clear h1
        go_wp2
        go_ret
        exact ⟨ret_bool (HB.out HC.out).symm, rfl⟩
      · have h1i : ¬ (c.toNat : Int) < 32 := by omega
        by_cases h2 : c.toNat = 127
        · have HC := Lib.hid (show okc c = false by simp [okc, h2])
          have h2i : ((c.toNat : Int) == 127) = true := by simp; omega
          clear h1 h2
          go_wp2
          go_ret
          exact ⟨ret_bool (HB.out HC.out).symm, rfl⟩
        · have HC := Lib.hid (show okc c = true by simp [okc, h1, h2])
          have h2i : ((c.toNat : Int) == 127) = false := by simp; omega
          clear h1 h2
          go_wp2
          go_round
          case rel => exact HN.out HC.out
          case measure => simp [intOf]; omega
    · have hke : k = s.size := by omega
      have HK := Lib.hid (nameB_all s (by rw [← hke]; exact HA.out))
      clear hke
      by_cases h3 : 1 ≤ s.size
      · have h3b : decide (1 ≤ s.size) = true := by simp; omega
        have h3i : (1 : Int) ≤ (s.size : Int) := by omega
        go_wp2
        go_ret
        exact ⟨ret_bool (by rw [HK.out, Bool.eq_iff_iff]; simp; omega), rfl⟩
      · have h3i : ¬ (1 : Int) ≤ (s.size : Int) := by omega
        go_wp2
        go_ret
        exact ⟨ret_bool (by rw [HK.out, Bool.eq_iff_iff]; simp; omega), rfl⟩
theorem vname (s : ByteArray) (w : World) (hs : s.size ≤ maxLen) : Calls Tryz.prog 40 #[.string s] w fun e w' => e = .returned (.bool (nameB s.data.toList)) ∧ Below w.heap.size w w' := by
  unfold maxLen at hs
  have hcv := run_bytes_of_string w 9 59 5 s Tryz.underlying9 Tryz.underlying59 Tryz.underlying5
  have hcells : ∀ j (hj : j < s.size), (w.drew.alloc (.cells (bytesRow s (grownCap w s.size 0 5)) 5 ((bytesRow s (grownCap w s.size 0 5)).size, (bytesRow s (grownCap w s.size 0 5)).size + 1))).cell? ⟨w.heap.size, j, none⟩ = some (.int .u8 (s[j].toNat : Int)) := by
    intro j hj
    have h1 := bytesRow_at s (grownCap w s.size 0 5) j hj
    have h2 := World.cell?_alloc_mark w.drew (bytesRow s (grownCap w s.size 0 5)) 5 ((bytesRow s (grownCap w s.size 0 5)).size, (bytesRow s (grownCap w s.size 0 5)).size + 1) j
    exact h2.trans h1
  have hbel : Below w.heap.size w (w.drew.alloc (.cells (bytesRow s (grownCap w s.size 0 5)) 5 ((bytesRow s (grownCap w s.size 0 5)).size, (bytesRow s (grownCap w s.size 0 5)).size + 1))) := (Below.refl _ _).drew.alloc (Nat.le_refl _) _
  generalize w.drew.alloc (.cells (bytesRow s (grownCap w s.size 0 5)) 5 ((bytesRow s (grownCap w s.size 0 5)).size, (bytesRow s (grownCap w s.size 0 5)).size + 1)) = w1 at *
  generalize grownCap w s.size 0 5 = cp at *
  have HC := Lib.hid hcells
  have HBB := Lib.hid hbel
  clear hcells hbel
  go_enter Tryz.func40, Tryz.ntmps40
  go_wp2
  go_loop [8] (fun i => InName s i) (fun i => s.size - (intOf i).toNat)
  case atStart => exact ⟨0, Nat.zero_le _, rfl, rfl⟩
  case round =>
    obtain ⟨k, hk, rfl, hall⟩ := hrel
    have HA := Lib.hid hall
    clear hall
    by_cases hlt : k < s.size
    · obtain ⟨c, hcc⟩ : ∃ c, s[k] = c := ⟨_, rfl⟩
      have HN := Lib.hid (inName_next hlt HA.out)
      have HB := Lib.hid (nameB_bad s k hlt)
      have hcell := HC.out k hlt
      rw [hcc] at HN HB hcell
      clear hcc
      by_cases h1 : c.toNat < 32
      · have HC := Lib.hid (show okc c = false by simp [okc, h1])
        have h1i : (c.toNat : Int) < 32 := by omega
        clear h1
        go_wp2
        go_ret
        exact ⟨ret_bool (HB.out HC.out).symm, HBB.out⟩
      · have h1i : ¬ (c.toNat : Int) < 32 := by omega
        by_cases h2 : c.toNat = 127
        · have HC := Lib.hid (show okc c = false by simp [okc, h2])
          have h2i : ((c.toNat : Int) == 127) = true := by simp; omega
          clear h1 h2
          go_wp2
          go_ret
          exact ⟨ret_bool (HB.out HC.out).symm, HBB.out⟩
        · have HC := Lib.hid (show okc c = true by simp [okc, h1, h2])
          have h2i : ((c.toNat : Int) == 127) = false := by simp; omega
          clear h1 h2
          go_wp2
          go_round
          case rel => exact HN.out HC.out
          case measure => simp [intOf]; omega
    · have hke : k = s.size := by omega
      have HK := Lib.hid (nameB_all s (by rw [← hke]; exact HA.out))
      clear hke
      by_cases h3 : 1 ≤ s.size
      · have h3b : s.toList.isEmpty = false := not_empty h3
        have h3i : (1 : Int) ≤ (s.size : Int) := by omega
        go_wp2
        go_ret
        exact ⟨ret_bool (by rw [HK.out, Bool.eq_iff_iff]; simp; omega), HBB.out⟩
      · have h3b : s.toList.isEmpty = true := is_empty (by omega)
        go_wp2
        go_ret
        exact ⟨ret_bool (by rw [HK.out]; simp [h3]), HBB.out⟩
end Go.Proofs.YtagiddbfhlokcaaGreatDoor.Ser
/- The builder's two writers at this dump: copyCheck and WriteByte, after the shelf's own proofs (the dump's copyCheck bears a refused panic, so the shelf's laying does not fit). Condition: a builder of the call's own, of fewer than 2^47 bytes. -/
namespace Go.Proofs.YtagiddbfhlokcaaGreatDoor
open Go.RowKit
set_option maxRecDepth 100000
theorem sizeBuilder : (Tryz.prog.info? 117).map (·.size) = some 2 := by kernel_rfl
theorem info5b : (Tryz.prog.info? 5).map (fun i => (i.zero, i.size, i.bytes)) = some (some (.int .u8 0), 1, 1) := by kernel_rfl
theorem liesBuilder : liesAt Tryz.prog Tryz.prog.depth 117 (2 / Tryz.prog.cellsOf 117) 0 117 1 = true := by kernel_rfl
theorem copyCheck_used (b : Nat) (w : World) (h0 : w.cell? ⟨b, 0, none⟩ = some (.pointer (some ⟨b, 0, none⟩))) :
    Calls Tryz.prog 108 #[.pointer (some ⟨b, 0, none⟩)] w fun e w' => e = .returned (.tuple #[]) ∧ w = w' := by
  obtain ⟨j, hj, _⟩ := Option.map_eq_some_iff.1 sizeBuilder
  go_enter Tryz.func108, Tryz.ntmps108
  go_wp2
  rw [Lib.run_neq_ptr_same w _ Tryz.underlying115 hj]
  go_wp2
  go_end0
  exact ⟨rfl, rfl⟩
theorem copyCheck_fresh (b : Nat) (w : World) (h0 : w.cell? ⟨b, 0, none⟩ = some (.pointer none)) (hsh : w.shape? b = some (117, 2)) (hfz : w.frozen? ⟨b, 0, none⟩ = false) :
    Calls Tryz.prog 108 #[.pointer (some ⟨b, 0, none⟩)] w fun e w' => e = .returned (.tuple #[]) ∧ w.setCell ⟨b, 0, none⟩ (.pointer (some ⟨b, 0, none⟩)) = w' := by
  obtain ⟨j, hj, hjs⟩ := Option.map_eq_some_iff.1 sizeBuilder
  go_enter Tryz.func108, Tryz.ntmps108
  go_wp2
  rw [Lib.run_to_unsafe w ⟨b, 0, none⟩ Tryz.underlying115 Tryz.underlying196 hj (by rw [hjs]; decide) hsh (Nat.zero_lt_succ 1)]
  simp only [Result.andThen]
  rw [Oper.upon_value]
  go_wp2
  rw [run_callFunc_extern Tryz.func157 (by kernel_rfl) (by kernel_rfl) (by kernel_rfl) (e := Extern.AbiNoEscape.same) (by kernel_rfl)]
  rw [Lib.run_noEscape]
  simp only [Result.andThen]
  rw [Oper.upon_value]
  go_wp2
  rw [Lib.run_from_unsafe w ⟨b, 0, none⟩ Tryz.underlying196 Tryz.underlying115 hj hsh liesBuilder]
  simp only [Result.andThen]
  rw [Oper.upon_value]
  go_wp2
  go_end0
  exact ⟨rfl, rfl⟩
theorem copyCheck (B b : Nat) (bs : List Value) (w : World) (h : Lib.IsBuilder 117 5 B b bs w) :
    Calls Tryz.prog 108 #[.pointer (some ⟨b, 0, none⟩)] w fun e w' => e = .returned (.tuple #[]) ∧ (Lib.BuilderAt 117 5 B b (.pointer (some ⟨b, 0, none⟩)) bs w' ∧ Below B w w') := by
  rcases h with h | h
  · refine (copyCheck_fresh b w h.cell0 h.shape h.frozen0).mono ?_
    rintro e w' ⟨rfl, rfl⟩
    exact ⟨rfl, h.used _, (Below.refl B w).setCell (p := ⟨b, 0, none⟩) h.1 _⟩
  · refine (copyCheck_used b w h.cell0).mono ?_
    rintro e w' ⟨rfl, rfl⟩
    exact ⟨rfl, h, Below.refl B _⟩
theorem writeByte (B b : Nat) (bs : List Value) (c : Int) (w : World) (h : Lib.IsBuilder 117 5 B b bs w) (hlen : bs.length + 1 ≤ 140737488355328) (hBw : B ≤ w.heap.size) :
    Calls Tryz.prog 71 #[.pointer (some ⟨b, 0, none⟩), .int .u8 c] w fun e w' => e = .returned .nilIface ∧ (Lib.BuilderAt 117 5 B b (.pointer (some ⟨b, 0, none⟩)) (bs ++ [.int .u8 c]) w' ∧ Below B w w') := by
  obtain ⟨i0, hi, hz0, hz1, hz2⟩ := info_parts info5b
  go_enter Tryz.func71, Tryz.ntmps71
  go_wp2_with (go_at_call 108; refine (copyCheck B b bs _ h).mono ?_)
  rintro e w1 ⟨rfl, h1, hb1⟩
  obtain ⟨hB, v, hbk, hown, hne⟩ := h1
  have c0 : w1.cell? ⟨b, 0, none⟩ = some (.pointer (some ⟨b, 0, none⟩)) := by rw [Lib.cell_of_heap hbk]; rfl
  have c1 : w1.cell? ⟨b, 1, none⟩ = some v := by rw [Lib.cell_of_heap hbk]; rfl
  go_wp2_with (at_builtin; refine wpList_append_own _ rfl _ _ 59 rfl B 5 i0 (.int .u8 0) 1 1 Tryz.underlying59 hi hz0 hz1 hz2 rfl (by decide) _ _ _ rfl (hown.alloc _) ⟨w1.heap.size, 0, none⟩ 1 1 [.int .u8 c] rfl rfl ?c1 ?c2 ?c3 ?c4 ?c5 ?_)
  case c1 =>
    intro j u hj
    match j, hj with
    | 0, hj => simp at hj; subst hj; simp [Addr.add]
  case c2 => intro u hu; simp at hu; subst hu; rfl
  case c3 => unfold maxLen; omega
  case c4 => omega
  case c5 => have := hb1.size; simp; omega
  intro v' w2 hown' hgrow _
  have hlt : b < w1.heap.size := by
    rcases Nat.lt_or_ge b w1.heap.size with h' | h'
    · exact h'
    · simp [Array.getElem?_eq_none h'] at hbk
  have hb2 : w2.heap[b]? = some (.cells #[.pointer (some ⟨b, 0, none⟩), v] 117 (0, 0)) := by
    rw [hgrow.block b (by simp; omega) (fun e => hne e.symm), Lib.alloc_old w1 _ b hlt]
    exact hbk
  have d0 : w2.cell? ⟨b, 0, none⟩ = some (.pointer (some ⟨b, 0, none⟩)) := by rw [Lib.cell_of_heap hb2]; rfl
  have d1 : w2.cell? ⟨b, 1, none⟩ = some v := by rw [Lib.cell_of_heap hb2]; rfl
  have f1 : w2.frozen? ⟨b, 1, none⟩ = false := Lib.frozen_of_heap hb2 1
  obtain ⟨g, cap, rfl⟩ : ∃ g cap, v' = .slice (some ⟨g, 0, none⟩) (bs.length + 1) cap := by
    rcases hown'.2 with ⟨_, h0⟩ | ⟨g, cap, cur, hv, _⟩
    · omega
    · exact ⟨g, cap, hv⟩
  go_wp2
  go_ret
  refine ⟨rfl, ?_, ?_⟩
  · exact Lib.BuilderAt.put (T := 117) (e := 5) hB hb2 (bs' := bs ++ [.int .u8 c]) (by simpa using hown') (by decide)
  · exact ((hb1.alloc (by have := hb1.size; omega) _).grown hgrow (by have := hb1.size; simp; omega) (fun k hk => (hown.lt k hk).1)).setCell (p := ⟨b, 1, none⟩) hB _
end Go.Proofs.YtagiddbfhlokcaaGreatDoor
/- Some of the shelf's contracts at this program, as lay-plain laid them. -/
namespace Go.Proofs
open Go.Shelf
def Tryz.lays129_ren : Go.Shelf.Ren := ⟨fun | 129 => 132 | n => n, fun | 53 => 51 | 3 => 3 | 4 => 4 | 46 => 60 | 5 => 5 | 9 => 9 | n => n, fun | n => n⟩
theorem Tryz.lays129 : Go.Proofs.Lays.n129 Tryz.prog Tryz.lays129_ren := {
  mixed := by kernel_rfl
  f129 := Tryz.func132.trans (congrArg some (by kernel_rfl))
  t3 := Tryz.underlying3
  a3 := Tryz.isAgg3
  z3 := Tryz.sizeOf3
  v3 := Tryz.zeroValue3
  t4 := Tryz.underlying4
  a4 := Tryz.isAgg4
  z4 := Tryz.sizeOf4
  v4 := Tryz.zeroValue4
  t5 := Tryz.underlying5
  a5 := Tryz.isAgg5
  z5 := Tryz.sizeOf5
  v5 := Tryz.zeroValue5
  t9 := Tryz.underlying9
  a9 := Tryz.isAgg9
  z9 := Tryz.sizeOf9
  v9 := Tryz.zeroValue9
  t46 := Tryz.underlying60
  a46 := Tryz.isAgg60
  z46 := Tryz.sizeOf60
  v46 := Tryz.zeroValue60
  t53 := Tryz.underlying51
  a53 := Tryz.isAgg51
  z53 := Tryz.sizeOf51
  v53 := Tryz.zeroValue51 }
/-- bits.Len64: "Len64 returns the minimum number of bits required to represent x; the result is 0 for x == 0.": IT RETURNS 'Lib.bitLen x'; the world is as it was. ('h0', 'h1': x is a uint64.) (LAID: no walk: one application.) -/
theorem Tryz.bits_Len64 (x : Int) (w : World) (h0 : 0 ≤ x) (h1 : x ≤ 18446744073709551615) :
    Calls Tryz.prog 132 #[.int .u64 x] w fun e w' => e = .returned (.int .i64 (Lib.bitLen x.toNat)) ∧ w' = w := Any.bits_Len64 Tryz.lays129 x w h0 h1
def Tryz.lays264_ren : Go.Shelf.Ren := ⟨fun | 264 => 271 | n => n, fun | 53 => 51 | 46 => 60 | n => n, fun | n => n⟩
theorem Tryz.lays264 : Go.Proofs.Lays.n264 Tryz.prog Tryz.lays264_ren := {
  mixed := by kernel_rfl
  f264 := Tryz.func271.trans (congrArg some (by kernel_rfl))
  t46 := Tryz.underlying60
  a46 := Tryz.isAgg60
  z46 := Tryz.sizeOf60
  v46 := Tryz.zeroValue60
  t53 := Tryz.underlying51
  a53 := Tryz.isAgg51
  z53 := Tryz.sizeOf51
  v53 := Tryz.zeroValue51 }
open Go.RowKit Go.Lib in
theorem Tryz.bits_Mul64 (x y : Nat) (hx : x < 18446744073709551616) (hy : y < 18446744073709551616) (w : World) :
    Calls Tryz.prog 271 #[.int .u64 x, .int .u64 y] w fun e w' => e = .returned (.tuple #[.int .u64 ((x * y / 18446744073709551616 : Nat) : Int), .int .u64 ((x * y % 18446744073709551616 : Nat) : Int)]) ∧ w' = w := Any.bits_Mul64 Tryz.lays264 x y hx hy w
end Go.Proofs
/-
  DERIVED: THE SHELF's CONTRACTS AT THIS DUMP, IN PLAIN WORDS (tools/lay-plain.mjs out of 'TryzShelf.lean', which tools/lay-shelf.mjs wrote): THE SAME DECLARATIONS UNDER THE SAME NAMES: 'import', 'namespace', 'open', 'def', 'theorem' AND NOTHING ELSE: no command of the shelf's: FOR A HAND-IN. Each laying: the table of numbers ('.._ren') and one theorem, a field a fact of the dump's own or the kernel's comparison; each contract: ONE APPLICATION.
-/
namespace Go.Proofs
open Go.Shelf
def Tryz.lays170_ren : Go.Shelf.Ren := ⟨fun | 170 => 92 | n => n, fun | 70 => 115 | 3 => 3 | 0 => 0 | 72 => 117 | 37 => 59 | 5 => 5 | n => n, fun | n => n⟩
theorem Tryz.lays170 : Go.Proofs.Lays.n170 Tryz.prog Tryz.lays170_ren := {
  mixed := by kernel_rfl
  f170 := Tryz.func92.trans (congrArg some (by kernel_rfl))
  t0 := Tryz.underlying0
  a0 := Tryz.isAgg0
  z0 := Tryz.sizeOf0
  v0 := Tryz.zeroValue0
  t3 := Tryz.underlying3
  a3 := Tryz.isAgg3
  z3 := Tryz.sizeOf3
  v3 := Tryz.zeroValue3
  t37 := Tryz.underlying59
  a37 := Tryz.isAgg59
  z37 := Tryz.sizeOf59
  v37 := Tryz.zeroValue59
  t70 := Tryz.underlying115
  a70 := Tryz.isAgg115
  z70 := Tryz.sizeOf115
  v70 := Tryz.zeroValue115
  t72 := Tryz.underlying117
  a72 := Tryz.isAgg117
  z72 := Tryz.sizeOf117
  v72 := Tryz.zeroValue117 }
open Go.RowKit in
/-- (*strings.Builder).Len: "Len returns the number of accumulated bytes; b.Len() == len(b.String()).": the world is as it was. (LAID: no walk: one application.) -/
theorem Tryz.Builder_Len (B b : Nat) (bs : List Value) (w : World) (h : Lib.IsBuilder 117 5 B b bs w) :
    Calls Tryz.prog 92 #[.pointer (some ⟨b, 0, none⟩)] w fun e w' => e = .returned (.int .i64 bs.length) ∧ w' = w := Any.Builder_Len Tryz.lays170 B b bs w h
def Tryz.lays169_ren : Go.Shelf.Ren := ⟨fun | 169 => 72 | n => n, fun | 70 => 115 | 9 => 9 | 0 => 0 | 72 => 117 | 37 => 59 | 127 => 161 | 3 => 3 | 5 => 5 | n => n, fun | n => n⟩
theorem Tryz.lays169 : Go.Proofs.Lays.n169 Tryz.prog Tryz.lays169_ren := {
  mixed := by kernel_rfl
  f169 := Tryz.func72.trans (congrArg some (by kernel_rfl))
  t0 := Tryz.underlying0
  a0 := Tryz.isAgg0
  z0 := Tryz.sizeOf0
  v0 := Tryz.zeroValue0
  t3 := Tryz.underlying3
  a3 := Tryz.isAgg3
  z3 := Tryz.sizeOf3
  v3 := Tryz.zeroValue3
  t9 := Tryz.underlying9
  a9 := Tryz.isAgg9
  z9 := Tryz.sizeOf9
  v9 := Tryz.zeroValue9
  t37 := Tryz.underlying59
  a37 := Tryz.isAgg59
  z37 := Tryz.sizeOf59
  v37 := Tryz.zeroValue59
  t70 := Tryz.underlying115
  a70 := Tryz.isAgg115
  z70 := Tryz.sizeOf115
  v70 := Tryz.zeroValue115
  t72 := Tryz.underlying117
  a72 := Tryz.isAgg117
  z72 := Tryz.sizeOf117
  v72 := Tryz.zeroValue117
  t127 := Tryz.underlying161
  a127 := Tryz.isAgg161
  z127 := Tryz.sizeOf161
  v127 := Tryz.zeroValue161 }
theorem Tryz.Builder_Extra_169 : Builder.Extra Tryz.prog Tryz.lays169_ren := {
  sizeBuilder := by kernel_rfl
  liesBuilder := by kernel_rfl
  t5 := Tryz.underlying5
  a5 := Tryz.isAgg5
  z5 := Tryz.sizeOf5
  v5 := Tryz.zeroValue5
  infoByte := by kernel_rfl
  cellsByte := by kernel_rfl
  sizeByte := by kernel_rfl
  neB5 := by decide }
open Go.RowKit in
/-- (*strings.Builder).String: "String returns the accumulated string.": WHATEVER THE BUILDER HOLDS. (LAID: no walk: one application.) -/
theorem Tryz.Builder_String_any (B b : Nat) (l : List UInt8) (w : World) (h : Lib.IsBuilder 117 5 B b (Lib.byteCells l) w) (hBw : B ≤ w.heap.size) :
    Calls Tryz.prog 72 #[.pointer (some ⟨b, 0, none⟩)] w fun e w' => e = .returned (.string ⟨l.toArray⟩) ∧ Below B w w' := Any.Builder_String_any Tryz.lays169 Tryz.Builder_Extra_169 B b l w h hBw
def Tryz.lays161_ren : Go.Shelf.Ren := ⟨fun | 161 => 120 | 231 => 169 | 227 => 118 | 233 => 170 | 235 => 171 | 228 => 119 | 197 => 197 | 151 => 199 | 260 => 236 | 152 => 116 | 137 => 70 | 119 => 166 | 224 => 167 | 225 => 168 | 217 => 107 | 266 => 156 | n => n, fun | 9 => 9 | 4 => 4 | 3 => 3 | 5 => 5 | 117 => 172 | 116 => 171 | 0 => 0 | 124 => 205 | 105 => 243 | 21 => 21 | 119 => 235 | 46 => 60 | 139 => 334 | 138 => 333 | n => n, fun | 3 => 13 | 4 => 14 | n => n⟩
theorem Tryz.lays161 : Go.Proofs.Lays.n161 Tryz.prog Tryz.lays161_ren := {
  mixed := by kernel_rfl
  f119 := Tryz.func166.trans (congrArg some (by kernel_rfl))
  f137 := Tryz.func70.trans (congrArg some (by kernel_rfl))
  f151 := Tryz.func199.trans (congrArg some (by kernel_rfl))
  f152 := Tryz.func116.trans (congrArg some (by kernel_rfl))
  f161 := Tryz.func120.trans (congrArg some (by kernel_rfl))
  f197 := Tryz.func197.trans (congrArg some (by kernel_rfl))
  f217 := Tryz.func107.trans (congrArg some (by kernel_rfl))
  f224 := Tryz.func167.trans (congrArg some (by kernel_rfl))
  f225 := Tryz.func168.trans (congrArg some (by kernel_rfl))
  f227 := Tryz.func118.trans (congrArg some (by kernel_rfl))
  f228 := Tryz.func119.trans (congrArg some (by kernel_rfl))
  f231 := Tryz.func169.trans (congrArg some (by kernel_rfl))
  f233 := Tryz.func170.trans (congrArg some (by kernel_rfl))
  f235 := Tryz.func171.trans (congrArg some (by kernel_rfl))
  f260 := Tryz.func236.trans (congrArg some (by kernel_rfl))
  f266 := Tryz.func156.trans (congrArg some (by kernel_rfl))
  t0 := Tryz.underlying0
  a0 := Tryz.isAgg0
  z0 := Tryz.sizeOf0
  v0 := Tryz.zeroValue0
  t3 := Tryz.underlying3
  a3 := Tryz.isAgg3
  z3 := Tryz.sizeOf3
  v3 := Tryz.zeroValue3
  t4 := Tryz.underlying4
  a4 := Tryz.isAgg4
  z4 := Tryz.sizeOf4
  v4 := Tryz.zeroValue4
  t5 := Tryz.underlying5
  a5 := Tryz.isAgg5
  z5 := Tryz.sizeOf5
  v5 := Tryz.zeroValue5
  t9 := Tryz.underlying9
  a9 := Tryz.isAgg9
  z9 := Tryz.sizeOf9
  v9 := Tryz.zeroValue9
  t21 := Tryz.underlying21
  a21 := Tryz.isAgg21
  z21 := Tryz.sizeOf21
  v21 := Tryz.zeroValue21
  t46 := Tryz.underlying60
  a46 := Tryz.isAgg60
  z46 := Tryz.sizeOf60
  v46 := Tryz.zeroValue60
  t105 := Tryz.underlying243
  a105 := Tryz.isAgg243
  z105 := Tryz.sizeOf243
  v105 := Tryz.zeroValue243
  t116 := Tryz.underlying171
  a116 := Tryz.isAgg171
  z116 := Tryz.sizeOf171
  t117 := Tryz.underlying172
  a117 := Tryz.isAgg172
  z117 := Tryz.sizeOf172
  v117 := Tryz.zeroValue172
  t119 := Tryz.underlying235
  a119 := Tryz.isAgg235
  z119 := Tryz.sizeOf235
  t124 := Tryz.underlying205
  a124 := Tryz.isAgg205
  z124 := Tryz.sizeOf205
  v124 := Tryz.zeroValue205
  t138 := Tryz.underlying333
  a138 := Tryz.isAgg333
  z138 := Tryz.sizeOf333
  v138 := Tryz.zeroValue333
  t139 := Tryz.underlying334
  a139 := Tryz.isAgg334
  z139 := Tryz.sizeOf334
  v139 := Tryz.zeroValue334
  g3 := by kernel_rfl
  g4 := by kernel_rfl }
def Tryz.lays119_ren : Go.Shelf.Ren := ⟨fun | 119 => 166 | n => n, fun | 21 => 21 | 4 => 4 | n => n, fun | n => n⟩
theorem Tryz.lays119 : Go.Proofs.Lays.n119 Tryz.prog Tryz.lays119_ren := {
  mixed := by kernel_rfl
  f119 := Tryz.func166.trans (congrArg some (by kernel_rfl))
  t4 := Tryz.underlying4
  a4 := Tryz.isAgg4
  z4 := Tryz.sizeOf4
  v4 := Tryz.zeroValue4
  t21 := Tryz.underlying21
  a21 := Tryz.isAgg21
  z21 := Tryz.sizeOf21
  v21 := Tryz.zeroValue21 }
/-- utf8.ValidRune: "ValidRune reports whether r can be legally encoded as UTF-8. Code points that are out of range or a surrogate half are illegal.": IT RETURNS 'Lib.validRune r'; the world is as it was. (LAID: no walk: one application.) -/
theorem Tryz.utf8_ValidRune (r : Int) (w : World) :
    Calls Tryz.prog 166 #[.int .i32 r] w fun e w' => e = .returned (.bool (Lib.validRune r)) ∧ w' = w := Any.utf8_ValidRune Tryz.lays119 r w
def Tryz.lays137_ren : Go.Shelf.Ren := ⟨fun | 137 => 70 | 217 => 107 | 266 => 156 | n => n, fun | 9 => 9 | 5 => 5 | 3 => 3 | n => n, fun | n => n⟩
theorem Tryz.lays137 : Go.Proofs.Lays.n137 Tryz.prog Tryz.lays137_ren := {
  mixed := by kernel_rfl
  f137 := Tryz.func70.trans (congrArg some (by kernel_rfl))
  f217 := Tryz.func107.trans (congrArg some (by kernel_rfl))
  f266 := Tryz.func156.trans (congrArg some (by kernel_rfl))
  t3 := Tryz.underlying3
  a3 := Tryz.isAgg3
  z3 := Tryz.sizeOf3
  v3 := Tryz.zeroValue3
  t5 := Tryz.underlying5
  a5 := Tryz.isAgg5
  z5 := Tryz.sizeOf5
  v5 := Tryz.zeroValue5
  t9 := Tryz.underlying9
  a9 := Tryz.isAgg9
  z9 := Tryz.sizeOf9
  v9 := Tryz.zeroValue9 }
open Go.RowKit in
/-- strings.IndexByte: "IndexByte returns the index of the first instance of c in s, or -1 if c is not present in s.": IT RETURNS 'Lib.indexByte s c'; the world is as it was. (LAID: no walk: one application.) -/
theorem Tryz.strings_IndexByte (s : ByteArray) (c : Int) (w : World) :
    Calls Tryz.prog 70 #[.string s, .int .u8 c] w fun e w' => e = .returned (.int .i64 (Lib.indexByte s.data.toList c.toNat.toUInt8)) ∧ w' = w := Any.strings_IndexByte Tryz.lays137 s c w
def Tryz.lays104_ren : Go.Shelf.Ren := ⟨fun | 104 => 57 | 211 => 93 | 207 => 146 | n => n, fun | 9 => 9 | 4 => 4 | 24 => 101 | 3 => 3 | n => n, fun | n => n⟩
theorem Tryz.lays104 : Go.Proofs.Lays.n104 Tryz.prog Tryz.lays104_ren := {
  mixed := by kernel_rfl
  f104 := Tryz.func57.trans (congrArg some (by kernel_rfl))
  f207 := Tryz.func146.trans (congrArg some (by kernel_rfl))
  f211 := Tryz.func93.trans (congrArg some (by kernel_rfl))
  t3 := Tryz.underlying3
  a3 := Tryz.isAgg3
  z3 := Tryz.sizeOf3
  v3 := Tryz.zeroValue3
  t4 := Tryz.underlying4
  a4 := Tryz.isAgg4
  z4 := Tryz.sizeOf4
  v4 := Tryz.zeroValue4
  t9 := Tryz.underlying9
  a9 := Tryz.isAgg9
  z9 := Tryz.sizeOf9
  v9 := Tryz.zeroValue9
  t24 := Tryz.underlying101
  a24 := Tryz.isAgg101
  z24 := Tryz.sizeOf101
  v24 := Tryz.zeroValue101 }
open Go.RowKit in
/-- strings.CutSuffix: "CutSuffix returns s without the provided ending suffix string and reports whether it found the suffix. If s doesn't end with suffix, CutSuffix returns s, false. If suffix is the empty string, CutSuffix returns s, true.": IT RETURNS '(Lib.trimSuffix s p, Lib.hasSuffix s p)'; the world is as it was. (LAID: no walk: one application.) -/
theorem Tryz.strings_CutSuffix (s p : ByteArray) (w : World) (hs : s.size ≤ 9223372036854775807) :
    Calls Tryz.prog 57 #[.string s, .string p] w fun e w' => e = .returned (.tuple #[.string ⟨(Lib.trimSuffix s.data.toList p.data.toList).toArray⟩, .bool (Lib.hasSuffix s.data.toList p.data.toList)]) ∧ w' = w := Any.strings_CutSuffix Tryz.lays104 s p w hs
def Tryz.lays172_ren : Go.Shelf.Ren := ⟨fun | 172 => 102 | 244 => 151 | 245 => 91 | 247 => 122 | 279 => 142 | 280 => 143 | 281 => 144 | 282 => 145 | 287 => 172 | 316 => 183 | 171 => 103 | 205 => 184 | 321 => 200 | 322 => 201 | 243 => 152 | 246 => 75 | 283 => 110 | 284 => 111 | 285 => 112 | 286 => 113 | 129 => 132 | 317 => 159 | 318 => 160 | 319 => 161 | 320 => 162 | 337 => 194 | 338 => 195 | n => n, fun | 9 => 9 | 3 => 3 | 75 => 104 | 76 => 122 | 4 => 4 | 5 => 5 | 167 => 189 | 37 => 59 | 0 => 0 | 85 => 132 | 2 => 2 | 168 => 190 | 53 => 51 | 175 => 208 | 46 => 60 | 210 => 223 | 127 => 161 | 145 => 276 | 143 => 274 | 21 => 21 | 171 => 162 | 173 => 165 | 212 => 201 | 51 => 147 | 20 => 20 | 213 => 202 | 232 => 281 | 233 => 301 | 80 => 120 | n => n, fun | 15 => 2 | 16 => 3 | 17 => 1 | 18 => 8 | 19 => 9 | n => n⟩
theorem Tryz.lays172 : Go.Proofs.Lays.n172 Tryz.prog Tryz.lays172_ren := {
  mixed := by kernel_rfl
  f129 := Tryz.func132.trans (congrArg some (by kernel_rfl))
  f171 := Tryz.func103.trans (congrArg some (by kernel_rfl))
  f172 := Tryz.func102.trans (congrArg some (by kernel_rfl))
  f205 := Tryz.func184.trans (congrArg some (by kernel_rfl))
  f243 := Tryz.func152.trans (congrArg some (by kernel_rfl))
  f244 := Tryz.func151.trans (congrArg some (by kernel_rfl))
  f245 := Tryz.func91.trans (congrArg some (by kernel_rfl))
  f246 := Tryz.func75.trans (congrArg some (by kernel_rfl))
  f247 := Tryz.func122.trans (congrArg some (by kernel_rfl))
  f279 := Tryz.func142.trans (congrArg some (by kernel_rfl))
  f280 := Tryz.func143.trans (congrArg some (by kernel_rfl))
  f281 := Tryz.func144.trans (congrArg some (by kernel_rfl))
  f282 := Tryz.func145.trans (congrArg some (by kernel_rfl))
  f283 := Tryz.func110.trans (congrArg some (by kernel_rfl))
  f284 := Tryz.func111.trans (congrArg some (by kernel_rfl))
  f285 := Tryz.func112.trans (congrArg some (by kernel_rfl))
  f286 := Tryz.func113.trans (congrArg some (by kernel_rfl))
  f287 := Tryz.func172.trans (congrArg some (by kernel_rfl))
  f316 := Tryz.func183.trans (congrArg some (by kernel_rfl))
  f317 := Tryz.func159.trans (congrArg some (by kernel_rfl))
  f318 := Tryz.func160.trans (congrArg some (by kernel_rfl))
  f319 := Tryz.func161.trans (congrArg some (by kernel_rfl))
  f320 := Tryz.func162.trans (congrArg some (by kernel_rfl))
  f321 := Tryz.func200.trans (congrArg some (by kernel_rfl))
  f322 := Tryz.func201.trans (congrArg some (by kernel_rfl))
  f337 := Tryz.func194.trans (congrArg some (by kernel_rfl))
  f338 := Tryz.func195.trans (congrArg some (by kernel_rfl))
  t0 := Tryz.underlying0
  a0 := Tryz.isAgg0
  z0 := Tryz.sizeOf0
  v0 := Tryz.zeroValue0
  t2 := Tryz.underlying2
  a2 := Tryz.isAgg2
  z2 := Tryz.sizeOf2
  v2 := Tryz.zeroValue2
  t3 := Tryz.underlying3
  a3 := Tryz.isAgg3
  z3 := Tryz.sizeOf3
  v3 := Tryz.zeroValue3
  t4 := Tryz.underlying4
  a4 := Tryz.isAgg4
  z4 := Tryz.sizeOf4
  v4 := Tryz.zeroValue4
  t5 := Tryz.underlying5
  a5 := Tryz.isAgg5
  z5 := Tryz.sizeOf5
  v5 := Tryz.zeroValue5
  t9 := Tryz.underlying9
  a9 := Tryz.isAgg9
  z9 := Tryz.sizeOf9
  v9 := Tryz.zeroValue9
  t20 := Tryz.underlying20
  a20 := Tryz.isAgg20
  z20 := Tryz.sizeOf20
  v20 := Tryz.zeroValue20
  t21 := Tryz.underlying21
  a21 := Tryz.isAgg21
  z21 := Tryz.sizeOf21
  v21 := Tryz.zeroValue21
  t37 := Tryz.underlying59
  a37 := Tryz.isAgg59
  z37 := Tryz.sizeOf59
  v37 := Tryz.zeroValue59
  t46 := Tryz.underlying60
  a46 := Tryz.isAgg60
  z46 := Tryz.sizeOf60
  v46 := Tryz.zeroValue60
  t51 := Tryz.underlying147
  a51 := Tryz.isAgg147
  z51 := Tryz.sizeOf147
  v51 := Tryz.zeroValue147
  t53 := Tryz.underlying51
  a53 := Tryz.isAgg51
  z53 := Tryz.sizeOf51
  v53 := Tryz.zeroValue51
  t75 := Tryz.underlying104
  a75 := Tryz.isAgg104
  z75 := Tryz.sizeOf104
  v75 := Tryz.zeroValue104
  t76 := Tryz.underlying122
  a76 := Tryz.isAgg122
  z76 := Tryz.sizeOf122
  v76 := Tryz.zeroValue122
  t85 := Tryz.underlying132
  a85 := Tryz.isAgg132
  z85 := Tryz.sizeOf132
  v85 := Tryz.zeroValue132
  t127 := Tryz.underlying161
  a127 := Tryz.isAgg161
  z127 := Tryz.sizeOf161
  v127 := Tryz.zeroValue161
  t143 := Tryz.underlying274
  a143 := Tryz.isAgg274
  z143 := Tryz.sizeOf274
  v143 := Tryz.zeroValue274
  t145 := Tryz.underlying276
  a145 := Tryz.isAgg276
  z145 := Tryz.sizeOf276
  v145 := Tryz.zeroValue276
  t167 := Tryz.underlying189
  a167 := Tryz.isAgg189
  z167 := Tryz.sizeOf189
  v167 := Tryz.zeroValue189
  t168 := Tryz.underlying190
  a168 := Tryz.isAgg190
  z168 := Tryz.sizeOf190
  v168 := Tryz.zeroValue190
  t171 := Tryz.underlying162
  a171 := Tryz.isAgg162
  z171 := Tryz.sizeOf162
  v171 := Tryz.zeroValue162
  t173 := Tryz.underlying165
  a173 := Tryz.isAgg165
  z173 := Tryz.sizeOf165
  v173 := Tryz.zeroValue165
  t175 := Tryz.underlying208
  a175 := Tryz.isAgg208
  z175 := Tryz.sizeOf208
  v175 := Tryz.zeroValue208
  t210 := Tryz.underlying223
  a210 := Tryz.isAgg223
  z210 := Tryz.sizeOf223
  v210 := Tryz.zeroValue223
  t212 := Tryz.underlying201
  a212 := Tryz.isAgg201
  z212 := Tryz.sizeOf201
  v212 := Tryz.zeroValue201
  t213 := Tryz.underlying202
  a213 := Tryz.isAgg202
  z213 := Tryz.sizeOf202
  t232 := Tryz.underlying281
  a232 := Tryz.isAgg281
  z232 := Tryz.sizeOf281
  v232 := Tryz.zeroValue281
  t233 := Tryz.underlying301
  a233 := Tryz.isAgg301
  z233 := Tryz.sizeOf301
  v233 := Tryz.zeroValue301
  g15 := by kernel_rfl
  g16 := by kernel_rfl
  g17 := by kernel_rfl
  g18 := by kernel_rfl
  g19 := by kernel_rfl }
open Go.RowKit in
/-- strconv.Atoi: "Atoi is equivalent to ParseInt(s, 10, 0), converted to type int.": AT A DECIMAL NUMERAL OF AT MOST 18 BYTES: its value, and a nil error. The world behind the call: the one new row that the library's '[]byte(s)' lays. (LAID: no walk: one application.) -/
theorem Tryz.strconv_Atoi (s : ByteArray) (n : Int) (hl : s.size ≤ 18) (h : Lib.atoi s.data.toList = some n) (w : World) :
    Calls Tryz.prog 102 #[.string s] w fun e w' => e = .returned (.tuple #[.int .i64 n, .nilIface]) ∧ ∃ t, w' = Lib.bytesWorld w 5 t := Any.strconv_Atoi Tryz.lays172 s n hl h w
def Tryz.laysM284_ren : Go.Shelf.Ren := ⟨fun | 284 => 111 | 129 => 132 | 317 => 159 | 318 => 160 | n => n, fun | 53 => 51 | 3 => 3 | 212 => 201 | 0 => 0 | 4 => 4 | 46 => 60 | 5 => 5 | 9 => 9 | n => n, fun | 17 => 1 | n => n⟩
theorem Tryz.laysM284 : Go.Proofs.LaysM.n284 Tryz.prog Tryz.laysM284_ren := {
  mixed := by kernel_rfl
  f129 := Tryz.func132.trans (congrArg some (by kernel_rfl))
  f284 := Tryz.func111.trans (congrArg some (by kernel_rfl))
  f317 := Tryz.func159.trans (congrArg some (by kernel_rfl))
  f318 := Tryz.func160.trans (congrArg some (by kernel_rfl))
  t0 := Tryz.underlying0
  a0 := Tryz.isAgg0
  z0 := Tryz.sizeOf0
  v0 := Tryz.zeroValue0
  t3 := Tryz.underlying3
  a3 := Tryz.isAgg3
  z3 := Tryz.sizeOf3
  v3 := Tryz.zeroValue3
  t4 := Tryz.underlying4
  a4 := Tryz.isAgg4
  z4 := Tryz.sizeOf4
  v4 := Tryz.zeroValue4
  t5 := Tryz.underlying5
  a5 := Tryz.isAgg5
  z5 := Tryz.sizeOf5
  v5 := Tryz.zeroValue5
  t9 := Tryz.underlying9
  a9 := Tryz.isAgg9
  z9 := Tryz.sizeOf9
  v9 := Tryz.zeroValue9
  t46 := Tryz.underlying60
  a46 := Tryz.isAgg60
  z46 := Tryz.sizeOf60
  v46 := Tryz.zeroValue60
  t53 := Tryz.underlying51
  a53 := Tryz.isAgg51
  z53 := Tryz.sizeOf51
  v53 := Tryz.zeroValue51
  t212 := Tryz.underlying201
  a212 := Tryz.isAgg201
  z212 := Tryz.sizeOf201
  v212 := Tryz.zeroValue201
  g17 := by kernel_rfl
  i0 := by kernel_rfl
  i3 := by kernel_rfl
  i4 := by kernel_rfl
  i5 := by kernel_rfl
  i9 := by kernel_rfl
  i46 := by kernel_rfl
  i53 := by kernel_rfl
  i212 := by kernel_rfl
  m17 := by kernel_rfl }
open Go.Lib in
/-- internal/strconv.numDigits, at a d that is not 0: THE NUMBER OF d's DECIMAL DIGITS. The world is as it was. (LAID: no walk: one application.) -/
theorem Tryz.internal_strconv_numDigits (u : Nat) (h1 : 1 ≤ u) (h2 : u < 18446744073709551616) (w : World) (htab : Lib.TabIs Tryz.prog w "internal/strconv.uint64pow10" .u64 Lib.pow10Tab) :
    Calls Tryz.prog 111 #[.int .u64 u] w fun e w' => e = .returned (.int .i64 (Lib.nDigits u)) ∧ w' = w := Any.internal_strconv_numDigits Tryz.laysM284 u h1 h2 w htab
def Tryz.lays285_ren : Go.Shelf.Ren := ⟨fun | 285 => 112 | n => n, fun | 37 => 59 | 53 => 51 | 3 => 3 | 4 => 4 | 51 => 147 | 9 => 9 | 5 => 5 | 0 => 0 | n => n, fun | n => n⟩
theorem Tryz.lays285 : Go.Proofs.Lays.n285 Tryz.prog Tryz.lays285_ren := {
  mixed := by kernel_rfl
  f285 := Tryz.func112.trans (congrArg some (by kernel_rfl))
  t0 := Tryz.underlying0
  a0 := Tryz.isAgg0
  z0 := Tryz.sizeOf0
  v0 := Tryz.zeroValue0
  t3 := Tryz.underlying3
  a3 := Tryz.isAgg3
  z3 := Tryz.sizeOf3
  v3 := Tryz.zeroValue3
  t4 := Tryz.underlying4
  a4 := Tryz.isAgg4
  z4 := Tryz.sizeOf4
  v4 := Tryz.zeroValue4
  t5 := Tryz.underlying5
  a5 := Tryz.isAgg5
  z5 := Tryz.sizeOf5
  v5 := Tryz.zeroValue5
  t9 := Tryz.underlying9
  a9 := Tryz.isAgg9
  z9 := Tryz.sizeOf9
  v9 := Tryz.zeroValue9
  t37 := Tryz.underlying59
  a37 := Tryz.isAgg59
  z37 := Tryz.sizeOf59
  v37 := Tryz.zeroValue59
  t51 := Tryz.underlying147
  a51 := Tryz.isAgg147
  z51 := Tryz.sizeOf147
  v51 := Tryz.zeroValue147
  t53 := Tryz.underlying51
  a53 := Tryz.isAgg51
  z53 := Tryz.sizeOf51
  v53 := Tryz.zeroValue51 }
open Go.RowKit Go.Sort Go.Lib in
/-- internal/strconv.formatBase10: "formatBase10 formats the decimal representation of u into a. The caller is responsible for ensuring that a is big enough to hold u. If a is too big, leading zeros will be filled in as needed.": THE ROW HOLDS u's DIGITS ('FmtInv .. 0 ..': every place t holds 'dg u (len - 1 - t)'); all else is as it was but for the count of draws. (LAID: no walk: one application.) -/
theorem Tryz.internal_strconv_formatBase10 (blk off cap : Nat) (u : Nat) (d : Array UInt8) (w : World) (hH : Holds (fun (b : UInt8) => Value.int .u8 (b.toNat : Int)) w blk off d) (hu : u < 10 ^ d.size) (hu64 : u < 18446744073709551616) (hsz : d.size < 4611686018427387904) :
    Calls Tryz.prog 112 #[.slice (some ⟨blk, off, none⟩) d.size cap, .int .u64 u] w fun e w' =>
      e = .returned (.tuple #[]) ∧ ∃ (n v' : Nat) (dk : Array UInt8), w' = (putRow (fun (b : UInt8) => Value.int .u8 (b.toNat : Int)) w blk off dk).drewN n ∧ FmtInv d.size u 0 v' dk := Any.internal_strconv_formatBase10 Tryz.lays285 blk off cap u d w hH hu hu64 hsz
def Tryz.laysM280_ren : Go.Shelf.Ren := ⟨fun | 280 => 143 | 316 => 183 | n => n, fun | 9 => 9 | 168 => 190 | 75 => 104 | 210 => 223 | 3 => 3 | 4 => 4 | 37 => 59 | 0 => 0 | 127 => 161 | 80 => 120 | 5 => 5 | n => n, fun | 16 => 3 | n => n⟩
theorem Tryz.laysM280 : Go.Proofs.LaysM.n280 Tryz.prog Tryz.laysM280_ren := {
  mixed := by kernel_rfl
  f280 := Tryz.func143.trans (congrArg some (by kernel_rfl))
  f316 := Tryz.func183.trans (congrArg some (by kernel_rfl))
  t0 := Tryz.underlying0
  a0 := Tryz.isAgg0
  z0 := Tryz.sizeOf0
  v0 := Tryz.zeroValue0
  t3 := Tryz.underlying3
  a3 := Tryz.isAgg3
  z3 := Tryz.sizeOf3
  v3 := Tryz.zeroValue3
  t4 := Tryz.underlying4
  a4 := Tryz.isAgg4
  z4 := Tryz.sizeOf4
  v4 := Tryz.zeroValue4
  t9 := Tryz.underlying9
  a9 := Tryz.isAgg9
  z9 := Tryz.sizeOf9
  v9 := Tryz.zeroValue9
  t37 := Tryz.underlying59
  a37 := Tryz.isAgg59
  z37 := Tryz.sizeOf59
  v37 := Tryz.zeroValue59
  t75 := Tryz.underlying104
  a75 := Tryz.isAgg104
  z75 := Tryz.sizeOf104
  v75 := Tryz.zeroValue104
  t127 := Tryz.underlying161
  a127 := Tryz.isAgg161
  z127 := Tryz.sizeOf161
  v127 := Tryz.zeroValue161
  t168 := Tryz.underlying190
  a168 := Tryz.isAgg190
  z168 := Tryz.sizeOf190
  v168 := Tryz.zeroValue190
  t210 := Tryz.underlying223
  a210 := Tryz.isAgg223
  z210 := Tryz.sizeOf223
  v210 := Tryz.zeroValue223
  g16 := by kernel_rfl
  t5 := Tryz.underlying5
  a5 := Tryz.isAgg5
  z5 := Tryz.sizeOf5
  v5 := Tryz.zeroValue5
  t80 := Tryz.underlying120
  a80 := Tryz.isAgg120
  z80 := Tryz.sizeOf120
  v80 := Tryz.zeroValue120
  i0 := by kernel_rfl
  i3 := by kernel_rfl
  i4 := by kernel_rfl
  i5 := by kernel_rfl
  i9 := by kernel_rfl
  i37 := by kernel_rfl
  i75 := by kernel_rfl
  i80 := by kernel_rfl
  i127 := by kernel_rfl
  i168 := by kernel_rfl
  i210 := by kernel_rfl
  m16 := by kernel_rfl }
open Go.RowKit in
/-- strconv.rangeError: '&NumError{fn, stringslite.Clone(str), ErrRange}': A POINTER TO A NEW BLOCK that holds fn, str's bytes, and what the variable ErrRange holds. Of what was there nothing has turned. (LAID: no walk: one application.) -/
theorem Tryz.strconv_rangeError (fn s : ByteArray) (ev : Value) (w : World) (hlim : s.size ≤ 281474976710656) (hv : w.cell? ⟨3, 0, none⟩ = some ev) (hev : ev = .nilIface ∨ ∃ te pe, ev = .iface te pe) :
    Calls Tryz.prog 143 #[.string fn, .string s] w fun e w' => ∃ N, e = .returned (.pointer (some ⟨N, 0, none⟩)) ∧ w.heap.size ≤ N ∧ w'.heap[N]? = some (.cells #[.string fn, .string s, ev] 223 (0, 0)) ∧ Below w.heap.size w w' := Any.strconv_rangeError Tryz.laysM280 fn s ev w hlim hv hev
def Tryz.laysC174_ren : Go.Shelf.Ren := ⟨fun | 174 => 85 | 247 => 122 | 245 => 91 | 287 => 172 | 279 => 142 | 280 => 143 | 281 => 144 | 282 => 145 | 321 => 200 | 322 => 201 | 316 => 183 | 171 => 103 | 205 => 184 | 243 => 152 | 246 => 75 | 283 => 110 | 284 => 111 | 285 => 112 | 286 => 113 | 129 => 132 | 317 => 159 | 318 => 160 | 319 => 161 | 320 => 162 | 337 => 194 | 338 => 195 | n => n, fun | 9 => 9 | 3 => 3 | 2 => 2 | 75 => 104 | 85 => 132 | 4 => 4 | 167 => 189 | 5 => 5 | 53 => 51 | 175 => 208 | 46 => 60 | 168 => 190 | 37 => 59 | 0 => 0 | 210 => 223 | 21 => 21 | 127 => 161 | 145 => 276 | 143 => 274 | 171 => 162 | 173 => 165 | 212 => 201 | 51 => 147 | 20 => 20 | 213 => 202 | 232 => 281 | 233 => 301 | 80 => 120 | n => n, fun | 15 => 2 | 16 => 3 | 17 => 1 | 18 => 8 | 19 => 9 | n => n⟩
theorem Tryz.laysC174 : Go.Proofs.LaysC.n174 Tryz.prog Tryz.laysC174_ren := {
  mixed := by kernel_rfl
  f129 := Tryz.func132.trans (congrArg some (by kernel_rfl))
  f171 := Tryz.func103.trans (congrArg some (by kernel_rfl))
  f174 := Tryz.func85.trans (congrArg some (by kernel_rfl))
  f205 := Tryz.func184.trans (congrArg some (by kernel_rfl))
  f243 := Tryz.func152.trans (congrArg some (by kernel_rfl))
  f245 := Tryz.func91.trans (congrArg some (by kernel_rfl))
  f246 := Tryz.func75.trans (congrArg some (by kernel_rfl))
  f247 := Tryz.func122.trans (congrArg some (by kernel_rfl))
  f279 := Tryz.func142.trans (congrArg some (by kernel_rfl))
  f280 := Tryz.func143.trans (congrArg some (by kernel_rfl))
  f281 := Tryz.func144.trans (congrArg some (by kernel_rfl))
  f282 := Tryz.func145.trans (congrArg some (by kernel_rfl))
  f283 := Tryz.func110.trans (congrArg some (by kernel_rfl))
  f284 := Tryz.func111.trans (congrArg some (by kernel_rfl))
  f285 := Tryz.func112.trans (congrArg some (by kernel_rfl))
  f286 := Tryz.func113.trans (congrArg some (by kernel_rfl))
  f287 := Tryz.func172.trans (congrArg some (by kernel_rfl))
  f316 := Tryz.func183.trans (congrArg some (by kernel_rfl))
  f317 := Tryz.func159.trans (congrArg some (by kernel_rfl))
  f318 := Tryz.func160.trans (congrArg some (by kernel_rfl))
  f319 := Tryz.func161.trans (congrArg some (by kernel_rfl))
  f320 := Tryz.func162.trans (congrArg some (by kernel_rfl))
  f321 := Tryz.func200.trans (congrArg some (by kernel_rfl))
  f322 := Tryz.func201.trans (congrArg some (by kernel_rfl))
  f337 := Tryz.func194.trans (congrArg some (by kernel_rfl))
  f338 := Tryz.func195.trans (congrArg some (by kernel_rfl))
  t0 := Tryz.underlying0
  a0 := Tryz.isAgg0
  z0 := Tryz.sizeOf0
  v0 := Tryz.zeroValue0
  t2 := Tryz.underlying2
  a2 := Tryz.isAgg2
  z2 := Tryz.sizeOf2
  v2 := Tryz.zeroValue2
  t3 := Tryz.underlying3
  a3 := Tryz.isAgg3
  z3 := Tryz.sizeOf3
  v3 := Tryz.zeroValue3
  t4 := Tryz.underlying4
  a4 := Tryz.isAgg4
  z4 := Tryz.sizeOf4
  v4 := Tryz.zeroValue4
  t5 := Tryz.underlying5
  a5 := Tryz.isAgg5
  z5 := Tryz.sizeOf5
  v5 := Tryz.zeroValue5
  t9 := Tryz.underlying9
  a9 := Tryz.isAgg9
  z9 := Tryz.sizeOf9
  v9 := Tryz.zeroValue9
  t20 := Tryz.underlying20
  a20 := Tryz.isAgg20
  z20 := Tryz.sizeOf20
  v20 := Tryz.zeroValue20
  t21 := Tryz.underlying21
  a21 := Tryz.isAgg21
  z21 := Tryz.sizeOf21
  v21 := Tryz.zeroValue21
  t37 := Tryz.underlying59
  a37 := Tryz.isAgg59
  z37 := Tryz.sizeOf59
  v37 := Tryz.zeroValue59
  t46 := Tryz.underlying60
  a46 := Tryz.isAgg60
  z46 := Tryz.sizeOf60
  v46 := Tryz.zeroValue60
  t51 := Tryz.underlying147
  a51 := Tryz.isAgg147
  z51 := Tryz.sizeOf147
  v51 := Tryz.zeroValue147
  t53 := Tryz.underlying51
  a53 := Tryz.isAgg51
  z53 := Tryz.sizeOf51
  v53 := Tryz.zeroValue51
  t75 := Tryz.underlying104
  a75 := Tryz.isAgg104
  z75 := Tryz.sizeOf104
  v75 := Tryz.zeroValue104
  t85 := Tryz.underlying132
  a85 := Tryz.isAgg132
  z85 := Tryz.sizeOf132
  v85 := Tryz.zeroValue132
  t127 := Tryz.underlying161
  a127 := Tryz.isAgg161
  z127 := Tryz.sizeOf161
  v127 := Tryz.zeroValue161
  t143 := Tryz.underlying274
  a143 := Tryz.isAgg274
  z143 := Tryz.sizeOf274
  v143 := Tryz.zeroValue274
  t145 := Tryz.underlying276
  a145 := Tryz.isAgg276
  z145 := Tryz.sizeOf276
  v145 := Tryz.zeroValue276
  t167 := Tryz.underlying189
  a167 := Tryz.isAgg189
  z167 := Tryz.sizeOf189
  v167 := Tryz.zeroValue189
  t168 := Tryz.underlying190
  a168 := Tryz.isAgg190
  z168 := Tryz.sizeOf190
  v168 := Tryz.zeroValue190
  t171 := Tryz.underlying162
  a171 := Tryz.isAgg162
  z171 := Tryz.sizeOf162
  v171 := Tryz.zeroValue162
  t173 := Tryz.underlying165
  a173 := Tryz.isAgg165
  z173 := Tryz.sizeOf165
  v173 := Tryz.zeroValue165
  t175 := Tryz.underlying208
  a175 := Tryz.isAgg208
  z175 := Tryz.sizeOf208
  v175 := Tryz.zeroValue208
  t210 := Tryz.underlying223
  a210 := Tryz.isAgg223
  z210 := Tryz.sizeOf223
  v210 := Tryz.zeroValue223
  t212 := Tryz.underlying201
  a212 := Tryz.isAgg201
  z212 := Tryz.sizeOf201
  v212 := Tryz.zeroValue201
  t213 := Tryz.underlying202
  a213 := Tryz.isAgg202
  z213 := Tryz.sizeOf202
  t232 := Tryz.underlying281
  a232 := Tryz.isAgg281
  z232 := Tryz.sizeOf281
  v232 := Tryz.zeroValue281
  t233 := Tryz.underlying301
  a233 := Tryz.isAgg301
  z233 := Tryz.sizeOf301
  v233 := Tryz.zeroValue301
  g15 := by kernel_rfl
  g16 := by kernel_rfl
  g17 := by kernel_rfl
  g18 := by kernel_rfl
  g19 := by kernel_rfl
  t80 := Tryz.underlying120
  a80 := Tryz.isAgg120
  z80 := Tryz.sizeOf120
  v80 := Tryz.zeroValue120
  i0 := by kernel_rfl
  i2 := by kernel_rfl
  i3 := by kernel_rfl
  i4 := by kernel_rfl
  i5 := by kernel_rfl
  i9 := by kernel_rfl
  i20 := by kernel_rfl
  i21 := by kernel_rfl
  i37 := by kernel_rfl
  i46 := by kernel_rfl
  i51 := by kernel_rfl
  i53 := by kernel_rfl
  i75 := by kernel_rfl
  i80 := by kernel_rfl
  i85 := by kernel_rfl
  i127 := by kernel_rfl
  i143 := by kernel_rfl
  i145 := by kernel_rfl
  i167 := by kernel_rfl
  i168 := by kernel_rfl
  i171 := by kernel_rfl
  i173 := by kernel_rfl
  i175 := by kernel_rfl
  i210 := by kernel_rfl
  i212 := by kernel_rfl
  i232 := by kernel_rfl
  i233 := by kernel_rfl
  m15 := by kernel_rfl
  m16 := by kernel_rfl
  m17 := by kernel_rfl
  m18 := by kernel_rfl
  m19 := by kernel_rfl
  c0 := by kernel_rfl
  c2 := by kernel_rfl
  c3 := by kernel_rfl
  c4 := by kernel_rfl
  c5 := by kernel_rfl
  c9 := by kernel_rfl
  c20 := by kernel_rfl
  c21 := by kernel_rfl
  c37 := by kernel_rfl
  c46 := by kernel_rfl
  c51 := by kernel_rfl
  c53 := by kernel_rfl
  c75 := by kernel_rfl
  c80 := by kernel_rfl
  c85 := by kernel_rfl
  c127 := by kernel_rfl
  c143 := by kernel_rfl
  c145 := by kernel_rfl
  c167 := by kernel_rfl
  c168 := by kernel_rfl
  c171 := by kernel_rfl
  c173 := by kernel_rfl
  c175 := by kernel_rfl
  c210 := by kernel_rfl
  c212 := by kernel_rfl
  c213 := by kernel_rfl
  c232 := by kernel_rfl
  c233 := by kernel_rfl }
open Go.RowKit in
/-- strconv.ParseInt(s, 10, 64), AT EVERY STRING THAT SPELLS AN int64 ('Lib.parseIntB 64 s.data.toList = .ok v'): v, AND NO ERROR. (LAID: no walk: one application.) -/
theorem Tryz.strconv_ParseInt_10_at64_ok (s : ByteArray) (hmax : s.size ≤ 9223372036854775806) (v : Int) (h : Lib.parseIntB 64 s.data.toList = .ok v) (w : World) :
    Calls Tryz.prog 85 #[.string s, .int .i64 10, .int .i64 64] w fun e w' => e = .returned (.tuple #[.int .i64 v, .nilIface]) ∧ (w' = w ∨ ∃ t, w' = Lib.bytesWorld w 5 t) := Any.strconv_ParseInt_10_at64_ok Tryz.laysC174 s hmax v h w
open Go.RowKit in
/-- strconv.ParseInt(s, 10, 64), AT EVERY NUMERAL THAT NO int64 HOLDS: THE GREATEST OR THE LEAST int64, BY THE SIGN ('Lib.intSat 64'), AND AN ERROR THAT IS NOT nil: a *NumError in a new block N: {Func: "ParseInt", Num: s's bytes, Err: what the variable ErrRange holds}. Of what was there nothing has turned. (LAID: no walk: one application.) -/
theorem Tryz.strconv_ParseInt_10_at64_range (s : ByteArray) (hlim : s.size ≤ 281474976710656) (h : Lib.parseIntB 64 s.data.toList = .range) (ev : Value) (w : World) (hv : w.cell? ⟨3, 0, none⟩ = some ev) (hev : ev = .nilIface ∨ ∃ te pe, ev = .iface te pe) :
    Calls Tryz.prog 85 #[.string s, .int .i64 10, .int .i64 64] w fun e w' => ∃ N, e = .returned (.tuple #[.int .i64 (Lib.intSat 64 s.data.toList), .iface 190 (.pointer (some ⟨N, 0, none⟩))]) ∧ w.heap.size ≤ N ∧ w'.heap[N]? = some (.cells #[.string ⟨#[80, 97, 114, 115, 101, 73, 110, 116]⟩, .string s, ev] 223 (0, 0)) ∧ Below w.heap.size w w' := Any.strconv_ParseInt_10_at64_range Tryz.laysC174 s hlim h ev w hv hev
def Tryz.lays219_ren : Go.Shelf.Ren := ⟨fun | 219 => 185 | 217 => 107 | 225 => 168 | 224 => 167 | 267 => 217 | 266 => 156 | 314 => 248 | n => n, fun | 9 => 9 | 3 => 3 | 4 => 4 | 5 => 5 | 46 => 60 | 146 => 315 | 51 => 147 | n => n, fun | 1 => 4 | n => n⟩
theorem Tryz.lays219 : Go.Proofs.Lays.n219 Tryz.prog Tryz.lays219_ren := {
  mixed := by kernel_rfl
  f217 := Tryz.func107.trans (congrArg some (by kernel_rfl))
  f219 := Tryz.func185.trans (congrArg some (by kernel_rfl))
  f224 := Tryz.func167.trans (congrArg some (by kernel_rfl))
  f225 := Tryz.func168.trans (congrArg some (by kernel_rfl))
  f266 := Tryz.func156.trans (congrArg some (by kernel_rfl))
  f267 := Tryz.func217.trans (congrArg some (by kernel_rfl))
  f314 := Tryz.func248.trans (congrArg some (by kernel_rfl))
  t3 := Tryz.underlying3
  a3 := Tryz.isAgg3
  z3 := Tryz.sizeOf3
  v3 := Tryz.zeroValue3
  t4 := Tryz.underlying4
  a4 := Tryz.isAgg4
  z4 := Tryz.sizeOf4
  v4 := Tryz.zeroValue4
  t5 := Tryz.underlying5
  a5 := Tryz.isAgg5
  z5 := Tryz.sizeOf5
  v5 := Tryz.zeroValue5
  t9 := Tryz.underlying9
  a9 := Tryz.isAgg9
  z9 := Tryz.sizeOf9
  v9 := Tryz.zeroValue9
  t46 := Tryz.underlying60
  a46 := Tryz.isAgg60
  z46 := Tryz.sizeOf60
  v46 := Tryz.zeroValue60
  t51 := Tryz.underlying147
  a51 := Tryz.isAgg147
  z51 := Tryz.sizeOf147
  v51 := Tryz.zeroValue147
  t146 := Tryz.underlying315
  a146 := Tryz.isAgg315
  z146 := Tryz.sizeOf315
  v146 := Tryz.zeroValue315
  g1 := by kernel_rfl }
open Go.RowKit Go.Lib in
/-- internal/stringslite.Index (what strings.Index calls) AT A substr OF ONE BYTE c: IT RETURNS 'Lib.indexByte s c'; the world is as it was. (LAID: no walk: one application.) -/
theorem Tryz.stringslite_Index_one (s : ByteArray) (c : UInt8) (w : World) :
    Calls Tryz.prog 185 #[.string s, .string ⟨#[c]⟩] w fun e w' => e = .returned (.int .i64 (Lib.indexByte s.data.toList c)) ∧ w' = w := Any.stringslite_Index_one Tryz.lays219 s c w
def Tryz.lays99_ren : Go.Shelf.Ren := ⟨fun | 99 => 41 | 206 => 81 | n => n, fun | 9 => 9 | 4 => 4 | 3 => 3 | n => n, fun | n => n⟩
theorem Tryz.lays99 : Go.Proofs.Lays.n99 Tryz.prog Tryz.lays99_ren := {
  mixed := by kernel_rfl
  f99 := Tryz.func41.trans (congrArg some (by kernel_rfl))
  f206 := Tryz.func81.trans (congrArg some (by kernel_rfl))
  t3 := Tryz.underlying3
  a3 := Tryz.isAgg3
  z3 := Tryz.sizeOf3
  v3 := Tryz.zeroValue3
  t4 := Tryz.underlying4
  a4 := Tryz.isAgg4
  z4 := Tryz.sizeOf4
  v4 := Tryz.zeroValue4
  t9 := Tryz.underlying9
  a9 := Tryz.isAgg9
  z9 := Tryz.sizeOf9
  v9 := Tryz.zeroValue9 }
open Go.RowKit Go.Lib in
/-- strings.HasPrefix: "HasPrefix reports whether the string s begins with prefix.": IT RETURNS 'Lib.hasPrefix s prefix'; the world is as it was. (LAID: no walk: one application.) -/
theorem Tryz.strings_HasPrefix (s p : ByteArray) (w : World) :
    Calls Tryz.prog 41 #[.string s, .string p] w fun e w' => e = .returned (.bool (Lib.hasPrefix s.data.toList p.data.toList)) ∧ w' = w := Any.strings_HasPrefix Tryz.lays99 s p w
def Tryz.lays101_ren : Go.Shelf.Ren := ⟨fun | 101 => 84 | 208 => 121 | 206 => 81 | n => n, fun | 9 => 9 | 4 => 4 | 3 => 3 | n => n, fun | n => n⟩
theorem Tryz.lays101 : Go.Proofs.Lays.n101 Tryz.prog Tryz.lays101_ren := {
  mixed := by kernel_rfl
  f101 := Tryz.func84.trans (congrArg some (by kernel_rfl))
  f206 := Tryz.func81.trans (congrArg some (by kernel_rfl))
  f208 := Tryz.func121.trans (congrArg some (by kernel_rfl))
  t3 := Tryz.underlying3
  a3 := Tryz.isAgg3
  z3 := Tryz.sizeOf3
  v3 := Tryz.zeroValue3
  t4 := Tryz.underlying4
  a4 := Tryz.isAgg4
  z4 := Tryz.sizeOf4
  v4 := Tryz.zeroValue4
  t9 := Tryz.underlying9
  a9 := Tryz.isAgg9
  z9 := Tryz.sizeOf9
  v9 := Tryz.zeroValue9 }
open Go.RowKit Go.Lib in
/-- strings.TrimPrefix: "TrimPrefix returns s without the provided leading prefix string. If s doesn't start with prefix, s is returned unchanged.": IT RETURNS 'Lib.trimPrefix s prefix'; the world is as it was. (LAID: no walk: one application.) -/
theorem Tryz.strings_TrimPrefix (s p : ByteArray) (w : World) :
    Calls Tryz.prog 84 #[.string s, .string p] w fun e w' => e = .returned (.string ⟨(Lib.trimPrefix s.data.toList p.data.toList).toArray⟩) ∧ w' = w := Any.strings_TrimPrefix Tryz.lays101 s p w
def Tryz.lays152_ren : Go.Shelf.Ren := ⟨fun | 152 => 116 | 137 => 70 | 119 => 166 | 224 => 167 | 225 => 168 | 217 => 107 | 266 => 156 | n => n, fun | 9 => 9 | 21 => 21 | 3 => 3 | 4 => 4 | 5 => 5 | 0 => 0 | 46 => 60 | n => n, fun | n => n⟩
theorem Tryz.lays152 : Go.Proofs.Lays.n152 Tryz.prog Tryz.lays152_ren := {
  mixed := by kernel_rfl
  f119 := Tryz.func166.trans (congrArg some (by kernel_rfl))
  f137 := Tryz.func70.trans (congrArg some (by kernel_rfl))
  f152 := Tryz.func116.trans (congrArg some (by kernel_rfl))
  f217 := Tryz.func107.trans (congrArg some (by kernel_rfl))
  f224 := Tryz.func167.trans (congrArg some (by kernel_rfl))
  f225 := Tryz.func168.trans (congrArg some (by kernel_rfl))
  f266 := Tryz.func156.trans (congrArg some (by kernel_rfl))
  t0 := Tryz.underlying0
  a0 := Tryz.isAgg0
  z0 := Tryz.sizeOf0
  v0 := Tryz.zeroValue0
  t3 := Tryz.underlying3
  a3 := Tryz.isAgg3
  z3 := Tryz.sizeOf3
  v3 := Tryz.zeroValue3
  t4 := Tryz.underlying4
  a4 := Tryz.isAgg4
  z4 := Tryz.sizeOf4
  v4 := Tryz.zeroValue4
  t5 := Tryz.underlying5
  a5 := Tryz.isAgg5
  z5 := Tryz.sizeOf5
  v5 := Tryz.zeroValue5
  t9 := Tryz.underlying9
  a9 := Tryz.isAgg9
  z9 := Tryz.sizeOf9
  v9 := Tryz.zeroValue9
  t21 := Tryz.underlying21
  a21 := Tryz.isAgg21
  z21 := Tryz.sizeOf21
  v21 := Tryz.zeroValue21
  t46 := Tryz.underlying60
  a46 := Tryz.isAgg60
  z46 := Tryz.sizeOf60
  v46 := Tryz.zeroValue60 }
open Go.RowKit Go.Lib in
theorem Tryz.strings_IndexRune_ascii (s : ByteArray) (r : Int) (w : World) (h0 : 0 ≤ r) (h1 : r < 128) :
    Calls Tryz.prog 116 #[.string s, .int .i32 r] w fun e w' => e = .returned (.int .i64 (Lib.indexByte s.data.toList r.toNat.toUInt8)) ∧ w' = w := Any.strings_IndexRune_ascii Tryz.lays152 s r w h0 h1
def Tryz.lays226_ren : Go.Shelf.Ren := ⟨fun | 226 => 117 | n => n, fun | 3 => 3 | 4 => 4 | n => n, fun | n => n⟩
theorem Tryz.lays226 : Go.Proofs.Lays.n226 Tryz.prog Tryz.lays226_ren := {
  mixed := by kernel_rfl
  f226 := Tryz.func117.trans (congrArg some (by kernel_rfl))
  t3 := Tryz.underlying3
  a3 := Tryz.isAgg3
  z3 := Tryz.sizeOf3
  v3 := Tryz.zeroValue3
  t4 := Tryz.underlying4
  a4 := Tryz.isAgg4
  z4 := Tryz.sizeOf4
  v4 := Tryz.zeroValue4 }
open Go.RowKit Go.Lib in
theorem Tryz.strings_shouldUseASCIISet (n : Int) (w : World) :
    Calls Tryz.prog 117 #[.int .i64 n] w fun e w' => e = .returned (.bool (decide (8 < n))) ∧ w' = w := Any.strings_shouldUseASCIISet Tryz.lays226 n w
def Tryz.lays153_ren : Go.Shelf.Ren := ⟨fun | 153 => 82 | 152 => 116 | 226 => 117 | 227 => 118 | 228 => 119 | 137 => 70 | 119 => 166 | 224 => 167 | 225 => 168 | 217 => 107 | 266 => 156 | n => n, fun | 9 => 9 | 3 => 3 | 4 => 4 | 5 => 5 | 21 => 21 | 117 => 172 | 116 => 171 | 0 => 0 | 46 => 60 | 124 => 205 | n => n, fun | n => n⟩
theorem Tryz.lays153 : Go.Proofs.Lays.n153 Tryz.prog Tryz.lays153_ren := {
  mixed := by kernel_rfl
  f119 := Tryz.func166.trans (congrArg some (by kernel_rfl))
  f137 := Tryz.func70.trans (congrArg some (by kernel_rfl))
  f152 := Tryz.func116.trans (congrArg some (by kernel_rfl))
  f153 := Tryz.func82.trans (congrArg some (by kernel_rfl))
  f217 := Tryz.func107.trans (congrArg some (by kernel_rfl))
  f224 := Tryz.func167.trans (congrArg some (by kernel_rfl))
  f225 := Tryz.func168.trans (congrArg some (by kernel_rfl))
  f226 := Tryz.func117.trans (congrArg some (by kernel_rfl))
  f227 := Tryz.func118.trans (congrArg some (by kernel_rfl))
  f228 := Tryz.func119.trans (congrArg some (by kernel_rfl))
  f266 := Tryz.func156.trans (congrArg some (by kernel_rfl))
  t0 := Tryz.underlying0
  a0 := Tryz.isAgg0
  z0 := Tryz.sizeOf0
  v0 := Tryz.zeroValue0
  t3 := Tryz.underlying3
  a3 := Tryz.isAgg3
  z3 := Tryz.sizeOf3
  v3 := Tryz.zeroValue3
  t4 := Tryz.underlying4
  a4 := Tryz.isAgg4
  z4 := Tryz.sizeOf4
  v4 := Tryz.zeroValue4
  t5 := Tryz.underlying5
  a5 := Tryz.isAgg5
  z5 := Tryz.sizeOf5
  v5 := Tryz.zeroValue5
  t9 := Tryz.underlying9
  a9 := Tryz.isAgg9
  z9 := Tryz.sizeOf9
  v9 := Tryz.zeroValue9
  t21 := Tryz.underlying21
  a21 := Tryz.isAgg21
  z21 := Tryz.sizeOf21
  v21 := Tryz.zeroValue21
  t46 := Tryz.underlying60
  a46 := Tryz.isAgg60
  z46 := Tryz.sizeOf60
  v46 := Tryz.zeroValue60
  t116 := Tryz.underlying171
  a116 := Tryz.isAgg171
  z116 := Tryz.sizeOf171
  t117 := Tryz.underlying172
  a117 := Tryz.isAgg172
  z117 := Tryz.sizeOf172
  v117 := Tryz.zeroValue172
  t124 := Tryz.underlying205
  a124 := Tryz.isAgg205
  z124 := Tryz.sizeOf205
  v124 := Tryz.zeroValue205 }
open Go.RowKit Go.Lib in
theorem Tryz.strings_IndexAny_long (hv116 : ∀ w, (zeroValue 171).run Tryz.prog w = .ok (.agg (Array.replicate 256 (.bool false))) w) (s chars : ByteArray) (w : World) (h2 : 2 ≤ chars.size) (h8 : 8 < s.size) (hs : s.size < 4294967281) (hcs : chars.size < 4294967281) (hascii : ∀ (j : Nat) b, chars.data.toList[j]? = some b → b.toNat < 128) :
    Calls Tryz.prog 82 #[.string s, .string chars] w fun e w' => e = .returned (.int .i64 (Lib.indexAny s.data.toList chars.data.toList)) ∧ w' = ((w.alloc (.cells (Lib.setCells chars.data.toList) 171)).alloc (.cells (Lib.setCells chars.data.toList) 171)) := Any.strings_IndexAny_long Tryz.lays153 hv116 (by kernel_rfl) s chars w h2 h8 hs hcs hascii
end Go.Proofs
/- Special bytes and escaping, by the program and by the reference, each as the code computes it. Condition: the text's length (2^46 bytes at most). -/
namespace Go.Proofs.YtagiddbfhlokcaaGreatDoor.Ser
open Go.RowKit
def spec (c : UInt8) : Bool := c.toNat == 44 || (c.toNat == 61 || (c.toNat == 32 || (c.toNat == 35 || c.toNat == 92)))
def esc1 (c : UInt8) : List UInt8 := if spec c then [92, c] else [c]
def esc (l : List UInt8) : List UInt8 := l.flatMap esc1
theorem esc_snoc (l : List UInt8) (c : UInt8) : esc (l ++ [c]) = esc l ++ esc1 c := by simp [esc]
theorem esc1_le (c : UInt8) : (esc1 c).length ≤ 2 := by unfold esc1; split <;> simp
theorem esc_le (l : List UInt8) : (esc l).length ≤ 2 * l.length := by
  induction l with
  | nil => simp [esc]
  | cons c l ih =>
    have h := esc1_le c
    simp only [esc, List.flatMap_cons, List.length_append, List.length_cons] at *
    omega
theorem u8_of (c : UInt8) : ((c.toNat : Int)).toNat.toUInt8 = c := by simp
theorem idx_spec (c : UInt8) : (spec c = true → 0 ≤ Lib.indexByte [44, 61, 32, 35, 92] c) ∧ (spec c = false → Lib.indexByte [44, 61, 32, 35, 92] c = -1) := by
  have key : ∀ n : Fin 256, (spec (UInt8.ofNat n.val) = true → 0 ≤ Lib.indexByte [44, 61, 32, 35, 92] (UInt8.ofNat n.val)) ∧ (spec (UInt8.ofNat n.val) = false → Lib.indexByte [44, 61, 32, 35, 92] (UInt8.ofNat n.val) = -1) := by decide +kernel
  have := key ⟨c.toNat, c.toNat_lt⟩
  simpa using this
theorem idx_yes (c : UInt8) (h : spec c = true) : ∃ n : Int, 0 ≤ n ∧ ∀ w, Calls Tryz.prog 70 #[.string ⟨#[44, 61, 32, 35, 92]⟩, .int .u8 c.toNat] w fun e w' => e = .returned (.int .i64 n) ∧ w = w' := by
  refine ⟨_, (idx_spec c).1 h, fun w => (Tryz.strings_IndexByte _ _ w).mono fun e w' ⟨he, hw⟩ => ⟨?_, hw.symm⟩⟩
  rw [he, u8_of]
theorem idx_no (c : UInt8) (h : spec c = false) (w : World) : Calls Tryz.prog 70 #[.string ⟨#[44, 61, 32, 35, 92]⟩, .int .u8 c.toNat] w fun e w' => e = .returned (.int .i64 (-1)) ∧ w = w' := by
  refine (Tryz.strings_IndexByte _ _ w).mono fun e w' ⟨he, hw⟩ => ⟨?_, hw.symm⟩
  rw [he, u8_of, (idx_spec c).2 h]
theorem special (c : UInt8) (w : World) : Calls Tryz.prog 78 #[.int .u8 c.toNat] w fun e w' => e = .returned (.bool (spec c)) ∧ w = w' := by
  go_enter Tryz.func78, Tryz.ntmps78
  obtain ⟨n, hn⟩ : ∃ n, c.toNat = n := ⟨_, rfl⟩
  have hs : spec c = (n == 44 || (n == 61 || (n == 32 || (n == 35 || n == 92)))) := by unfold spec; rw [hn]
  rw [hn, hs]
  clear hs hn
  by_cases h1 : n = 44
  · subst h1; go_wp2; go_ret; exact ⟨rfl, rfl⟩
  by_cases h2 : n = 61
  · subst h2; go_wp2; go_ret; exact ⟨rfl, rfl⟩
  by_cases h3 : n = 32
  · subst h3; go_wp2; go_ret; exact ⟨rfl, rfl⟩
  by_cases h4 : n = 35
  · subst h4; go_wp2; go_ret; exact ⟨rfl, rfl⟩
  have b1 : ((n : Int) == 44) = false := by simp; omega
  have b2 : ((n : Int) == 61) = false := by simp; omega
  have b3 : ((n : Int) == 32) = false := by simp; omega
  have b4 : ((n : Int) == 35) = false := by simp; omega
  have c1 : (n == 44) = false := by simp; omega
  have c2 : (n == 61) = false := by simp; omega
  have c3 : (n == 32) = false := by simp; omega
  have c4 : (n == 35) = false := by simp; omega
  have HC := Lib.hid (And.intro c1 (And.intro c2 (And.intro c3 c4)))
  clear c1 c2 c3 c4 h1 h2 h3 h4
  go_wp2
  go_ret
  refine ⟨ret_bool ?_, rfl⟩
  rw [HC.out.1, HC.out.2.1, HC.out.2.2.1, HC.out.2.2.2, Bool.eq_iff_iff]
  simp
  omega
def InEsc (s : ByteArray) (w : World) (i : Value) (wr : World) : Prop := ∃ k : Nat, k ≤ s.size ∧ i = .int .i64 k ∧ Lib.IsBuilder 117 5 w.heap.size w.heap.size (Lib.byteCells (esc (s.data.toList.take k))) wr ∧ Below w.heap.size w wr
def Esced (s : ByteArray) (w : World) (e : Ending) (w' : World) : Prop := e = .returned (.string ⟨(esc s.data.toList).toArray⟩) ∧ Below w.heap.size w w'
theorem byteCells_len (l : List UInt8) : (Lib.byteCells l).length = l.length := by simp [Lib.byteCells]
theorem byteCells_app (l m : List UInt8) : Lib.byteCells (l ++ m) = Lib.byteCells l ++ Lib.byteCells m := by simp [Lib.byteCells]
theorem esc_take_le (s : ByteArray) (k : Nat) : (esc (s.data.toList.take k)).length ≤ 2 * k := by
  have h1 := esc_le (s.data.toList.take k)
  have h2 : (s.data.toList.take k).length ≤ k := List.length_take_le _ _
  omega
theorem escape (s : ByteArray) (w : World) (hs : s.size ≤ 70368744177664) : Calls Tryz.prog 28 #[.string s] w (Esced s w) := by
  go_enter Tryz.func28, Tryz.ntmps28
  go_wp2
  go_loopw [7] (fun i wr => InEsc s w i wr) (fun i _ => s.size - (intOf i).toNat)
  case atStart => exact ⟨0, Nat.zero_le _, rfl, Lib.fresh_isBuilder 117 5 w, (Below.refl _ _).alloc (Nat.le_refl _) _⟩
  case round =>
    obtain ⟨k, hk, rfl, hbd, hb⟩ := hrel
    have HD := Lib.hid hbd
    have HB := Lib.hid hb
    clear hbd hb
    have hle := esc_take_le s k
    by_cases hlt : k < s.size
    · obtain ⟨c, hcc⟩ : ∃ c, s[k] = c := ⟨_, rfl⟩
      have HT := Lib.hid (take_snoc s k hlt)
      rw [hcc] at HT
      have hsz := HB.out.size
      cases hsp : spec c with
      | true =>
        have HS := Lib.hid hsp
        clear hsp
        obtain ⟨n, hn, hcall⟩ := idx_yes c HS.out
        have HCL := Lib.hid hcall
        clear hcall
        go_wp2_with fail
        refine (HCL.out _).mono ?_
        rintro e w1 ⟨rfl, rfl⟩
        go_wp2_with fail
        refine (writeByte w.heap.size w.heap.size _ 92 wr HD.out (by rw [byteCells_len]; omega) hsz).mono ?_
        rintro e w1 ⟨rfl, hd1, hb1⟩
        have HD1 := Lib.hid hd1
        have HB1 := Lib.hid hb1
        clear hd1 hb1
        go_wp2_with fail
        refine (writeByte w.heap.size w.heap.size _ (c.toNat : Int) w1 (.inr HD1.out) (by rw [List.length_append, byteCells_len]; simp; omega) (Nat.le_trans hsz HB1.out.size)).mono ?_
        rintro e w2 ⟨rfl, hd2, hb2⟩
        have HD2 := Lib.hid hd2
        have HB2 := Lib.hid hb2
        clear hd2 hb2
        go_wp2_with fail
        go_roundw
        case rel => exact ⟨k + 1, by omega, by go_num, .inr (by rw [HT.out, esc_snoc, byteCells_app, show esc1 c = [92, c] from by simp [esc1, HS.out]]; simpa [Lib.byteCells] using HD2.out), (HB.out.trans HB1.out).trans HB2.out⟩
        case measure => simp [intOf]; omega
      | false =>
        have HS := Lib.hid hsp
        clear hsp
        go_wp2_with fail
        refine (idx_no c HS.out _).mono ?_
        rintro e w1 ⟨rfl, rfl⟩
        go_wp2_with fail
        refine (writeByte w.heap.size w.heap.size _ (c.toNat : Int) wr HD.out (by rw [byteCells_len]; omega) hsz).mono ?_
        rintro e w1 ⟨rfl, hd1, hb1⟩
        have HD1 := Lib.hid hd1
        have HB1 := Lib.hid hb1
        clear hd1 hb1
        go_wp2_with fail
        go_roundw
        case rel => exact ⟨k + 1, by omega, by go_num, .inr (by rw [HT.out, esc_snoc, byteCells_app, show esc1 c = [c] from by simp [esc1, HS.out]]; simpa [Lib.byteCells] using HD1.out), HB.out.trans HB1.out⟩
        case measure => simp [intOf]; omega
    · have hke : k = s.size := by omega
      have HK := Lib.hid (show s.data.toList.take k = s.data.toList by rw [hke, List.take_of_length_le (by simp)])
      have hsz := HB.out.size
      clear hke
      go_wp2_with fail
      refine (Tryz.Builder_String_any w.heap.size w.heap.size _ wr HD.out hsz).mono ?_
      rintro e w1 ⟨rfl, hb1⟩
      have HB1 := Lib.hid hb1
      clear hb1
      go_wp2_with fail
      go_ret
      rw [HK.out]
      exact ⟨rfl, HB.out.trans HB1.out⟩
end Go.Proofs.YtagiddbfhlokcaaGreatDoor.Ser
/- Escaping by the reference, as the code computes it. Condition: the text's length (2^46 bytes at most). -/
namespace Go.Proofs.YtagiddbfhlokcaaGreatDoor.Ser
open Go.RowKit
def BOwn (w : World) (base : Nat) (v : Value) (l : List UInt8) : Prop := w.ownsRow base 5 1 v l.length (Lib.byteCells l)
theorem str_of_own {w : World} {base : Nat} {v : Value} {l : List UInt8} (h : BOwn w base v l) : (convert 59 9 v).run Tryz.prog w = .ok (.string ⟨l.toArray⟩) w := by
  rcases h.2 with ⟨rfl, h0⟩ | ⟨g, cap, cur, rfl, _⟩
  · have : l = [] := List.length_eq_zero_iff.1 h0
    subst this
    rw [run_convert_bytes_string w 59 9 5 none 0 0 Tryz.underlying59 Tryz.underlying5 Tryz.underlying9]
    rfl
  · refine run_convert_bytes_back w 59 9 5 ⟨g, 0, none⟩ cap l Tryz.underlying59 Tryz.underlying5 Tryz.underlying9 fun j hj => ?_
    have := h.cellAt j (by omega)
    have e : (Addr.add ⟨g, 0, none⟩ j) = ⟨g, j, none⟩ := by unfold Addr.add; split <;> simp_all
    rw [e, this]
    simp [Lib.byteCells, hj]
theorem BOwn.nil (w : World) (base : Nat) : BOwn w base (.slice none 0 0) [] := World.ownsRow_nil _ _ _ _
theorem BOwn.snoc {w : World} {base n : Nat} {v : Value} {l : List UInt8} {c : UInt8} {xs : List Value} (h : w.ownsRow base 5 1 v n xs) (hn : n = l.length + 1) (hx : xs = Lib.byteCells l ++ [.int .u8 c.toNat]) : BOwn w base v (l ++ [c]) := by
  subst hn hx
  unfold BOwn
  have e1 : (l ++ [c]).length = l.length + 1 := by simp
  rw [e1, byteCells_app]
  exact h
theorem own_ge {w : World} {base e size n b : Nat} {v : Value} {xs : List Value} (h : w.ownsRow base e size v n xs) (hb : v.ownBlock = some b) : base ≤ b := by
  rcases h.2 with ⟨rfl, _⟩ | ⟨g, cap, cur, rfl, hg, _⟩
  · simp [Value.ownBlock] at hb
  · simp [Value.ownBlock] at hb; omega
def InREsc (s : ByteArray) (w : World) (v i : Value) (wr : World) : Prop := ∃ k : Nat, k ≤ s.size ∧ i = .int .i64 k ∧ BOwn wr w.heap.size v (esc (s.data.toList.take k)) ∧ Below w.heap.size w wr
theorem rescape (s : ByteArray) (w : World) (hs : s.size ≤ 70368744177664) : Calls Tryz.prog 63 #[.string s] w (Esced s w) := by
  obtain ⟨i0, hi, hz0, hz1, hz2⟩ := info_parts info5b
  have HI := Lib.hid hi
  have HZ0 := Lib.hid hz0
  have HZ1 := Lib.hid hz1
  have HZ2 := Lib.hid hz2
  clear hi hz0 hz1 hz2
  go_enter Tryz.func63, Tryz.ntmps63
  go_wp2
  go_loopw [3, 4] (fun v i wr => InREsc s w v i wr) (fun _ i _ => s.size - (intOf i).toNat)
  case atStart => exact ⟨0, Nat.zero_le _, rfl, BOwn.nil _ _, Below.refl _ _⟩
  case round =>
    obtain ⟨k, hk, rfl, hown, hb⟩ := hrel
    have HO := Lib.hid hown
    have HB := Lib.hid hb
    clear hown hb
    have hle := esc_take_le s k
    by_cases hlt : k < s.size
    · obtain ⟨c, hcc⟩ : ∃ c, s[k] = c := ⟨_, rfl⟩
      have HT := Lib.hid (take_snoc s k hlt)
      rw [hcc] at HT
      have hsz := HB.out.size
      cases hsp : spec c with
      | true =>
        have HS := Lib.hid hsp
        go_wp2_with fail
        refine (special c _).mono ?_
        rintro e w1 ⟨rfl, rfl⟩
        go_wp2_with (first
          | (at_builtin; refine wpList_append_own _ rfl (.tmp 15) (.tmp 16) 59 rfl w.heap.size 5 i0 _ 1 1 Tryz.underlying59 HI.out HZ0.out HZ1.out HZ2.out rfl (by omega) _ (esc (s.data.toList.take k)).length _ rfl (World.ownsRow.alloc HO.out _) ⟨wr.heap.size, 0, none⟩ 1 1 [.int .u8 92] rfl rfl (World.news_of_block (cs := #[.int .u8 92]) (t := 5) (fr := (0, 0)) (heap_alloc_new wr _)) (by simp [Value.oneCell']) (by unfold maxLen; omega) (by omega) (by simp; omega) ?_; intro v1 w2 hown1 hgrow1 hnn; clear hnn)
          | (at_builtin; go_must (refine wpList_append_own _ rfl (.tmp 18) (.tmp 22) 59 rfl w.heap.size 5 i0 _ 1 1 Tryz.underlying59 HI.out HZ0.out HZ1.out HZ2.out rfl (by omega) _ ((esc (s.data.toList.take k)).length + 1) _ rfl (hown1.alloc _) ⟨w2.heap.size, 0, none⟩ 1 1 [.int .u8 c.toNat] rfl rfl (World.news_of_block (cs := #[.int .u8 c.toNat]) (t := 5) (fr := (0, 0)) (heap_alloc_new w2 _)) (by simp [Value.oneCell']) (by unfold maxLen; omega) (by omega) (by have := hgrow1.size; simp at this ⊢; omega) ?_); intro v2 w3 hown2 hgrow2 hnn; clear hnn))
        have hb2 := (HB.out.alloc hsz _).grown hgrow1 (by simp; omega) (fun j hj => own_ge HO.out hj)
        have hb3 := (hb2.alloc hb2.size _).grown hgrow2 (by have := hb2.size; simp; omega) (fun j hj => own_ge hown1 hj)
        have HO2 := Lib.hid hown2
        have HB3 := Lib.hid hb3
        clear hb2 hb3 hown1 hown2 hgrow1 hgrow2
        go_wp2
        go_roundw
        case rel => exact ⟨k + 1, by omega, by go_num, by rw [HT.out, esc_snoc, show esc1 c = [92] ++ [c] from by simp [esc1, HS.out], ← List.append_assoc]; exact BOwn.snoc HO2.out (by simp) (by rw [byteCells_app]; simp [Lib.byteCells]), HB3.out⟩
        case measure => simp [intOf]; omega
      | false =>
        have HS := Lib.hid hsp
        go_wp2_with fail
        refine (special c _).mono ?_
        rintro e w1 ⟨rfl, rfl⟩
        go_wp2_with (at_builtin; go_must (refine wpList_append_own _ rfl (.tmp 18) (.tmp 22) 59 rfl w.heap.size 5 i0 _ 1 1 Tryz.underlying59 HI.out HZ0.out HZ1.out HZ2.out rfl (by omega) _ (esc (s.data.toList.take k)).length _ rfl (World.ownsRow.alloc HO.out _) ⟨wr.heap.size, 0, none⟩ 1 1 [.int .u8 c.toNat] rfl rfl (World.news_of_block (cs := #[.int .u8 c.toNat]) (t := 5) (fr := (0, 0)) (heap_alloc_new wr _)) (by simp [Value.oneCell']) (by unfold maxLen; omega) (by omega) (by simp; omega) ?_); intro v1 w2 hown1 hgrow1 hnn; clear hnn)
        have hb2 := (HB.out.alloc hsz _).grown hgrow1 (by simp; omega) (fun j hj => own_ge HO.out hj)
        have HO1 := Lib.hid hown1
        have HB2 := Lib.hid hb2
        clear hb2 hown1 hgrow1
        go_wp2
        go_roundw
        case rel => exact ⟨k + 1, by omega, by go_num, by rw [HT.out, esc_snoc, show esc1 c = [c] from by simp [esc1, HS.out]]; exact BOwn.snoc HO1.out rfl rfl, HB2.out⟩
        case measure => simp [intOf]; omega
    · have hke : k = s.size := by omega
      have HK := Lib.hid (show s.data.toList.take k = s.data.toList by rw [hke, List.take_of_length_le (by simp)])
      have hcv := str_of_own HO.out
      clear hke
      go_wp2
      go_ret
      rw [HK.out]
      exact ⟨rfl, HB.out⟩
end Go.Proofs.YtagiddbfhlokcaaGreatDoor.Ser
/- Whether a series is formed, by the program and by the reference. Condition: texts' lengths are numbers of Go's int. -/
namespace Go.Proofs.YtagiddbfhlokcaaGreatDoor.Ser
open Go.RowKit Go.Sort
theorem alloc_cell {w : World} {o : Obj} {a : Addr} {v : Value} (h : w.cell? a = some v) : (w.alloc o).cell? a = some v := (((Below.refl _ _).alloc (Nat.le_refl _) o).cell (World.block_lt_of_cell? w _ h)).trans h
theorem below_of_regrown {w w' : World} (h : ∃ p : Regrown, w' = grow (redrawn w p.d) p.os) : Below w.heap.size w w' := by
  obtain ⟨p, rfl⟩ := h; exact below_regrown w p.d p.os
theorem vname_is {b : Bool} (s : ByteArray) (w : World) (hs : s.size ≤ maxLen) (h : nameB s.data.toList = b) : Calls Tryz.prog 40 #[.string s] w fun e w' => e = .returned (.bool b) ∧ Below w.heap.size w w' := by
  subst h; exact vname s w hs
def TagsAt (w : World) (a : Option Addr) (n : Nat) (kf vf : Nat → ByteArray) : Prop :=
  ∀ i, i < n → ∃ b off, a = some ⟨b, off, none⟩ ∧ b < w.heap.size ∧ w.cell? ⟨b, off + i * 2, none⟩ = some (.string (kf i)) ∧ w.cell? ⟨b, off + i * 2 + 1, none⟩ = some (.string (vf i))
theorem TagsAt.later {w w' : World} {a : Option Addr} {n : Nat} {kf vf : Nat → ByteArray} (h : TagsAt w a n kf vf) (hb : Below w.heap.size w w') : TagsAt w' a n kf vf := fun i hi => by
  obtain ⟨b, off, h1, h2, h3, h4⟩ := h i hi
  exact ⟨b, off, h1, Nat.lt_of_lt_of_le h2 hb.size, by rw [← h3]; exact hb.cell h2, by rw [← h4]; exact hb.cell h2⟩
def stepOk (kf vf : Nat → ByteArray) (i : Nat) : Bool := nameB (kf i).data.toList && (nameB (vf i).data.toList && (decide (i = 0) || Op.bytesLess (kf (i - 1)).data.toList (kf i).data.toList))
def formedB (name : ByteArray) (n : Nat) (kf vf : Nat → ByteArray) : Bool := (List.range n).all (stepOk kf vf) && (nameB name.data.toList && decide (n ≤ 8))
theorem formedB_bad {name : ByteArray} {n k : Nat} {kf vf : Nat → ByteArray} (hk : k < n) (h : stepOk kf vf k = false) : formedB name n kf vf = false := by
  have : (List.range n).all (stepOk kf vf) = false := by
    rw [List.all_eq_false]
    exact ⟨k, by simpa using hk, by simp [h]⟩
  simp [formedB, this]
def InFormed (n cap : Nat) (name : ByteArray) (a : Option Addr) (kf vf : Nat → ByteArray) (w : World) (i : Value) (wr : World) : Prop :=
  ∃ k : Nat, k ≤ n ∧ i = .int .i64 k ∧ (List.range k).all (stepOk kf vf) = true ∧ Below w.heap.size w wr ∧ w.heap.size < wr.heap.size ∧
    wr.cell? ⟨w.heap.size, 0, none⟩ = some (.string name) ∧ wr.cell? ⟨w.heap.size, 1, none⟩ = some (.slice a n cap)
theorem inFormed_next {n cap k : Nat} {name : ByteArray} {a : Option Addr} {kf vf : Nat → ByteArray} {w wr w2 : World} {o : Obj} (hk : k < n) (ha : (List.range k).all (stepOk kf vf) = true) (hs : stepOk kf vf k = true)
    (hb : Below w.heap.size w wr) (hsz : w.heap.size < wr.heap.size) (hc0 : wr.cell? ⟨w.heap.size, 0, none⟩ = some (.string name)) (hc1 : wr.cell? ⟨w.heap.size, 1, none⟩ = some (.slice a n cap)) (hb2 : Below (wr.alloc o).heap.size (wr.alloc o) w2) :
    InFormed n cap name a kf vf w (.int .i64 ((k : Int) + 1)) w2 ∧ n - (intOf (Value.int .i64 ((k : Int) + 1))).toNat < n - (intOf (Value.int .i64 (k : Int))).toNat := by
  have h1 : Below wr.heap.size wr w2 := ((Below.refl _ _).alloc (Nat.le_refl _) o).trans (hb2.mono (by simp))
  refine ⟨⟨k + 1, hk, by go_num, ?_, hb.trans (h1.mono (Nat.le_of_lt hsz)), Nat.lt_of_lt_of_le hsz h1.size, ?_, ?_⟩, ?_⟩
  · rw [List.range_succ, List.all_append, ha]; simp [hs]
  · rw [← hc0]; exact h1.cell hsz
  · rw [← hc1]; exact h1.cell hsz
  · simp [intOf]; omega
def Answer (v : Value) (w : World) (e : Ending) (w' : World) : Prop := e = .returned v ∧ Below w.heap.size w w'
theorem below_box {w wr w2 : World} {o : Obj} (hb : Below w.heap.size w wr) (hsz : w.heap.size < wr.heap.size) (hb2 : Below (wr.alloc o).heap.size (wr.alloc o) w2) : Below w.heap.size w w2 :=
  hb.trans ((((Below.refl _ _).alloc (Nat.le_refl _) o).trans (hb2.mono (by simp))).mono (Nat.le_of_lt hsz))
set_option maxHeartbeats 1000000 in
theorem formed (name : ByteArray) (a : Option Addr) (n cap : Nat) (kf vf : Nat → ByteArray) (w : World) (hn : n < 2 ^ 63) (hname : name.size ≤ maxLen) (hks : ∀ i, (kf i).size ≤ maxLen ∧ (vf i).size ≤ maxLen)
    (ht : TagsAt w a n kf vf) : Calls Tryz.prog 64 #[.agg #[.string name, .slice a n cap]] w (Answer (.bool (formedB name n kf vf)) w) := by
  have HT := Lib.hid ht
  have HK := Lib.hid hks
  clear ht hks
  go_enter Tryz.func64, Tryz.ntmps64
  go_wp2
  go_loopw [8] (fun i wr => InFormed n cap name a kf vf w i wr) (fun i _ => n - (intOf i).toNat)
  case atStart => exact ⟨0, Nat.zero_le _, rfl, rfl, (Below.refl _ _).alloc (Nat.le_refl _) _, by simp, by simp, by simp⟩
  case round =>
    obtain ⟨k, hk, rfl, hall, hb, hsz, hc0, hc1⟩ := hrel
    have HA := Lib.hid hall
    have HB := Lib.hid hb
    clear hall hb
    by_cases hlt : k < n
    · obtain ⟨b, off, ha, hbw, hck, hcv⟩ := HT.out k hlt
      subst ha
      have hd1 : wr.cell? ⟨b, off + k * 2, none⟩ = some (.string (kf k)) := by rw [← hck]; exact HB.out.cell hbw
      have hd2 : wr.cell? ⟨b, off + k * 2 + 1, none⟩ = some (.string (vf k)) := by rw [← hcv]; exact HB.out.cell hbw
      have hbr : b < wr.heap.size := Nat.lt_of_lt_of_le hbw HB.out.size
      clear hck hcv
      obtain ⟨hk1, hv1⟩ := HK.out k
      obtain ⟨W, hW⟩ : ∃ W, W = wr.alloc (.cells #[.string (kf k), .string (vf k)] 82) := ⟨_, rfl⟩
      have f0 := cell_regrown (show W.cell? ⟨wr.heap.size, 0, none⟩ = some (.string (kf k)) by rw [hW]; simp)
      have f1 := cell_regrown (show W.cell? ⟨wr.heap.size, 1, none⟩ = some (.string (vf k)) by rw [hW]; simp)
      have f2 := cell_regrown (show W.cell? ⟨w.heap.size, 1, none⟩ = some (.slice (some ⟨b, off, none⟩) n cap) by rw [hW]; exact alloc_cell hc1)
      have HW := Lib.hid hW
      clear hW
      cases e1 : nameB (kf k).data.toList with
      | false =>
        have cK := fun d os => Calls.regrown_of (vname_is (kf k) (grow (redrawn W d) os) hk1 e1)
        have HE := Lib.hid e1
        clear e1
        go_wp2_with fail
        rw [← HW.out]
        refine wp_region_quiet_below (by kernel_rfl) (by kernel_rfl) ?_
        repeat (go_big_quiet_step ((exact cK _ _)))
        refine wpQuiet_nil ?_
        intro w2 hw2
        have hb2 := below_of_regrown hw2
        have HB2 := Lib.hid hb2
        clear hw2 hb2
        go_wp2
        go_ret
        have HB3 := HB2.out
        rw [HW.out] at HB3
        exact ⟨ret_bool (formedB_bad hlt (by simp [stepOk, HE.out])).symm, below_box HB.out hsz HB3⟩
      | true =>
        have cK := fun d os => Calls.regrown_of (vname_is (kf k) (grow (redrawn W d) os) hk1 e1)
        have HE := Lib.hid e1
        clear e1
        cases e2 : nameB (vf k).data.toList with
        | false =>
          have cV := fun d os => Calls.regrown_of (vname_is (vf k) (grow (redrawn W d) os) hv1 e2)
          have HE2 := Lib.hid e2
          clear e2
          go_wp2_with fail
          rw [← HW.out]
          refine wp_region_quiet_below (by kernel_rfl) (by kernel_rfl) ?_
          repeat (go_big_quiet_step ((first | with_reducible exact cK _ _ | with_reducible exact cV _ _)))
          refine wpQuiet_nil ?_
          intro w2 hw2
          have hb2 := below_of_regrown hw2
          have HB2 := Lib.hid hb2
          clear hw2 hb2
          go_wp2
          go_ret
          have HB3 := HB2.out
          rw [HW.out] at HB3
          exact ⟨ret_bool (formedB_bad hlt (by simp [stepOk, HE2.out])).symm, below_box HB.out hsz HB3⟩
        | true =>
          have cV := fun d os => Calls.regrown_of (vname_is (vf k) (grow (redrawn W d) os) hv1 e2)
          have HE2 := Lib.hid e2
          clear e2
          by_cases hk0 : k = 0
          · have hd : decide (0 < k) = false := by simp; omega
            have HK0 := Lib.hid hk0
            clear hk0
            go_wp2_with fail
            rw [← HW.out]
            refine wp_region_quiet_below (by kernel_rfl) (by kernel_rfl) ?_
            repeat (go_big_quiet_step ((first | with_reducible exact cK _ _ | with_reducible exact cV _ _)))
            refine wpQuiet_nil ?_
            intro w2 hw2
            have hb2 := below_of_regrown hw2
            have HB2 := Lib.hid hb2
            clear hw2 hb2
            go_wp2
            have HB3 := HB2.out
            rw [HW.out] at HB3
            exact inFormed_next hlt HA.out (by simp only [stepOk, HE.out, HE2.out]; simp [HK0.out]) HB.out hsz hc0 hc1 HB3
          · obtain ⟨b', off', ha', _, hck', _⟩ := HT.out (k - 1) (by omega)
            cases ha'
            have hd3 : wr.cell? ⟨b, off + (k - 1) * 2, none⟩ = some (.string (kf (k - 1))) := by rw [← hck']; exact HB.out.cell hbw
            have f3 := cell_regrown (show W.cell? ⟨b, off + (k - 1) * 2, none⟩ = some (.string (kf (k - 1))) by rw [HW.out]; exact alloc_cell hd3)
            clear hck' hd3
            have hd : decide (0 < k) = true := by simp; omega
            have hq : (1 : Int) ≤ (k : Int) := by omega
            have hq1 : (k : Int) - 1 < (n : Int) := by omega
            have hq2 : ((k : Int) - 1).toNat = k - 1 := by omega
            have hq3 : IntKind.i64.wrap ((k : Int) - 1) = (k : Int) - 1 := IntWalk.i64_in _ (by omega)
            cases e3 : Op.bytesLess (kf (k - 1)).toList (kf k).toList with
            | false =>
              have HE3 := Lib.hid (show stepOk kf vf k = false by rw [ByteArray.toList_eq, ByteArray.toList_eq] at e3; simp [stepOk, HE.out, HE2.out, e3, hk0])
              have HK0 := Lib.hid hk0
              clear hk0
              go_wp2_with fail
              rw [← HW.out]
              refine wp_region_quiet_below (by kernel_rfl) (by kernel_rfl) ?_
              repeat (go_big_quiet_step ((first | with_reducible exact cK _ _ | with_reducible exact cV _ _)))
              refine wpQuiet_nil ?_
              intro w2 hw2
              have hb2 := below_of_regrown hw2
              have HB2 := Lib.hid hb2
              clear hw2 hb2
              go_wp2
              go_ret
              have HB3 := HB2.out
              rw [HW.out] at HB3
              exact ⟨ret_bool (formedB_bad hlt HE3.out).symm, below_box HB.out hsz HB3⟩
            | true =>
              have HE3 := Lib.hid (show stepOk kf vf k = true by rw [ByteArray.toList_eq, ByteArray.toList_eq] at e3; simp [stepOk, HE.out, HE2.out, e3, hk0])
              have HK0 := Lib.hid hk0
              clear hk0
              go_wp2_with fail
              rw [← HW.out]
              refine wp_region_quiet_below (by kernel_rfl) (by kernel_rfl) ?_
              repeat (go_big_quiet_step ((first | with_reducible exact cK _ _ | with_reducible exact cV _ _)))
              refine wpQuiet_nil ?_
              intro w2 hw2
              have hb2 := below_of_regrown hw2
              have HB2 := Lib.hid hb2
              clear hw2 hb2
              go_wp2
              have HB3 := HB2.out
              rw [HW.out] at HB3
              exact inFormed_next hlt HA.out HE3.out HB.out hsz hc0 hc1 HB3
    · have hke : k = n := by omega
      have HAn := Lib.hid (show (List.range n).all (stepOk kf vf) = true by rw [← hke]; exact HA.out)
      clear hke
      cases e1 : nameB name.data.toList with
      | false =>
        have HE := Lib.hid e1
        go_wp2_with fail
        refine (vname_is name _ hname HE.out).mono ?_
        rintro e w2 ⟨rfl, hb2⟩
        have HB2 := Lib.hid hb2
        clear hb2
        go_wp2_with fail
        go_ret
        exact ⟨ret_bool (by simp [formedB, HE.out]), HB.out.trans (HB2.out.mono (Nat.le_of_lt hsz))⟩
      | true =>
        have HE := Lib.hid e1
        clear e1
        go_wp2_with fail
        refine (vname_is name _ hname HE.out).mono ?_
        rintro e w2 ⟨rfl, hb2⟩
        have hc2 : w2.cell? ⟨w.heap.size, 1, none⟩ = some (.slice a n cap) := by rw [← hc1]; exact hb2.cell hsz
        have HB2 := Lib.hid hb2
        clear hb2 hc1
        go_wp2_with fail
        go_ret
        exact ⟨ret_bool (by rw [formedB, HAn.out, HE.out, Bool.eq_iff_iff]; simp; omega), HB.out.trans (HB2.out.mono (Nat.le_of_lt hsz))⟩
end Go.Proofs.YtagiddbfhlokcaaGreatDoor.Ser
/- Whether a series is formed, by the reference. Condition: texts' lengths are numbers of Go's int. -/
namespace Go.Proofs.YtagiddbfhlokcaaGreatDoor.Ser
open Go.RowKit Go.Sort
theorem rname_is {b : Bool} (s : ByteArray) (w : World) (hs : s.size ≤ maxLen) (h : nameB s.data.toList = b) : Calls Tryz.prog 34 #[.string s] w fun e w' => e = .returned (.bool b) ∧ Below w.heap.size w w' := by
  subst h; exact (rname s w hs).mono fun e w' ⟨h1, h2⟩ => ⟨h1, by rw [← h2]; exact Below.refl _ _⟩
theorem inFormed_next' {n cap k : Nat} {name : ByteArray} {a : Option Addr} {kf vf : Nat → ByteArray} {w wr w2 : World} (hk : k < n) (ha : (List.range k).all (stepOk kf vf) = true) (hs : stepOk kf vf k = true)
    (hb : Below w.heap.size w wr) (hsz : w.heap.size < wr.heap.size) (hc0 : wr.cell? ⟨w.heap.size, 0, none⟩ = some (.string name)) (hc1 : wr.cell? ⟨w.heap.size, 1, none⟩ = some (.slice a n cap)) (h1 : Below wr.heap.size wr w2) :
    InFormed n cap name a kf vf w (.int .i64 ((k : Int) + 1)) w2 ∧ n - (intOf (Value.int .i64 ((k : Int) + 1))).toNat < n - (intOf (Value.int .i64 (k : Int))).toNat := by
  refine ⟨⟨k + 1, hk, by go_num, ?_, hb.trans (h1.mono (Nat.le_of_lt hsz)), Nat.lt_of_lt_of_le hsz h1.size, ?_, ?_⟩, ?_⟩
  · rw [List.range_succ, List.all_append, ha]; simp [hs]
  · rw [← hc0]; exact h1.cell hsz
  · rw [← hc1]; exact h1.cell hsz
  · simp [intOf]; omega
set_option maxHeartbeats 1000000 in
theorem rformed (name : ByteArray) (a : Option Addr) (n cap : Nat) (kf vf : Nat → ByteArray) (w : World) (hn : n < 2 ^ 63) (hname : name.size ≤ maxLen) (hks : ∀ i, (kf i).size ≤ maxLen ∧ (vf i).size ≤ maxLen)
    (ht : TagsAt w a n kf vf) : Calls Tryz.prog 96 #[.agg #[.string name, .slice a n cap]] w (Answer (.bool (formedB name n kf vf)) w) := by
  have HT := Lib.hid ht
  have HK := Lib.hid hks
  clear ht hks
  go_enter Tryz.func96, Tryz.ntmps96
  cases e0 : nameB name.data.toList with
  | false =>
    have HE := Lib.hid e0
    clear e0
    go_wp2_with fail
    refine (rname_is name _ hname HE.out).mono ?_
    rintro e w2 ⟨rfl, hb2⟩
    have HB2 := Lib.hid hb2
    clear hb2
    go_wp2_with fail
    go_ret
    exact ⟨ret_bool (by simp [formedB, HE.out]), ((Below.refl _ _).alloc (Nat.le_refl _) _).trans (HB2.out.mono (by simp))⟩
  | true =>
  have HE0 := Lib.hid e0
  clear e0
  go_wp2_with fail
  refine (rname_is name _ hname HE0.out).mono ?_
  rintro e w2 ⟨rfl, hb2⟩
  have hz0 : w2.cell? ⟨w.heap.size, 0, none⟩ = some (.string name) := (hb2.cell (by simp)).trans (by simp)
  have hz1 : w2.cell? ⟨w.heap.size, 1, none⟩ = some (.slice a n cap) := (hb2.cell (by simp)).trans (by simp)
  have hbw0 : Below w.heap.size w w2 := ((Below.refl _ _).alloc (Nat.le_refl _) _).trans (hb2.mono (by simp))
  have hsz0 : w.heap.size < w2.heap.size := by have := hb2.size; simp at this; omega
  have HB0 := Lib.hid hbw0
  clear hb2 hbw0
  by_cases h8 : 8 < n
  · go_wp2_with fail
    go_ret
    exact ⟨ret_bool (by simp [formedB]; omega), HB0.out⟩
  have hd8 : decide ((8 : Int) < (n : Int)) = false := by simp; omega
  go_wp2_with fail
  go_loopw [17] (fun i wr => InFormed n cap name a kf vf w i wr) (fun i _ => n - (intOf i).toNat)
  case atStart => exact ⟨0, Nat.zero_le _, rfl, rfl, HB0.out, hsz0, hz0, hz1⟩
  case round =>
    clear hz0 hz1
    obtain ⟨k, hk, rfl, hall, hb, hsz, hc0, hc1⟩ := hrel
    have HA := Lib.hid hall
    have HB := Lib.hid hb
    clear hall hb
    by_cases hlt : k < n
    · obtain ⟨b, off, ha, hbw, hck, hcv⟩ := HT.out k hlt
      subst ha
      have hd1 : wr.cell? ⟨b, off + k * 2, none⟩ = some (.string (kf k)) := by rw [← hck]; exact HB.out.cell hbw
      have hd2 : wr.cell? ⟨b, off + k * 2 + 1, none⟩ = some (.string (vf k)) := by rw [← hcv]; exact HB.out.cell hbw
      have f0 := cell_regrown hd1
      have f1 := cell_regrown hd2
      have f2 := cell_regrown hc1
      clear hck hcv hd1 hd2
      obtain ⟨hk1, hv1⟩ := HK.out k
      have hi0 : (0 : Int) ≤ (k : Int) := by omega
      have hi1 : (k : Int) < (n : Int) := by omega
      cases e1 : nameB (kf k).data.toList with
      | false =>
        have cK := fun d os => Calls.regrown_of (rname_is (kf k) (grow (redrawn wr d) os) hk1 e1)
        have HE := Lib.hid e1
        clear e1
        go_wp2_with fail
        refine wp_region_quiet_below (by kernel_rfl) (by kernel_rfl) ?_
        repeat (go_big_quiet_step ((exact cK _ _)))
        refine wpQuiet_nil ?_
        intro w2 hw2
        have hb2 := below_of_regrown hw2
        have HB2 := Lib.hid hb2
        clear hw2 hb2
        go_wp2
        go_ret
        exact ⟨ret_bool (formedB_bad hlt (by simp [stepOk, HE.out])).symm, HB.out.trans (HB2.out.mono (Nat.le_of_lt hsz))⟩
      | true =>
        have cK := fun d os => Calls.regrown_of (rname_is (kf k) (grow (redrawn wr d) os) hk1 e1)
        have HE := Lib.hid e1
        clear e1
        cases e2 : nameB (vf k).data.toList with
        | false =>
          have cV := fun d os => Calls.regrown_of (rname_is (vf k) (grow (redrawn wr d) os) hv1 e2)
          have HE2 := Lib.hid e2
          clear e2
          go_wp2_with fail
          refine wp_region_quiet_below (by kernel_rfl) (by kernel_rfl) ?_
          repeat (go_big_quiet_step ((first | with_reducible exact cK _ _ | with_reducible exact cV _ _)))
          refine wpQuiet_nil ?_
          intro w2 hw2
          have hb2 := below_of_regrown hw2
          have HB2 := Lib.hid hb2
          clear hw2 hb2
          go_wp2
          go_ret
          exact ⟨ret_bool (formedB_bad hlt (by simp [stepOk, HE2.out])).symm, HB.out.trans (HB2.out.mono (Nat.le_of_lt hsz))⟩
        | true =>
          have cV := fun d os => Calls.regrown_of (rname_is (vf k) (grow (redrawn wr d) os) hv1 e2)
          have HE2 := Lib.hid e2
          clear e2
          by_cases hk0 : k = 0
          · have hd : decide (0 < k) = false := by simp; omega
            have HK0 := Lib.hid hk0
            clear hk0
            go_wp2_with fail
            refine wp_region_quiet_below (by kernel_rfl) (by kernel_rfl) ?_
            repeat (go_big_quiet_step ((first | with_reducible exact cK _ _ | with_reducible exact cV _ _)))
            refine wpQuiet_nil ?_
            intro w2 hw2
            have hb2 := below_of_regrown hw2
            have HB2 := Lib.hid hb2
            clear hw2 hb2
            go_wp2
            exact inFormed_next' hlt HA.out (by simp only [stepOk, HE.out, HE2.out]; simp [HK0.out]) HB.out hsz hc0 hc1 HB2.out
          · obtain ⟨b', off', ha', _, hck', _⟩ := HT.out (k - 1) (by omega)
            cases ha'
            have hd3 : wr.cell? ⟨b, off + (k - 1) * 2, none⟩ = some (.string (kf (k - 1))) := by rw [← hck']; exact HB.out.cell hbw
            have f3 := cell_regrown hd3
            clear hck' hd3
            have hd : decide (0 < k) = true := by simp; omega
            have hq : (1 : Int) ≤ (k : Int) := by omega
            have hq1 : (k : Int) - 1 < (n : Int) := by omega
            have hq2 : ((k : Int) - 1).toNat = k - 1 := by omega
            have hq3 : IntKind.i64.wrap ((k : Int) - 1) = (k : Int) - 1 := IntWalk.i64_in _ (by omega)
            cases e3 : Op.bytesLess (kf (k - 1)).toList (kf k).toList with
            | false =>
              have HE3 := Lib.hid (show stepOk kf vf k = false by rw [ByteArray.toList_eq, ByteArray.toList_eq] at e3; simp [stepOk, HE.out, HE2.out, e3, hk0])
              have HK0 := Lib.hid hk0
              clear hk0
              go_wp2_with fail
              refine wp_region_quiet_below (by kernel_rfl) (by kernel_rfl) ?_
              repeat (go_big_quiet_step ((first | with_reducible exact cK _ _ | with_reducible exact cV _ _)))
              refine wpQuiet_nil ?_
              intro w2 hw2
              have hb2 := below_of_regrown hw2
              have HB2 := Lib.hid hb2
              clear hw2 hb2
              go_wp2
              go_ret
              exact ⟨ret_bool (formedB_bad hlt HE3.out).symm, HB.out.trans (HB2.out.mono (Nat.le_of_lt hsz))⟩
            | true =>
              have HE3 := Lib.hid (show stepOk kf vf k = true by rw [ByteArray.toList_eq, ByteArray.toList_eq] at e3; simp [stepOk, HE.out, HE2.out, e3, hk0])
              have HK0 := Lib.hid hk0
              clear hk0
              go_wp2_with fail
              refine wp_region_quiet_below (by kernel_rfl) (by kernel_rfl) ?_
              repeat (go_big_quiet_step ((first | with_reducible exact cK _ _ | with_reducible exact cV _ _)))
              refine wpQuiet_nil ?_
              intro w2 hw2
              have hb2 := below_of_regrown hw2
              have HB2 := Lib.hid hb2
              clear hw2 hb2
              go_wp2
              exact inFormed_next' hlt HA.out HE3.out HB.out hsz hc0 hc1 HB2.out
    · have hke : k = n := by omega
      have HAn := Lib.hid (show (List.range n).all (stepOk kf vf) = true by rw [← hke]; exact HA.out)
      clear hke
      go_wp2_with fail
      go_ret
      exact ⟨ret_bool (by rw [formedB, HAn.out, HE0.out]; simp; omega), HB.out⟩
end Go.Proofs.YtagiddbfhlokcaaGreatDoor.Ser
/- A name's text is taken off a text's head: the plain law, and Cut's walk. Condition: the text's length. -/
namespace Go.Proofs.YtagiddbfhlokcaaGreatDoor.Ser
open Go.RowKit Go.Sort
/-- What stands at a text's head, behind what was gathered, and what is left; none: a backslash with nothing special behind it. -/
def scan (acc : List UInt8) : List UInt8 → Option (List UInt8 × List UInt8)
  | [] => some (acc, [])
  | [c] => if c.toNat = 92 then none else if spec c then some (acc, [c]) else some (acc ++ [c], [])
  | c :: d :: l => if c.toNat = 92 then (if spec d then scan (acc ++ [d]) l else none) else if spec c then some (acc, c :: d :: l) else scan (acc ++ [c]) (d :: l)
theorem scan_plain (acc : List UInt8) (c : UInt8) (l : List UInt8) (h : c.toNat ≠ 92) (hs : spec c = false) : scan acc (c :: l) = scan (acc ++ [c]) l := by
  cases l with
  | nil => simp [scan, h, hs]
  | cons d l => rw [scan]; simp [h, hs]
theorem scan_stop (acc : List UInt8) (c : UInt8) (l : List UInt8) (h : c.toNat ≠ 92) (hs : spec c = true) : scan acc (c :: l) = some (acc, c :: l) := by
  cases l with
  | nil => simp [scan, h, hs]
  | cons d l => rw [scan]; simp [h, hs]
theorem scan_esc (acc : List UInt8) (c d : UInt8) (l : List UInt8) (h : c.toNat = 92) (hs : spec d = true) : scan acc (c :: d :: l) = scan (acc ++ [d]) l := by
  rw [scan]; simp [h, hs]
theorem scan_bad (acc : List UInt8) (c d : UInt8) (l : List UInt8) (h : c.toNat = 92) (hs : spec d = false) : scan acc (c :: d :: l) = none := by
  rw [scan]; simp [h, hs]
theorem scan_end (acc : List UInt8) (c : UInt8) (h : c.toNat = 92) : scan acc [c] = none := by
  simp [scan, h]
theorem tail_of (t : ByteArray) (h : 0 < t.size) : t.data.toList = t[0] :: (t.extract 1 t.size).data.toList := by
  have h1 : t.data.toList = t.data.toList.take 1 ++ t.data.toList.drop 1 := (List.take_append_drop 1 _).symm
  have h2 : t.data.toList.take 1 = [t[0]] := by
    have := take_snoc t 0 h
    simpa using this
  rw [h1, h2]
  simp [ByteArray.data_extract]
  exact (List.take_of_length_le (by simp)).symm
theorem empty_of (t : ByteArray) (h : t.size = 0) : t.data.toList = [] := List.eq_nil_of_length_eq_zero (by simpa using h)
def ofL (l : List UInt8) : ByteArray := ⟨l.toArray⟩
theorem ofL_toList (t : ByteArray) : ofL t.data.toList = t := by simp [ofL]
def CutPost (o : Option (List UInt8 × List UInt8)) (w : World) (e : Ending) (w' : World) : Prop :=
  Below w.heap.size w w' ∧ match o with
    | some (b, r) => e = .returned (.tuple #[.string (ofL b), .string (ofL r), .bool true])
    | none => ∃ t, e = .returned (.tuple #[.string ⟨#[]⟩, .string t, .bool false])
def InCut (s : ByteArray) (w : World) (v : Value) (wr : World) : Prop :=
  ∃ (t : ByteArray) (l : List UInt8), v = .string t ∧ scan [] s.data.toList = scan l t.data.toList ∧ l.length + t.size ≤ s.size ∧ Lib.IsBuilder 117 5 w.heap.size w.heap.size (Lib.byteCells l) wr ∧ Below w.heap.size w wr
def sizeOfV : Value → Nat
  | .string t => t.size
  | _ => 0
set_option maxRecDepth 100000 in
theorem cut (s : ByteArray) (w : World) (hs : s.size ≤ 140737488355328) : Calls Tryz.prog 39 #[.string s] w (CutPost (scan [] s.data.toList) w) := by
  go_enter Tryz.func39, Tryz.ntmps39
  go_wp2
  go_loopw [0] (fun v wr => InCut s w v wr) (fun v _ => sizeOfV v)
  case atStart => exact ⟨s, [], rfl, rfl, by simp, Lib.fresh_isBuilder 117 5 w, (Below.refl _ _).alloc (Nat.le_refl _) _⟩
  case round =>
    obtain ⟨t, l, rfl, hsc, hle, hbd, hb⟩ := hrel
    have HD := Lib.hid hbd
    have HB := Lib.hid hb
    have HSC := Lib.hid hsc
    have hsz := HB.out.size
    clear hbd hb hsc
    by_cases h0 : t.size = 0
    · have hE := is_empty h0
      have HT := Lib.hid (empty_of t h0)
      clear h0
      go_wp2_with fail
      refine (Tryz.Builder_String_any w.heap.size w.heap.size _ wr HD.out hsz).mono ?_
      rintro e w1 ⟨rfl, hb1⟩
      have HB1 := Lib.hid hb1
      clear hb1
      go_wp2_with fail
      go_ret3
      refine ⟨HB.out.trans HB1.out, ?_⟩
      rw [HSC.out, HT.out]
      simp only [scan, ofL]
      rw [show t = ⟨#[]⟩ from ByteArray.ext (Array.toList_inj.1 HT.out)]
      rfl
    · have hpos : 0 < t.size := by omega
      have hE := not_empty (s := t) (by omega)
      have htl := tail_of t hpos
      obtain ⟨c, hc⟩ : ∃ c, t[0] = c := ⟨_, rfl⟩
      obtain ⟨t1, ht1⟩ : ∃ t1, t.extract 1 t.size = t1 := ⟨_, rfl⟩
      rw [hc, ht1] at htl
      have HT := Lib.hid htl
      have hs1 : t1.size + 1 = t.size := by
        have := congrArg List.length htl
        simp at this
        omega
      clear htl h0
      by_cases h92 : c.toNat = 92
      · have hc92 : ((c.toNat : Int) == 92) = true := by simp; omega
        have H92 := Lib.hid h92
        clear h92
        by_cases h1 : t1.size = 0
        · have hE1 := is_empty h1
          have HT1 := Lib.hid (empty_of t1 h1)
          clear h1
          go_wp2_with fail
          go_ret3
          refine ⟨HB.out, ?_⟩
          rw [HSC.out, HT.out, HT1.out, scan_end _ _ H92.out]
          exact ⟨_, rfl⟩
        · have hpos1 : 0 < t1.size := by omega
          have hE1 := not_empty (s := t1) (by omega)
          have htl := tail_of t1 hpos1
          obtain ⟨d, hd⟩ : ∃ d, t1[0] = d := ⟨_, rfl⟩
          obtain ⟨t2, ht2⟩ : ∃ t2, t1.extract 1 t1.size = t2 := ⟨_, rfl⟩
          rw [hd, ht2] at htl
          have HT1 := Lib.hid htl
          have hs2 : t2.size + 1 = t1.size := by
            have := congrArg List.length htl
            simp at this
            omega
          clear htl h1
          cases hsp : spec d with
          | true =>
            have HS := Lib.hid hsp
            clear hsp
            obtain ⟨n, hn, hcall⟩ := idx_yes d HS.out
            have HCL := Lib.hid hcall
            have hn0 : ¬ n < 0 := by omega
            clear hcall hn
            go_wp2_with fail
            refine (HCL.out _).mono ?_
            rintro e w1 ⟨rfl, rfl⟩
            go_wp2_with fail
            refine (writeByte w.heap.size w.heap.size _ (d.toNat : Int) wr HD.out (by rw [byteCells_len]; omega) hsz).mono ?_
            rintro e w1 ⟨rfl, hd1, hb1⟩
            have HD1 := Lib.hid hd1
            have HB1 := Lib.hid hb1
            clear hd1 hb1
            go_wp2_with fail
            go_roundw
            case rel => exact ⟨t2, l ++ [d], rfl, by rw [HSC.out, HT.out, HT1.out, scan_esc _ _ _ _ H92.out HS.out], by simp; omega, .inr (by rw [byteCells_app]; simpa [Lib.byteCells] using HD1.out), HB.out.trans HB1.out⟩
            case measure => simp [sizeOfV]; omega
          | false =>
            have HS := Lib.hid hsp
            clear hsp
            go_wp2_with fail
            refine (idx_no d HS.out _).mono ?_
            rintro e w1 ⟨rfl, rfl⟩
            go_wp2_with fail
            go_ret3
            refine ⟨HB.out, ?_⟩
            rw [HSC.out, HT.out, HT1.out, scan_bad _ _ _ _ H92.out HS.out]
            exact ⟨_, rfl⟩
      · have hc92 : ((c.toNat : Int) == 92) = false := by simp; omega
        have H92 := Lib.hid h92
        clear h92
        cases hsp : spec c with
        | true =>
          have HS := Lib.hid hsp
          clear hsp
          obtain ⟨n, hn, hcall⟩ := idx_yes c HS.out
          have HCL := Lib.hid hcall
          have hn0 : ¬ n < 0 := by omega
          clear hcall hn
          go_wp2_with fail
          refine (HCL.out _).mono ?_
          rintro e w1 ⟨rfl, rfl⟩
          go_wp2_with fail
          refine (Tryz.Builder_String_any w.heap.size w.heap.size _ wr HD.out hsz).mono ?_
          rintro e w1 ⟨rfl, hb1⟩
          have HB1 := Lib.hid hb1
          clear hb1
          go_wp2_with fail
          go_ret3
          refine ⟨HB.out.trans HB1.out, ?_⟩
          rw [HSC.out, HT.out, scan_stop _ _ _ H92.out HS.out, ← HT.out]
          simp only [ofL_toList]
          rfl
        | false =>
          have HS := Lib.hid hsp
          clear hsp
          go_wp2_with fail
          refine (idx_no c HS.out _).mono ?_
          rintro e w1 ⟨rfl, rfl⟩
          go_wp2_with fail
          refine (writeByte w.heap.size w.heap.size _ (c.toNat : Int) wr HD.out (by rw [byteCells_len]; omega) hsz).mono ?_
          rintro e w1 ⟨rfl, hd1, hb1⟩
          have HD1 := Lib.hid hd1
          have HB1 := Lib.hid hb1
          clear hd1 hb1
          go_wp2_with fail
          go_roundw
          case rel => exact ⟨t1, l ++ [c], rfl, by rw [HSC.out, HT.out, scan_plain _ _ _ H92.out HS.out], by simp; omega, .inr (by rw [byteCells_app]; simpa [Lib.byteCells] using HD1.out), HB.out.trans HB1.out⟩
          case measure => simp [sizeOfV]; omega
end Go.Proofs.YtagiddbfhlokcaaGreatDoor.Ser
/- A name's text is taken off a text from a place on, by the reference. Condition: the text's length. -/
namespace Go.Proofs.YtagiddbfhlokcaaGreatDoor.Ser
open Go.RowKit Go.Sort
theorem drop_cons (s : ByteArray) (k : Nat) (h : k < s.size) : s.data.toList.drop k = s[k] :: s.data.toList.drop (k + 1) := by
  rw [List.drop_eq_getElem_cons (by simpa using h)]; rfl
def PartPost (s : ByteArray) (o : Option (List UInt8 × List UInt8)) (w : World) (e : Ending) (w' : World) : Prop :=
  Below w.heap.size w w' ∧ match o with
    | some (b, r) => e = .returned (.tuple #[.string (ofL b), .int .i64 ((s.size - r.length : Nat) : Int), .bool true])
    | none => ∃ z, e = .returned (.tuple #[.string ⟨#[]⟩, .int .i64 z, .bool false])
def InPart (s : ByteArray) (k0 : Nat) (w : World) (i v : Value) (wr : World) : Prop :=
  ∃ (k : Nat) (l : List UInt8), i = .int .i64 k ∧ k ≤ s.size ∧ True ∧ scan [] (s.data.toList.drop k0) = scan l (s.data.toList.drop k) ∧ l.length ≤ k ∧ BOwn wr w.heap.size v l ∧ Below w.heap.size w wr
set_option maxRecDepth 100000 in
set_option maxHeartbeats 1000000 in
theorem part (s : ByteArray) (k0 : Nat) (w : World) (hs : s.size ≤ 140737488355328) (hk0 : k0 ≤ s.size) : Calls Tryz.prog 33 #[.string s, .int .i64 k0] w (PartPost s (scan [] (s.data.toList.drop k0)) w) := by
  obtain ⟨i0, hi, hz0, hz1, hz2⟩ := info_parts info5b
  have HI := Lib.hid hi
  have HZ0 := Lib.hid hz0
  have HZ1 := Lib.hid hz1
  have HZ2 := Lib.hid hz2
  clear hi hz0 hz1 hz2
  go_enter Tryz.func33, Tryz.ntmps33
  go_wp2
  go_loopw [1, 7] (fun i v wr => InPart s k0 w i v wr) (fun i _ _ => s.size - (intOf i).toNat)
  case atStart => exact ⟨k0, [], rfl, hk0, trivial, rfl, Nat.zero_le _, BOwn.nil _ _, Below.refl _ _⟩
  case round =>
    obtain ⟨k, l, rfl, hk, _, hsc, hle, hown, hb⟩ := hrel
    have HO := Lib.hid hown
    have HB := Lib.hid hb
    have HSC := Lib.hid hsc
    have hsz := HB.out.size
    clear hown hb hsc
    by_cases hlt : k < s.size
    · obtain ⟨c, hcc⟩ : ∃ c, s[k] = c := ⟨_, rfl⟩
      have HT := Lib.hid (drop_cons s k hlt)
      rw [hcc] at HT
      by_cases h92 : c.toNat = 92
      · have hc92 : ((c.toNat : Int) == 92) = true := by simp; omega
        have H92 := Lib.hid h92
        clear h92
        by_cases h1 : k + 1 < s.size
        · obtain ⟨d, hdd⟩ : ∃ d, s[k + 1] = d := ⟨_, rfl⟩
          have HT1 := Lib.hid (drop_cons s (k + 1) h1)
          rw [hdd] at HT1
          have h1i : ¬ (s.size : Int) ≤ (k : Int) + 1 := by omega
          cases hsp : spec d with
          | true =>
            have HS := Lib.hid hsp
            clear hsp
            go_wp2_with fail
            refine (special d _).mono ?_
            rw [HS.out]
            rintro e w1 ⟨rfl, rfl⟩
            go_wp2_with ((at_builtin; refine wpList_append_own _ rfl (.tmp 32) (.tmp 37) 59 rfl w.heap.size 5 i0 _ 1 1 Tryz.underlying59 HI.out HZ0.out HZ1.out HZ2.out rfl (by omega) _ l.length _ rfl (World.ownsRow.alloc HO.out _) ⟨wr.heap.size, 0, none⟩ 1 1 [.int .u8 d.toNat] rfl rfl (World.news_of_block (cs := #[.int .u8 d.toNat]) (t := 5) (fr := (0, 0)) (heap_alloc_new wr _)) (by simp [Value.oneCell']) (by unfold maxLen; omega) (by omega) (by simp; omega) ?_; intro v1 w2 hown1 hgrow1 hnn; clear hnn))
            have hb2 := (HB.out.alloc hsz _).grown hgrow1 (by simp; omega) (fun j hj => own_ge HO.out hj)
            have HO1 := Lib.hid hown1
            have HB2 := Lib.hid hb2
            clear hb2 hown1 hgrow1
            go_wp2_with fail
            go_roundw
            case rel => exact ⟨k + 2, l ++ [d], rfl, by omega, by go_num, by rw [HSC.out, HT.out, HT1.out, scan_esc _ _ _ _ H92.out HS.out], by simp; omega, BOwn.snoc HO1.out rfl rfl, HB2.out⟩
            case measure => simp [intOf]; omega
          | false =>
            have HS := Lib.hid hsp
            clear hsp
            go_wp2_with fail
            refine (special d _).mono ?_
            rw [HS.out]
            rintro e w1 ⟨rfl, rfl⟩
            go_wp2_with fail
            go_ret3
            refine ⟨HB.out, ?_⟩
            rw [HSC.out, HT.out, HT1.out, scan_bad _ _ _ _ H92.out HS.out]
            exact ⟨_, rfl⟩
        · have h1i : (s.size : Int) ≤ (k : Int) + 1 := by omega
          have HE := Lib.hid (show s.data.toList.drop (k + 1) = [] from List.drop_eq_nil_of_le (by simp; omega))
          go_wp2_with fail
          go_ret3
          refine ⟨HB.out, ?_⟩
          rw [HSC.out, HT.out, HE.out, scan_end _ _ H92.out]
          exact ⟨_, rfl⟩
      · have hc92 : ((c.toNat : Int) == 92) = false := by simp; omega
        have H92 := Lib.hid h92
        clear h92
        cases hsp : spec c with
        | true =>
          have HS := Lib.hid hsp
          clear hsp
          have hcv := str_of_own HO.out
          go_wp2_with fail
          refine (special c _).mono ?_
          rw [HS.out]
          rintro e w1 ⟨rfl, rfl⟩
          go_wp2_with fail
          go_ret3
          refine ⟨HB.out, ?_⟩
          rw [HSC.out, HT.out, scan_stop _ _ _ H92.out HS.out, ← HT.out]
          have : (s.data.toList.drop k).length = s.size - k := by simp
          simp only [this]
          rw [show s.size - (s.size - k) = k by omega]
          rfl
        | false =>
          have HS := Lib.hid hsp
          clear hsp
          go_wp2_with fail
          refine (special c _).mono ?_
          rw [HS.out]
          rintro e w1 ⟨rfl, rfl⟩
          go_wp2_with ((at_builtin; refine wpList_append_own _ rfl (.tmp 43) (.tmp 45) 59 rfl w.heap.size 5 i0 _ 1 1 Tryz.underlying59 HI.out HZ0.out HZ1.out HZ2.out rfl (by omega) _ l.length _ rfl (World.ownsRow.alloc HO.out _) ⟨wr.heap.size, 0, none⟩ 1 1 [.int .u8 c.toNat] rfl rfl (World.news_of_block (cs := #[.int .u8 c.toNat]) (t := 5) (fr := (0, 0)) (heap_alloc_new wr _)) (by simp [Value.oneCell']) (by unfold maxLen; omega) (by omega) (by simp; omega) ?_; intro v1 w2 hown1 hgrow1 hnn; clear hnn))
          have hb2 := (HB.out.alloc hsz _).grown hgrow1 (by simp; omega) (fun j hj => own_ge HO.out hj)
          have HO1 := Lib.hid hown1
          have HB2 := Lib.hid hb2
          clear hb2 hown1 hgrow1
          go_wp2_with fail
          go_roundw
          case rel => exact ⟨k + 1, l ++ [c], rfl, by omega, by go_num, by rw [HSC.out, HT.out, scan_plain _ _ _ H92.out HS.out], by simp; omega, BOwn.snoc HO1.out rfl rfl, HB2.out⟩
          case measure => simp [intOf]; omega
    · have hke : k = s.size := by omega
      have HE := Lib.hid (show s.data.toList.drop k = [] from List.drop_eq_nil_of_le (by simp; omega))
      have HK := Lib.hid hke
      have hcv := str_of_own HO.out
      clear hke
      go_wp2_with fail
      go_ret3
      refine ⟨HB.out, ?_⟩
      rw [HSC.out, HE.out]
      simp only [scan, List.length_nil, Nat.sub_zero]
      rw [HK.out]
      rfl
end Go.Proofs.YtagiddbfhlokcaaGreatDoor.Ser
/- The plain law of a series' parsing. No condition. -/
namespace Go.Proofs.YtagiddbfhlokcaaGreatDoor.Ser
open Go.RowKit Go.Sort
abbrev Tg := ByteArray × ByteArray
def kOf (L : List Tg) (i : Nat) : ByteArray := (L.getD i (⟨#[]⟩, ⟨#[]⟩)).1
def vOf (L : List Tg) (i : Nat) : ByteArray := (L.getD i (⟨#[]⟩, ⟨#[]⟩)).2
theorem scan_len : ∀ (n : Nat) {acc l b r : List UInt8}, l.length ≤ n → scan acc l = some (b, r) → r.length ≤ l.length ∧ b.length + r.length ≤ acc.length + l.length
  | n, acc, [], b, r, _, h => by
    simp [scan] at h
    obtain ⟨rfl, rfl⟩ := h
    simp
  | 0, acc, c :: l, b, r, hn, h => by simp at hn
  | n + 1, acc, c :: l, b, r, hn, h => by
    by_cases h92 : c.toNat = 92
    · cases l with
      | nil => rw [scan_end _ _ h92] at h; cases h
      | cons d l =>
        cases hs : spec d with
        | true =>
          rw [scan_esc _ _ _ _ h92 hs] at h
          have := scan_len n (by simp at hn; omega) h
          simp at this ⊢
          omega
        | false => rw [scan_bad _ _ _ _ h92 hs] at h; cases h
    · cases hs : spec c with
      | true =>
        rw [scan_stop _ _ _ h92 hs] at h
        simp at h
        obtain ⟨rfl, rfl⟩ := h
        simp
      | false =>
        rw [scan_plain _ _ _ h92 hs] at h
        have := scan_len n (by simp at hn; omega) h
        simp at this ⊢
        omega
def ploop (acc : List Tg) (r : List UInt8) : Option (List Tg × List UInt8) :=
  match r with
  | [] => some (acc, [])
  | c :: r1 =>
    if c.toNat = 44 then
      match h1 : scan [] r1 with
      | none => none
      | some (_, []) => none
      | some (kb, e :: r2) =>
        if e.toNat = 61 then
          match h2 : scan [] r2 with
          | none => none
          | some (vb, r3) => ploop (acc ++ [(ofL kb, ofL vb)]) r3
        else none
    else some (acc, c :: r1)
termination_by r.length
decreasing_by
  have a1 := (scan_len _ (Nat.le_refl _) h1).1
  have a2 := (scan_len _ (Nat.le_refl _) h2).1
  simp at a1 ⊢
  omega
theorem ploop_end (acc : List Tg) : ploop acc [] = some (acc, []) := by rw [ploop]
theorem ploop_stop (acc : List Tg) (c : UInt8) (r : List UInt8) (h : c.toNat ≠ 44) : ploop acc (c :: r) = some (acc, c :: r) := by rw [ploop]; simp [h]
theorem ploop_key_none (acc : List Tg) (c : UInt8) (r : List UInt8) (h : c.toNat = 44) (hk : scan [] r = none) : ploop acc (c :: r) = none := by
  rw [ploop, if_pos h]
  split
  · rfl
  · rfl
  · rename_i h1; rw [hk] at h1; cases h1
theorem ploop_key_end (acc : List Tg) (c : UInt8) (r kb : List UInt8) (h : c.toNat = 44) (hk : scan [] r = some (kb, [])) : ploop acc (c :: r) = none := by
  rw [ploop, if_pos h]
  split
  · rfl
  · rfl
  · rename_i h1; rw [hk] at h1; cases h1
theorem ploop_key_ne (acc : List Tg) (c e : UInt8) (r kb r2 : List UInt8) (h : c.toNat = 44) (hk : scan [] r = some (kb, e :: r2)) (he : e.toNat ≠ 61) : ploop acc (c :: r) = none := by
  rw [ploop, if_pos h]
  split
  · rfl
  · rfl
  · rename_i h1; rw [hk] at h1; cases h1; rw [if_neg he]
theorem ploop_val_none (acc : List Tg) (c e : UInt8) (r kb r2 : List UInt8) (h : c.toNat = 44) (hk : scan [] r = some (kb, e :: r2)) (he : e.toNat = 61) (hv : scan [] r2 = none) : ploop acc (c :: r) = none := by
  rw [ploop, if_pos h]
  split
  · rfl
  · rfl
  · rename_i h1; rw [hk] at h1; cases h1; rw [if_pos he]
    split
    · rfl
    · rename_i h2; rw [hv] at h2; cases h2
theorem ploop_step (acc : List Tg) (c e : UInt8) (r kb r2 vb r3 : List UInt8) (h : c.toNat = 44) (hk : scan [] r = some (kb, e :: r2)) (he : e.toNat = 61) (hv : scan [] r2 = some (vb, r3)) : ploop acc (c :: r) = ploop (acc ++ [(ofL kb, ofL vb)]) r3 := by
  rw [ploop, if_pos h]
  split
  · rename_i h1; rw [hk] at h1; cases h1
  · rename_i h1; rw [hk] at h1; cases h1
  · rename_i h1; rw [hk] at h1; cases h1; rw [if_pos he]
    split
    · rename_i h2; rw [hv] at h2; cases h2
    · rename_i h2; rw [hv] at h2; cases h2; rfl
theorem ploop_len : ∀ (n : Nat) {acc tags : List Tg} {r r' : List UInt8}, r.length ≤ n → ploop acc r = some (tags, r') → acc.length ≤ tags.length := by
  intro n
  induction n with
  | zero =>
    intro acc tags r r' hn h
    have : r = [] := List.eq_nil_of_length_eq_zero (by omega)
    subst this
    rw [ploop_end] at h
    cases h
    exact Nat.le_refl _
  | succ n ih =>
    intro acc tags r r' hn h
    cases r with
    | nil => rw [ploop_end] at h; cases h; exact Nat.le_refl _
    | cons c r =>
      by_cases h44 : c.toNat = 44
      · cases hk : scan [] r with
        | none => rw [ploop_key_none _ _ _ h44 hk] at h; cases h
        | some p =>
          obtain ⟨kb, q⟩ := p
          cases q with
          | nil => rw [ploop_key_end _ _ _ _ h44 hk] at h; cases h
          | cons e r2 =>
            by_cases h61 : e.toNat = 61
            · cases hv : scan [] r2 with
              | none => rw [ploop_val_none _ _ _ _ _ _ h44 hk h61 hv] at h; cases h
              | some p =>
                obtain ⟨vb, r3⟩ := p
                rw [ploop_step _ _ _ _ _ _ _ _ h44 hk h61 hv] at h
                have a1 := (scan_len _ (Nat.le_refl _) hk).1
                have a2 := (scan_len _ (Nat.le_refl _) hv).1
                simp at a1 hn
                have := ih (by omega) h
                simp at this
                omega
            · rw [ploop_key_ne _ _ _ _ _ _ h44 hk h61] at h; cases h
      · rw [ploop_stop _ _ _ h44] at h; cases h; exact Nat.le_refl _
def fin (name : ByteArray) (o : Option (List Tg × List UInt8)) : Option (ByteArray × List Tg) :=
  match o with
  | some (tags, []) => if formedB name tags.length (kOf tags) (vOf tags) then some (name, tags) else none
  | _ => none
def parse (t : List UInt8) : Option (ByteArray × List Tg) :=
  match scan [] t with
  | some (n, r) => fin (ofL n) (ploop [] r)
  | none => none
theorem fin_many (name : ByteArray) (acc : List Tg) (r : List UInt8) (h : 8 < acc.length) : fin name (ploop acc r) = none := by
  cases hp : ploop acc r with
  | none => rfl
  | some p =>
    obtain ⟨tags, r'⟩ := p
    have := ploop_len _ (Nat.le_refl _) hp
    cases r' with
    | nil =>
      simp only [fin]
      rw [if_neg]
      simp [formedB]
      intros
      omega
    | cons => rfl
end Go.Proofs.YtagiddbfhlokcaaGreatDoor.Ser
