/- Several texts of this proof, laid together. Conditions: as each says. -/
import Derived.Test.YtagiddbfhlokcaaGreatDoorRows
import Derived.WalkKit
import Derived.ProofKit
import Derived.OpenShut
import Derived.Below
import Derived.WalkLawsBesides
import Derived.WalkSpells
import Derived.Deep.Draws
import Derived.Deep.QuietTactic
import Derived.BigQuiet
import Derived.Deep.RegionHeld3
import Derived.Deep.AppendLies
import Derived.Laws.IdiomStrings
import Derived.Lib.Hide
import Derived.IntWalk
import Derived.Test.YtagiddbfhlokcaaGreatDoorMAL
import Derived.Test.YtagiddbfhlokcaaGreatDoorMAC
import Derived.Lib.QuietBelow
/- The leaves of layer 15: names, special bytes, each as the code computes it. No condition but the sizes of what is read. -/
namespace Go.Proofs.YtagiddbfhlokcaaGreatDoor.Ser
open Go.RowKit
def okc (c : UInt8) : Bool := !(decide (c.toNat < 32) || decide (c.toNat = 127))
def nameB (l : List UInt8) : Bool := l.all okc && (decide (1 ≤ l.length) && decide (l.length ≤ 64))
theorem take_snoc (s : ByteArray) (k : Nat) (h : k < s.size) : s.data.toList.take (k + 1) = s.data.toList.take k ++ [s[k]] := by
  rw [List.take_succ_eq_append_getElem (by simpa using h)]; rfl
theorem nameB_bad (s : ByteArray) (k : Nat) (h : k < s.size) (hc : okc s[k] = false) : nameB s.data.toList = false := by
  have : s.data.toList.all okc = false := by
    rw [List.all_eq_false]
    exact ⟨s[k], List.getElem_mem (l := s.data.toList) (by simpa using h), by simp [hc]⟩
  simp [nameB, this]
theorem nameB_all (s : ByteArray) (h : (s.data.toList.take s.size).all okc = true) : nameB s.data.toList = (decide (1 ≤ s.size) && decide (s.size ≤ 64)) := by
  rw [List.take_of_length_le (by simp)] at h
  have e : s.data.toList.length = s.size := by simp
  simp only [nameB, h, Bool.true_and, e]
theorem toList_len (s : ByteArray) : s.toList.length = s.size := by rw [ByteArray.toList_eq]; simp
theorem not_empty {s : ByteArray} (h : 1 ≤ s.size) : s.toList.isEmpty = false := by
  rw [List.isEmpty_eq_false_iff_exists_mem]
  have : 0 < s.toList.length := by rw [toList_len]; omega
  exact ⟨s.toList[0], List.getElem_mem _⟩
theorem is_empty {s : ByteArray} (h : s.size = 0) : s.toList.isEmpty = true := by
  rw [List.isEmpty_iff_length_eq_zero, toList_len, h]
theorem ret_bool {a b : Bool} (h : a = b) : Ending.returned (.bool a) = .returned (.bool b) := by rw [h]
def InName (s : ByteArray) (i : Value) : Prop := ∃ k : Nat, k ≤ s.size ∧ i = .int .i64 k ∧ (s.data.toList.take k).all okc = true
theorem inName_next {s : ByteArray} {k : Nat} (h : k < s.size) (ha : (s.data.toList.take k).all okc = true) (hc : okc s[k] = true) : InName s (.int .i64 ((k : Int) + 1)) :=
  ⟨k + 1, h, by go_num, by rw [take_snoc s k h, List.all_append, ha]; simp [hc]⟩
theorem vname (s : ByteArray) (w : World) (hs : s.size ≤ maxLen) : Calls Tryz.prog 40 #[.string s] w fun e w' => e = .returned (.bool (nameB s.data.toList)) ∧ Below w.heap.size w w' := by
  unfold maxLen at hs
  have hcv := run_bytes_of_string w 9 59 5 s Tryz.underlying9 Tryz.underlying59 Tryz.underlying5
  have hcells : ∀ j (hj : j < s.size), (w.drew.alloc (.cells (bytesRow s (grownCap w s.size 0 5)) 5 ((bytesRow s (grownCap w s.size 0 5)).size, (bytesRow s (grownCap w s.size 0 5)).size + 1))).cell? ⟨w.heap.size, j, none⟩ = some (.int .u8 (s[j].toNat : Int)) := by
    intro j hj
    have h1 := bytesRow_at s (grownCap w s.size 0 5) j hj
    have h2 := World.cell?_alloc_mark w.drew (bytesRow s (grownCap w s.size 0 5)) 5 ((bytesRow s (grownCap w s.size 0 5)).size, (bytesRow s (grownCap w s.size 0 5)).size + 1) j
    exact h2.trans h1
  have hbel : Below w.heap.size w (w.drew.alloc (.cells (bytesRow s (grownCap w s.size 0 5)) 5 ((bytesRow s (grownCap w s.size 0 5)).size, (bytesRow s (grownCap w s.size 0 5)).size + 1))) := (Below.refl _ _).drew.alloc (Nat.le_refl _) _
  generalize w.drew.alloc (.cells (bytesRow s (grownCap w s.size 0 5)) 5 ((bytesRow s (grownCap w s.size 0 5)).size, (bytesRow s (grownCap w s.size 0 5)).size + 1)) = w1 at *
  generalize grownCap w s.size 0 5 = cp at *
  have HC := Lib.hid hcells
  have HBB := Lib.hid hbel
  clear hcells hbel
  go_enter Tryz.func40, Tryz.ntmps40
  go_wp2
  go_loop [8] (fun i => InName s i) (fun i => s.size - (intOf i).toNat)
  case atStart => exact ⟨0, Nat.zero_le _, rfl, rfl⟩
  case round =>
    obtain ⟨k, hk, rfl, hall⟩ := hrel
    have HA := Lib.hid hall
    clear hall
    by_cases hlt : k < s.size
    · obtain ⟨c, hcc⟩ : ∃ c, s[k] = c := ⟨_, rfl⟩
      have HN := Lib.hid (inName_next hlt HA.out)
      have HB := Lib.hid (nameB_bad s k hlt)
      have hcell := HC.out k hlt
      rw [hcc] at HN HB hcell
      clear hcc
      by_cases h1 : c.toNat < 32
      · have HC := Lib.hid (show okc c = false by simp [okc, h1])
        have h1i : (c.toNat : Int) < 32 := by omega
        clear h1
        go_wp2
        go_ret
        exact ⟨ret_bool (HB.out HC.out).symm, HBB.out⟩
      · have h1i : ¬ (c.toNat : Int) < 32 := by omega
        by_cases h2 : c.toNat = 127
        · have HC := Lib.hid (show okc c = false by simp [okc, h2])
          have h2i : ((c.toNat : Int) == 127) = true := by simp; omega
          clear h1 h2
          go_wp2
          go_ret
          exact ⟨ret_bool (HB.out HC.out).symm, HBB.out⟩
        · have HC := Lib.hid (show okc c = true by simp [okc, h1, h2])
          have h2i : ((c.toNat : Int) == 127) = false := by simp; omega
          clear h1 h2
          go_wp2
          go_round
          case rel => exact HN.out HC.out
          case measure => simp [intOf]; omega
    · have hke : k = s.size := by omega
      have HK := Lib.hid (nameB_all s (by rw [← hke]; exact HA.out))
      clear hke
      by_cases h3 : 1 ≤ s.size
      · have h3b : s.toList.isEmpty = false := not_empty h3
        have h3i : (1 : Int) ≤ (s.size : Int) := by omega
        go_wp2
        go_ret
        exact ⟨ret_bool (by rw [HK.out, Bool.eq_iff_iff]; simp; omega), HBB.out⟩
      · have h3b : s.toList.isEmpty = true := is_empty (by omega)
        go_wp2
        go_ret
        exact ⟨ret_bool (by rw [HK.out]; simp [h3]), HBB.out⟩
end Go.Proofs.YtagiddbfhlokcaaGreatDoor.Ser
/- Special bytes and escaping, by the program and by the reference, each as the code computes it. Condition: the text's length (2^46 bytes at most). -/
namespace Go.Proofs.YtagiddbfhlokcaaGreatDoor.Ser
open Go.RowKit
def spec (c : UInt8) : Bool := c.toNat == 44 || (c.toNat == 61 || (c.toNat == 32 || (c.toNat == 35 || c.toNat == 92)))
def esc1 (c : UInt8) : List UInt8 := if spec c then [92, c] else [c]
def esc (l : List UInt8) : List UInt8 := l.flatMap esc1
theorem esc_snoc (l : List UInt8) (c : UInt8) : esc (l ++ [c]) = esc l ++ esc1 c := by simp [esc]
theorem esc1_le (c : UInt8) : (esc1 c).length ≤ 2 := by unfold esc1; split <;> simp
theorem esc_le (l : List UInt8) : (esc l).length ≤ 2 * l.length := by
  induction l with
  | nil => simp [esc]
  | cons c l ih =>
    have h := esc1_le c
    simp only [esc, List.flatMap_cons, List.length_append, List.length_cons] at *
    omega
theorem u8_of (c : UInt8) : ((c.toNat : Int)).toNat.toUInt8 = c := by simp
theorem idx_spec (c : UInt8) : (spec c = true → 0 ≤ Lib.indexByte [44, 61, 32, 35, 92] c) ∧ (spec c = false → Lib.indexByte [44, 61, 32, 35, 92] c = -1) := by
  have key : ∀ n : Fin 256, (spec (UInt8.ofNat n.val) = true → 0 ≤ Lib.indexByte [44, 61, 32, 35, 92] (UInt8.ofNat n.val)) ∧ (spec (UInt8.ofNat n.val) = false → Lib.indexByte [44, 61, 32, 35, 92] (UInt8.ofNat n.val) = -1) := by decide +kernel
  have := key ⟨c.toNat, c.toNat_lt⟩
  simpa using this
theorem idx_yes (c : UInt8) (h : spec c = true) : ∃ n : Int, 0 ≤ n ∧ ∀ w, Calls Tryz.prog 70 #[.string ⟨#[44, 61, 32, 35, 92]⟩, .int .u8 c.toNat] w fun e w' => e = .returned (.int .i64 n) ∧ w = w' := by
  refine ⟨_, (idx_spec c).1 h, fun w => (Tryz.strings_IndexByte _ _ w).mono fun e w' ⟨he, hw⟩ => ⟨?_, hw.symm⟩⟩
  rw [he, u8_of]
theorem idx_no (c : UInt8) (h : spec c = false) (w : World) : Calls Tryz.prog 70 #[.string ⟨#[44, 61, 32, 35, 92]⟩, .int .u8 c.toNat] w fun e w' => e = .returned (.int .i64 (-1)) ∧ w = w' := by
  refine (Tryz.strings_IndexByte _ _ w).mono fun e w' ⟨he, hw⟩ => ⟨?_, hw.symm⟩
  rw [he, u8_of, (idx_spec c).2 h]
def InEsc (s : ByteArray) (w : World) (i : Value) (wr : World) : Prop := ∃ k : Nat, k ≤ s.size ∧ i = .int .i64 k ∧ Lib.IsBuilder 117 5 w.heap.size w.heap.size (Lib.byteCells (esc (s.data.toList.take k))) wr ∧ Below w.heap.size w wr
def Esced (s : ByteArray) (w : World) (e : Ending) (w' : World) : Prop := e = .returned (.string ⟨(esc s.data.toList).toArray⟩) ∧ Below w.heap.size w w'
theorem byteCells_len (l : List UInt8) : (Lib.byteCells l).length = l.length := by simp [Lib.byteCells]
theorem byteCells_app (l m : List UInt8) : Lib.byteCells (l ++ m) = Lib.byteCells l ++ Lib.byteCells m := by simp [Lib.byteCells]
theorem esc_take_le (s : ByteArray) (k : Nat) : (esc (s.data.toList.take k)).length ≤ 2 * k := by
  have h1 := esc_le (s.data.toList.take k)
  have h2 : (s.data.toList.take k).length ≤ k := List.length_take_le _ _
  omega
theorem escape (s : ByteArray) (w : World) (hs : s.size ≤ 70368744177664) : Calls Tryz.prog 28 #[.string s] w (Esced s w) := by
  go_enter Tryz.func28, Tryz.ntmps28
  go_wp2
  go_loopw [7] (fun i wr => InEsc s w i wr) (fun i _ => s.size - (intOf i).toNat)
  case atStart => exact ⟨0, Nat.zero_le _, rfl, Lib.fresh_isBuilder 117 5 w, (Below.refl _ _).alloc (Nat.le_refl _) _⟩
  case round =>
    obtain ⟨k, hk, rfl, hbd, hb⟩ := hrel
    have HD := Lib.hid hbd
    have HB := Lib.hid hb
    clear hbd hb
    have hle := esc_take_le s k
    by_cases hlt : k < s.size
    · obtain ⟨c, hcc⟩ : ∃ c, s[k] = c := ⟨_, rfl⟩
      have HT := Lib.hid (take_snoc s k hlt)
      rw [hcc] at HT
      have hsz := HB.out.size
      cases hsp : spec c with
      | true =>
        have HS := Lib.hid hsp
        clear hsp
        obtain ⟨n, hn, hcall⟩ := idx_yes c HS.out
        have HCL := Lib.hid hcall
        clear hcall
        go_wp2_with fail
        refine (HCL.out _).mono ?_
        rintro e w1 ⟨rfl, rfl⟩
        go_wp2_with fail
        refine (writeByte w.heap.size w.heap.size _ 92 wr HD.out (by rw [byteCells_len]; omega) hsz).mono ?_
        rintro e w1 ⟨rfl, hd1, hb1⟩
        have HD1 := Lib.hid hd1
        have HB1 := Lib.hid hb1
        clear hd1 hb1
        go_wp2_with fail
        refine (writeByte w.heap.size w.heap.size _ (c.toNat : Int) w1 (.inr HD1.out) (by rw [List.length_append, byteCells_len]; simp; omega) (Nat.le_trans hsz HB1.out.size)).mono ?_
        rintro e w2 ⟨rfl, hd2, hb2⟩
        have HD2 := Lib.hid hd2
        have HB2 := Lib.hid hb2
        clear hd2 hb2
        go_wp2_with fail
        go_roundw
        case rel => exact ⟨k + 1, by omega, by go_num, .inr (by rw [HT.out, esc_snoc, byteCells_app, show esc1 c = [92, c] from by simp [esc1, HS.out]]; simpa [Lib.byteCells] using HD2.out), (HB.out.trans HB1.out).trans HB2.out⟩
        case measure => simp [intOf]; omega
      | false =>
        have HS := Lib.hid hsp
        clear hsp
        go_wp2_with fail
        refine (idx_no c HS.out _).mono ?_
        rintro e w1 ⟨rfl, rfl⟩
        go_wp2_with fail
        refine (writeByte w.heap.size w.heap.size _ (c.toNat : Int) wr HD.out (by rw [byteCells_len]; omega) hsz).mono ?_
        rintro e w1 ⟨rfl, hd1, hb1⟩
        have HD1 := Lib.hid hd1
        have HB1 := Lib.hid hb1
        clear hd1 hb1
        go_wp2_with fail
        go_roundw
        case rel => exact ⟨k + 1, by omega, by go_num, .inr (by rw [HT.out, esc_snoc, byteCells_app, show esc1 c = [c] from by simp [esc1, HS.out]]; simpa [Lib.byteCells] using HD1.out), HB.out.trans HB1.out⟩
        case measure => simp [intOf]; omega
    · have hke : k = s.size := by omega
      have HK := Lib.hid (show s.data.toList.take k = s.data.toList by rw [hke, List.take_of_length_le (by simp)])
      have hsz := HB.out.size
      clear hke
      go_wp2_with fail
      refine (Tryz.Builder_String_any w.heap.size w.heap.size _ wr HD.out hsz).mono ?_
      rintro e w1 ⟨rfl, hb1⟩
      have HB1 := Lib.hid hb1
      clear hb1
      go_wp2_with fail
      go_ret
      rw [HK.out]
      exact ⟨rfl, HB.out.trans HB1.out⟩
end Go.Proofs.YtagiddbfhlokcaaGreatDoor.Ser
/- Escaping by the reference, as the code computes it. Condition: the text's length (2^46 bytes at most). -/
namespace Go.Proofs.YtagiddbfhlokcaaGreatDoor.Ser
open Go.RowKit
end Go.Proofs.YtagiddbfhlokcaaGreatDoor.Ser
/- Whether a series is formed, by the program and by the reference. Condition: texts' lengths are numbers of Go's int. -/
namespace Go.Proofs.YtagiddbfhlokcaaGreatDoor.Ser
open Go.RowKit Go.Sort
theorem alloc_cell {w : World} {o : Obj} {a : Addr} {v : Value} (h : w.cell? a = some v) : (w.alloc o).cell? a = some v := (((Below.refl _ _).alloc (Nat.le_refl _) o).cell (World.block_lt_of_cell? w _ h)).trans h
theorem below_of_regrown {w w' : World} (h : ∃ p : Regrown, w' = grow (redrawn w p.d) p.os) : Below w.heap.size w w' := by
  obtain ⟨p, rfl⟩ := h; exact below_regrown w p.d p.os
theorem vname_is {b : Bool} (s : ByteArray) (w : World) (hs : s.size ≤ maxLen) (h : nameB s.data.toList = b) : Calls Tryz.prog 40 #[.string s] w fun e w' => e = .returned (.bool b) ∧ Below w.heap.size w w' := by
  subst h; exact vname s w hs
def TagsAt (w : World) (a : Option Addr) (n : Nat) (kf vf : Nat → ByteArray) : Prop :=
  ∀ i, i < n → ∃ b off, a = some ⟨b, off, none⟩ ∧ b < w.heap.size ∧ w.cell? ⟨b, off + i * 2, none⟩ = some (.string (kf i)) ∧ w.cell? ⟨b, off + i * 2 + 1, none⟩ = some (.string (vf i))
theorem TagsAt.later {w w' : World} {a : Option Addr} {n : Nat} {kf vf : Nat → ByteArray} (h : TagsAt w a n kf vf) (hb : Below w.heap.size w w') : TagsAt w' a n kf vf := fun i hi => by
  obtain ⟨b, off, h1, h2, h3, h4⟩ := h i hi
  exact ⟨b, off, h1, Nat.lt_of_lt_of_le h2 hb.size, by rw [← h3]; exact hb.cell h2, by rw [← h4]; exact hb.cell h2⟩
def stepOk (kf vf : Nat → ByteArray) (i : Nat) : Bool := nameB (kf i).data.toList && (nameB (vf i).data.toList && (decide (i = 0) || Op.bytesLess (kf (i - 1)).data.toList (kf i).data.toList))
def formedB (name : ByteArray) (n : Nat) (kf vf : Nat → ByteArray) : Bool := (List.range n).all (stepOk kf vf) && (nameB name.data.toList && decide (n ≤ 8))
theorem formedB_bad {name : ByteArray} {n k : Nat} {kf vf : Nat → ByteArray} (hk : k < n) (h : stepOk kf vf k = false) : formedB name n kf vf = false := by
  have : (List.range n).all (stepOk kf vf) = false := by
    rw [List.all_eq_false]
    exact ⟨k, by simpa using hk, by simp [h]⟩
  simp [formedB, this]
def InFormed (n cap : Nat) (name : ByteArray) (a : Option Addr) (kf vf : Nat → ByteArray) (w : World) (i : Value) (wr : World) : Prop :=
  ∃ k : Nat, k ≤ n ∧ i = .int .i64 k ∧ (List.range k).all (stepOk kf vf) = true ∧ Below w.heap.size w wr ∧ w.heap.size < wr.heap.size ∧
    wr.cell? ⟨w.heap.size, 0, none⟩ = some (.string name) ∧ wr.cell? ⟨w.heap.size, 1, none⟩ = some (.slice a n cap)
theorem inFormed_next {n cap k : Nat} {name : ByteArray} {a : Option Addr} {kf vf : Nat → ByteArray} {w wr w2 : World} {o : Obj} (hk : k < n) (ha : (List.range k).all (stepOk kf vf) = true) (hs : stepOk kf vf k = true)
    (hb : Below w.heap.size w wr) (hsz : w.heap.size < wr.heap.size) (hc0 : wr.cell? ⟨w.heap.size, 0, none⟩ = some (.string name)) (hc1 : wr.cell? ⟨w.heap.size, 1, none⟩ = some (.slice a n cap)) (hb2 : Below (wr.alloc o).heap.size (wr.alloc o) w2) :
    InFormed n cap name a kf vf w (.int .i64 ((k : Int) + 1)) w2 ∧ n - (intOf (Value.int .i64 ((k : Int) + 1))).toNat < n - (intOf (Value.int .i64 (k : Int))).toNat := by
  have h1 : Below wr.heap.size wr w2 := ((Below.refl _ _).alloc (Nat.le_refl _) o).trans (hb2.mono (by simp))
  refine ⟨⟨k + 1, hk, by go_num, ?_, hb.trans (h1.mono (Nat.le_of_lt hsz)), Nat.lt_of_lt_of_le hsz h1.size, ?_, ?_⟩, ?_⟩
  · rw [List.range_succ, List.all_append, ha]; simp [hs]
  · rw [← hc0]; exact h1.cell hsz
  · rw [← hc1]; exact h1.cell hsz
  · simp [intOf]; omega
def Answer (v : Value) (w : World) (e : Ending) (w' : World) : Prop := e = .returned v ∧ Below w.heap.size w w'
theorem below_box {w wr w2 : World} {o : Obj} (hb : Below w.heap.size w wr) (hsz : w.heap.size < wr.heap.size) (hb2 : Below (wr.alloc o).heap.size (wr.alloc o) w2) : Below w.heap.size w w2 :=
  hb.trans ((((Below.refl _ _).alloc (Nat.le_refl _) o).trans (hb2.mono (by simp))).mono (Nat.le_of_lt hsz))
set_option maxHeartbeats 1000000 in
theorem formed (name : ByteArray) (a : Option Addr) (n cap : Nat) (kf vf : Nat → ByteArray) (w : World) (hn : n < 2 ^ 63) (hname : name.size ≤ maxLen) (hks : ∀ i, (kf i).size ≤ maxLen ∧ (vf i).size ≤ maxLen)
    (ht : TagsAt w a n kf vf) : Calls Tryz.prog 64 #[.agg #[.string name, .slice a n cap]] w (Answer (.bool (formedB name n kf vf)) w) := by
  have HT := Lib.hid ht
  have HK := Lib.hid hks
  clear ht hks
  go_enter Tryz.func64, Tryz.ntmps64
  go_wp2
  go_loopw [8] (fun i wr => InFormed n cap name a kf vf w i wr) (fun i _ => n - (intOf i).toNat)
  case atStart => exact ⟨0, Nat.zero_le _, rfl, rfl, (Below.refl _ _).alloc (Nat.le_refl _) _, by simp, by simp, by simp⟩
  case round =>
    obtain ⟨k, hk, rfl, hall, hb, hsz, hc0, hc1⟩ := hrel
    have HA := Lib.hid hall
    have HB := Lib.hid hb
    clear hall hb
    by_cases hlt : k < n
    · obtain ⟨b, off, ha, hbw, hck, hcv⟩ := HT.out k hlt
      subst ha
      have hd1 : wr.cell? ⟨b, off + k * 2, none⟩ = some (.string (kf k)) := by rw [← hck]; exact HB.out.cell hbw
      have hd2 : wr.cell? ⟨b, off + k * 2 + 1, none⟩ = some (.string (vf k)) := by rw [← hcv]; exact HB.out.cell hbw
      have hbr : b < wr.heap.size := Nat.lt_of_lt_of_le hbw HB.out.size
      clear hck hcv
      obtain ⟨hk1, hv1⟩ := HK.out k
      obtain ⟨W, hW⟩ : ∃ W, W = wr.alloc (.cells #[.string (kf k), .string (vf k)] 82) := ⟨_, rfl⟩
      have f0 := cell_regrown (show W.cell? ⟨wr.heap.size, 0, none⟩ = some (.string (kf k)) by rw [hW]; simp)
      have f1 := cell_regrown (show W.cell? ⟨wr.heap.size, 1, none⟩ = some (.string (vf k)) by rw [hW]; simp)
      have f2 := cell_regrown (show W.cell? ⟨w.heap.size, 1, none⟩ = some (.slice (some ⟨b, off, none⟩) n cap) by rw [hW]; exact alloc_cell hc1)
      have HW := Lib.hid hW
      clear hW
      cases e1 : nameB (kf k).data.toList with
      | false =>
        have cK := fun d os => Calls.regrown_of (vname_is (kf k) (grow (redrawn W d) os) hk1 e1)
        have HE := Lib.hid e1
        clear e1
        go_wp2_with fail
        rw [← HW.out]
        refine wp_region_quiet_below (by kernel_rfl) (by kernel_rfl) ?_
        repeat (go_big_quiet_step ((exact cK _ _)))
        refine wpQuiet_nil ?_
        intro w2 hw2
        have hb2 := below_of_regrown hw2
        have HB2 := Lib.hid hb2
        clear hw2 hb2
        go_wp2
        go_ret
        have HB3 := HB2.out
        rw [HW.out] at HB3
        exact ⟨ret_bool (formedB_bad hlt (by simp [stepOk, HE.out])).symm, below_box HB.out hsz HB3⟩
      | true =>
        have cK := fun d os => Calls.regrown_of (vname_is (kf k) (grow (redrawn W d) os) hk1 e1)
        have HE := Lib.hid e1
        clear e1
        cases e2 : nameB (vf k).data.toList with
        | false =>
          have cV := fun d os => Calls.regrown_of (vname_is (vf k) (grow (redrawn W d) os) hv1 e2)
          have HE2 := Lib.hid e2
          clear e2
          go_wp2_with fail
          rw [← HW.out]
          refine wp_region_quiet_below (by kernel_rfl) (by kernel_rfl) ?_
          repeat (go_big_quiet_step ((first | with_reducible exact cK _ _ | with_reducible exact cV _ _)))
          refine wpQuiet_nil ?_
          intro w2 hw2
          have hb2 := below_of_regrown hw2
          have HB2 := Lib.hid hb2
          clear hw2 hb2
          go_wp2
          go_ret
          have HB3 := HB2.out
          rw [HW.out] at HB3
          exact ⟨ret_bool (formedB_bad hlt (by simp [stepOk, HE2.out])).symm, below_box HB.out hsz HB3⟩
        | true =>
          have cV := fun d os => Calls.regrown_of (vname_is (vf k) (grow (redrawn W d) os) hv1 e2)
          have HE2 := Lib.hid e2
          clear e2
          by_cases hk0 : k = 0
          · have hd : decide (0 < k) = false := by simp; omega
            have HK0 := Lib.hid hk0
            clear hk0
            go_wp2_with fail
            rw [← HW.out]
            refine wp_region_quiet_below (by kernel_rfl) (by kernel_rfl) ?_
            repeat (go_big_quiet_step ((first | with_reducible exact cK _ _ | with_reducible exact cV _ _)))
            refine wpQuiet_nil ?_
            intro w2 hw2
            have hb2 := below_of_regrown hw2
            have HB2 := Lib.hid hb2
            clear hw2 hb2
            go_wp2
            have HB3 := HB2.out
            rw [HW.out] at HB3
            exact inFormed_next hlt HA.out (by simp only [stepOk, HE.out, HE2.out]; simp [HK0.out]) HB.out hsz hc0 hc1 HB3
          · obtain ⟨b', off', ha', _, hck', _⟩ := HT.out (k - 1) (by omega)
            cases ha'
            have hd3 : wr.cell? ⟨b, off + (k - 1) * 2, none⟩ = some (.string (kf (k - 1))) := by rw [← hck']; exact HB.out.cell hbw
            have f3 := cell_regrown (show W.cell? ⟨b, off + (k - 1) * 2, none⟩ = some (.string (kf (k - 1))) by rw [HW.out]; exact alloc_cell hd3)
            clear hck' hd3
            have hd : decide (0 < k) = true := by simp; omega
            have hq : (1 : Int) ≤ (k : Int) := by omega
            have hq1 : (k : Int) - 1 < (n : Int) := by omega
            have hq2 : ((k : Int) - 1).toNat = k - 1 := by omega
            have hq3 : IntKind.i64.wrap ((k : Int) - 1) = (k : Int) - 1 := IntWalk.i64_in _ (by omega)
            cases e3 : Op.bytesLess (kf (k - 1)).toList (kf k).toList with
            | false =>
              have HE3 := Lib.hid (show stepOk kf vf k = false by rw [ByteArray.toList_eq, ByteArray.toList_eq] at e3; simp [stepOk, HE.out, HE2.out, e3, hk0])
              have HK0 := Lib.hid hk0
              clear hk0
              go_wp2_with fail
              rw [← HW.out]
              refine wp_region_quiet_below (by kernel_rfl) (by kernel_rfl) ?_
              repeat (go_big_quiet_step ((first | with_reducible exact cK _ _ | with_reducible exact cV _ _)))
              refine wpQuiet_nil ?_
              intro w2 hw2
              have hb2 := below_of_regrown hw2
              have HB2 := Lib.hid hb2
              clear hw2 hb2
              go_wp2
              go_ret
              have HB3 := HB2.out
              rw [HW.out] at HB3
              exact ⟨ret_bool (formedB_bad hlt HE3.out).symm, below_box HB.out hsz HB3⟩
            | true =>
              have HE3 := Lib.hid (show stepOk kf vf k = true by rw [ByteArray.toList_eq, ByteArray.toList_eq] at e3; simp [stepOk, HE.out, HE2.out, e3, hk0])
              have HK0 := Lib.hid hk0
              clear hk0
              go_wp2_with fail
              rw [← HW.out]
              refine wp_region_quiet_below (by kernel_rfl) (by kernel_rfl) ?_
              repeat (go_big_quiet_step ((first | with_reducible exact cK _ _ | with_reducible exact cV _ _)))
              refine wpQuiet_nil ?_
              intro w2 hw2
              have hb2 := below_of_regrown hw2
              have HB2 := Lib.hid hb2
              clear hw2 hb2
              go_wp2
              have HB3 := HB2.out
              rw [HW.out] at HB3
              exact inFormed_next hlt HA.out HE3.out HB.out hsz hc0 hc1 HB3
    · have hke : k = n := by omega
      have HAn := Lib.hid (show (List.range n).all (stepOk kf vf) = true by rw [← hke]; exact HA.out)
      clear hke
      cases e1 : nameB name.data.toList with
      | false =>
        have HE := Lib.hid e1
        go_wp2_with fail
        refine (vname_is name _ hname HE.out).mono ?_
        rintro e w2 ⟨rfl, hb2⟩
        have HB2 := Lib.hid hb2
        clear hb2
        go_wp2_with fail
        go_ret
        exact ⟨ret_bool (by simp [formedB, HE.out]), HB.out.trans (HB2.out.mono (Nat.le_of_lt hsz))⟩
      | true =>
        have HE := Lib.hid e1
        clear e1
        go_wp2_with fail
        refine (vname_is name _ hname HE.out).mono ?_
        rintro e w2 ⟨rfl, hb2⟩
        have hc2 : w2.cell? ⟨w.heap.size, 1, none⟩ = some (.slice a n cap) := by rw [← hc1]; exact hb2.cell hsz
        have HB2 := Lib.hid hb2
        clear hb2 hc1
        go_wp2_with fail
        go_ret
        exact ⟨ret_bool (by rw [formedB, HAn.out, HE.out, Bool.eq_iff_iff]; simp; omega), HB.out.trans (HB2.out.mono (Nat.le_of_lt hsz))⟩
end Go.Proofs.YtagiddbfhlokcaaGreatDoor.Ser
