/- Several texts of this proof, laid together. Conditions: as each says. -/
import Derived.Test.YtagiddbfhlokcaaGreatDoorMBO
import Derived.Test.YtagiddbfhlokcaaGreatDoorMBI
/- Reading a line by the reference: the walk. Conditions: the text's length; the reader of values. -/
namespace Go.Proofs.YtagiddbfhlokcaaGreatDoor.Ser
open Go.RowKit Go.Sort
set_option maxRecDepth 100000
end Go.Proofs.YtagiddbfhlokcaaGreatDoor.Ser
/- Two series are the same, by the reference; and the law's waking question. Condition: texts' lengths are numbers of Go's int. -/
namespace Go.Proofs.YtagiddbfhlokcaaGreatDoor.Ser
open Go.RowKit Go.Sort
def tagEq (kf vf kg vg : Nat → ByteArray) (i : Nat) : Bool := (kf i).toList == (kg i).toList && (vf i).toList == (vg i).toList
def sameB (name name' : ByteArray) (n n' : Nat) (kf vf kg vg : Nat → ByteArray) : Bool := (name.toList == name'.toList) && (decide (n = n') && (List.range n).all (tagEq kf vf kg vg))
theorem sameB_bad {name name' : ByteArray} {n k : Nat} {kf vf kg vg : Nat → ByteArray} (hk : k < n) (h : tagEq kf vf kg vg k = false) : sameB name name' n n kf vf kg vg = false := by
  have : (List.range n).all (tagEq kf vf kg vg) = false := by
    rw [List.all_eq_false]
    exact ⟨k, by simpa using hk, by simp [h]⟩
  simp [sameB, this]
def InSame (n cap cap' : Nat) (a a' : Option Addr) (kf vf kg vg : Nat → ByteArray) (w : World) (i : Value) (wr : World) : Prop :=
  ∃ k : Nat, k ≤ n ∧ i = .int .i64 k ∧ (List.range k).all (tagEq kf vf kg vg) = true ∧ Below w.heap.size w wr ∧ wr.cell? ⟨w.heap.size, 1, none⟩ = some (.slice a n cap) ∧ wr.cell? ⟨w.heap.size + 1, 1, none⟩ = some (.slice a' n cap')
theorem same (name name' : ByteArray) (a a' : Option Addr) (n n' cap cap' : Nat) (kf vf kg vg : Nat → ByteArray) (w : World) (hn : n < 2 ^ 63)
    (ht : TagsAt w a n kf vf) (ht' : TagsAt w a' n' kg vg) : Calls Tryz.prog 32 #[.agg #[.string name, .slice a n cap], .agg #[.string name', .slice a' n' cap']] w (Answer (.bool (sameB name name' n n' kf vf kg vg)) w) := by
  have HT := Lib.hid ht
  have HT' := Lib.hid ht'
  clear ht ht'
  have hbb : Below w.heap.size w ((w.alloc (.cells #[.string name, .slice a n cap] 24)).alloc (.cells #[.string name', .slice a' n' cap'] 24)) := (((Below.refl _ _).alloc (Nat.le_refl _) _).alloc (by simp) _)
  have HBB := Lib.hid hbb
  clear hbb
  cases e0 : (name.toList == name'.toList) with
  | false =>
    have hne : (!(name.toList == name'.toList)) = true := by rw [e0]; rfl
    have HE := Lib.hid e0
    clear e0
    go_enter Tryz.func32, Tryz.ntmps32
    go_wp2
    go_ret
    exact ⟨ret_bool (by simp [sameB, HE.out]), HBB.out⟩
  | true =>
  by_cases hnn : n = n'
  · subst hnn
    have HE := Lib.hid e0
    have hne : (!(name.toList == name'.toList)) = false := by rw [e0]; rfl
    clear e0
    go_enter Tryz.func32, Tryz.ntmps32
    go_wp2
    go_loopw [23] (fun i wr => InSame n cap cap' a a' kf vf kg vg w i wr) (fun i _ => n - (intOf i).toNat)
    case atStart => exact ⟨0, Nat.zero_le _, rfl, rfl, HBB.out, by simp, by simp⟩
    case round =>
      obtain ⟨k, hk, rfl, hall, hb, hc0, hc1⟩ := hrel
      have HA := Lib.hid hall
      have HB := Lib.hid hb
      clear hall hb
      by_cases hlt : k < n
      · obtain ⟨b, off, ha, hbw, hck, hcv⟩ := HT.out k hlt
        obtain ⟨b', off', ha', hbw', hck', hcv'⟩ := HT'.out k hlt
        subst ha
        subst ha'
        have hd1 : wr.cell? ⟨b, off + k * 2, none⟩ = some (.string (kf k)) := by rw [← hck]; exact HB.out.cell hbw
        have hd2 : wr.cell? ⟨b, off + k * 2 + 1, none⟩ = some (.string (vf k)) := by rw [← hcv]; exact HB.out.cell hbw
        have hd3 : wr.cell? ⟨b', off' + k * 2, none⟩ = some (.string (kg k)) := by rw [← hck']; exact HB.out.cell hbw'
        have hd4 : wr.cell? ⟨b', off' + k * 2 + 1, none⟩ = some (.string (vg k)) := by rw [← hcv']; exact HB.out.cell hbw'
        clear hck hcv hck' hcv'
        have hi0 : (0 : Int) ≤ (k : Int) := by omega
        have hi1 : (k : Int) < (n : Int) := by omega
        cases e1 : ((kf k).toList == (kg k).toList) with
        | false =>
          have HT1 := Lib.hid (show tagEq kf vf kg vg k = false by simp [tagEq, e1])
          go_wp2_with fail
          go_quiet (fail)
          go_wp2
          go_ret
          exact ⟨ret_bool (sameB_bad hlt HT1.out).symm, below_drewN HB.out _⟩
        | true =>
          cases e2 : ((vf k).toList == (vg k).toList) with
          | false =>
            have HT1 := Lib.hid (show tagEq kf vf kg vg k = false by simp [tagEq, e2])
            go_wp2_with fail
            go_quiet (fail)
            go_wp2
            go_ret
            exact ⟨ret_bool (sameB_bad hlt HT1.out).symm, below_drewN HB.out _⟩
          | true =>
            have HT1 := Lib.hid (show tagEq kf vf kg vg k = true by simp only [tagEq, e1, e2]; rfl)
            go_wp2_with fail
            go_quiet (fail)
            go_wp2
            go_roundw
            case rel => exact ⟨k + 1, hlt, by go_num, by rw [List.range_succ, List.all_append, HA.out]; simp [HT1.out], below_drewN HB.out _, hc0, hc1⟩
            case measure => simp [intOf]; omega
      · have hke : k = n := by omega
        have HAn := Lib.hid (show (List.range n).all (tagEq kf vf kg vg) = true by rw [← hke]; exact HA.out)
        clear hke
        go_wp2
        go_ret
        exact ⟨ret_bool (by simp [sameB, HAn.out, HE.out]), HB.out⟩
  · have HE := Lib.hid e0
    have hn1 : ((n : Int) != (n' : Int)) = true := by rw [bne_iff_ne]; omega
    have HN := Lib.hid hnn
    clear hnn
    go_enter Tryz.func32, Tryz.ntmps32
    go_wp2
    go_ret
    exact ⟨ret_bool (by simp [sameB, HN.out]), HBB.out⟩
end Go.Proofs.YtagiddbfhlokcaaGreatDoor.Ser
