/- The leaves of layer 15: names, special bytes, each as the code computes it. No condition but the sizes of what is read. -/
import Derived.Test.YtobcpafalfdpkaaRows
import Derived.WalkKit
import Derived.ProofKit
import Derived.OpenShut
import Derived.Below
import Derived.WalkLawsBesides
import Derived.WalkSpells
import Derived.Deep.Draws
import Derived.Deep.QuietTactic
import Derived.BigQuiet
import Derived.Deep.RegionHeld3
import Derived.Deep.AppendLies
import Derived.Laws.IdiomStrings
import Derived.Lib.Hide
import Derived.IntWalk
namespace Go.Proofs.Ytobcpafalfdpkaa
open Go.RowKit
def okc (c : UInt8) : Bool := !(decide (c.toNat < 32) || decide (c.toNat = 127))
def nameB (l : List UInt8) : Bool := l.all okc && (decide (1 ≤ l.length) && decide (l.length ≤ 64))
theorem take_snoc (s : ByteArray) (k : Nat) (h : k < s.size) : s.data.toList.take (k + 1) = s.data.toList.take k ++ [s[k]] := by
  rw [List.take_succ_eq_append_getElem (by simpa using h)]; rfl
theorem nameB_bad (s : ByteArray) (k : Nat) (h : k < s.size) (hc : okc s[k] = false) : nameB s.data.toList = false := by
  have : s.data.toList.all okc = false := by
    rw [List.all_eq_false]
    exact ⟨s[k], List.getElem_mem (l := s.data.toList) (by simpa using h), by simp [hc]⟩
  simp [nameB, this]
theorem nameB_all (s : ByteArray) (h : (s.data.toList.take s.size).all okc = true) : nameB s.data.toList = (decide (1 ≤ s.size) && decide (s.size ≤ 64)) := by
  rw [List.take_of_length_le (by simp)] at h
  have e : s.data.toList.length = s.size := by simp
  simp only [nameB, h, Bool.true_and, e]
theorem toList_len (s : ByteArray) : s.toList.length = s.size := by rw [ByteArray.toList_eq]; simp
theorem not_empty {s : ByteArray} (h : 1 ≤ s.size) : s.toList.isEmpty = false := by
  rw [List.isEmpty_eq_false_iff_exists_mem]
  have : 0 < s.toList.length := by rw [toList_len]; omega
  exact ⟨s.toList[0], List.getElem_mem _⟩
theorem is_empty {s : ByteArray} (h : s.size = 0) : s.toList.isEmpty = true := by
  rw [List.isEmpty_iff_length_eq_zero, toList_len, h]
theorem ret_bool {a b : Bool} (h : a = b) : Ending.returned (.bool a) = .returned (.bool b) := by rw [h]
def InName (s : ByteArray) (i : Value) : Prop := ∃ k : Nat, k ≤ s.size ∧ i = .int .i64 k ∧ (s.data.toList.take k).all okc = true
theorem inName_next {s : ByteArray} {k : Nat} (h : k < s.size) (ha : (s.data.toList.take k).all okc = true) (hc : okc s[k] = true) : InName s (.int .i64 ((k : Int) + 1)) :=
  ⟨k + 1, h, by go_num, by rw [take_snoc s k h, List.all_append, ha]; simp [hc]⟩
theorem rname (s : ByteArray) (w : World) (hs : s.size ≤ maxLen) : Calls Try.prog 85 #[.string s] w fun e w' => e = .returned (.bool (nameB s.data.toList)) ∧ w = w' := by
  unfold maxLen at hs
  go_enter Try.func85, Try.ntmps85
  go_wp2
  go_loop [3] (fun i => InName s i) (fun i => s.size - (intOf i).toNat)
  case atStart => exact ⟨0, Nat.zero_le _, rfl, rfl⟩
  case round =>
    obtain ⟨k, hk, rfl, hall⟩ := hrel
    have HA := Lib.hid hall
    clear hall
    by_cases hlt : k < s.size
    · obtain ⟨c, hcc⟩ : ∃ c, s[k] = c := ⟨_, rfl⟩
      have HN := Lib.hid (inName_next hlt HA.out)
      have HB := Lib.hid (nameB_bad s k hlt)
      rw [hcc] at HN HB
      by_cases h1 : c.toNat < 32
      · have HC := Lib.hid (show okc c = false by simp [okc, h1])
        have h1i : (c.toNat : Int) < 32 := by omega
        clear h1
        go_wp2
        go_ret
        exact ⟨ret_bool (HB.out HC.out).symm, rfl⟩
      · have h1i : ¬ (c.toNat : Int) < 32 := by omega
        by_cases h2 : c.toNat = 127
        · have HC := Lib.hid (show okc c = false by simp [okc, h2])
          have h2i : ((c.toNat : Int) == 127) = true := by simp; omega
          clear h1 h2
          go_wp2
          go_ret
          exact ⟨ret_bool (HB.out HC.out).symm, rfl⟩
        · have HC := Lib.hid (show okc c = true by simp [okc, h1, h2])
          have h2i : ((c.toNat : Int) == 127) = false := by simp; omega
          clear h1 h2
          go_wp2
          go_round
          case rel => exact HN.out HC.out
          case measure => simp [intOf]; omega
    · have hke : k = s.size := by omega
      have HK := Lib.hid (nameB_all s (by rw [← hke]; exact HA.out))
      clear hke
      by_cases h3 : 1 ≤ s.size
      · have h3b : decide (1 ≤ s.size) = true := by simp; omega
        have h3i : (1 : Int) ≤ (s.size : Int) := by omega
        go_wp2
        go_ret
        exact ⟨ret_bool (by rw [HK.out, Bool.eq_iff_iff]; simp; omega), rfl⟩
      · have h3i : ¬ (1 : Int) ≤ (s.size : Int) := by omega
        go_wp2
        go_ret
        exact ⟨ret_bool (by rw [HK.out, Bool.eq_iff_iff]; simp; omega), rfl⟩
theorem vname (s : ByteArray) (w : World) (hs : s.size ≤ maxLen) : Calls Try.prog 69 #[.string s] w fun e w' => e = .returned (.bool (nameB s.data.toList)) ∧ Below w.heap.size w w' := by
  unfold maxLen at hs
  have hcv := run_bytes_of_string w 9 105 5 s Try.underlying9 Try.underlying105 Try.underlying5
  have hcells : ∀ j (hj : j < s.size), (w.drew.alloc (.cells (bytesRow s (grownCap w s.size 0 5)) 5 ((bytesRow s (grownCap w s.size 0 5)).size, (bytesRow s (grownCap w s.size 0 5)).size + 1))).cell? ⟨w.heap.size, j, none⟩ = some (.int .u8 (s[j].toNat : Int)) := by
    intro j hj
    have h1 := bytesRow_at s (grownCap w s.size 0 5) j hj
    have h2 := World.cell?_alloc_mark w.drew (bytesRow s (grownCap w s.size 0 5)) 5 ((bytesRow s (grownCap w s.size 0 5)).size, (bytesRow s (grownCap w s.size 0 5)).size + 1) j
    exact h2.trans h1
  have hbel : Below w.heap.size w (w.drew.alloc (.cells (bytesRow s (grownCap w s.size 0 5)) 5 ((bytesRow s (grownCap w s.size 0 5)).size, (bytesRow s (grownCap w s.size 0 5)).size + 1))) := (Below.refl _ _).drew.alloc (Nat.le_refl _) _
  generalize w.drew.alloc (.cells (bytesRow s (grownCap w s.size 0 5)) 5 ((bytesRow s (grownCap w s.size 0 5)).size, (bytesRow s (grownCap w s.size 0 5)).size + 1)) = w1 at *
  generalize grownCap w s.size 0 5 = cp at *
  have HC := Lib.hid hcells
  have HBB := Lib.hid hbel
  clear hcells hbel
  go_enter Try.func69, Try.ntmps69
  go_wp2
  go_loop [8] (fun i => InName s i) (fun i => s.size - (intOf i).toNat)
  case atStart => exact ⟨0, Nat.zero_le _, rfl, rfl⟩
  case round =>
    obtain ⟨k, hk, rfl, hall⟩ := hrel
    have HA := Lib.hid hall
    clear hall
    by_cases hlt : k < s.size
    · obtain ⟨c, hcc⟩ : ∃ c, s[k] = c := ⟨_, rfl⟩
      have HN := Lib.hid (inName_next hlt HA.out)
      have HB := Lib.hid (nameB_bad s k hlt)
      have hcell := HC.out k hlt
      rw [hcc] at HN HB hcell
      clear hcc
      by_cases h1 : c.toNat < 32
      · have HC := Lib.hid (show okc c = false by simp [okc, h1])
        have h1i : (c.toNat : Int) < 32 := by omega
        clear h1
        go_wp2
        go_ret
        exact ⟨ret_bool (HB.out HC.out).symm, HBB.out⟩
      · have h1i : ¬ (c.toNat : Int) < 32 := by omega
        by_cases h2 : c.toNat = 127
        · have HC := Lib.hid (show okc c = false by simp [okc, h2])
          have h2i : ((c.toNat : Int) == 127) = true := by simp; omega
          clear h1 h2
          go_wp2
          go_ret
          exact ⟨ret_bool (HB.out HC.out).symm, HBB.out⟩
        · have HC := Lib.hid (show okc c = true by simp [okc, h1, h2])
          have h2i : ((c.toNat : Int) == 127) = false := by simp; omega
          clear h1 h2
          go_wp2
          go_round
          case rel => exact HN.out HC.out
          case measure => simp [intOf]; omega
    · have hke : k = s.size := by omega
      have HK := Lib.hid (nameB_all s (by rw [← hke]; exact HA.out))
      clear hke
      by_cases h3 : 1 ≤ s.size
      · have h3b : s.toList.isEmpty = false := not_empty h3
        have h3i : (1 : Int) ≤ (s.size : Int) := by omega
        go_wp2
        go_ret
        exact ⟨ret_bool (by rw [HK.out, Bool.eq_iff_iff]; simp; omega), HBB.out⟩
      · have h3b : s.toList.isEmpty = true := is_empty (by omega)
        go_wp2
        go_ret
        exact ⟨ret_bool (by rw [HK.out]; simp [h3]), HBB.out⟩
end Go.Proofs.Ytobcpafalfdpkaa
