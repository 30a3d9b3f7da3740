/- A tag by its key by the reference; the walk of SeriesTags. Condition: none but the form's. -/
import Derived.Test.YtobcpafalfdpkaaJ
namespace Go.Proofs.Ytobcpafalfdpkaa
open Go.RowKit Go.Sort Go.Deep Go.WideShapes Go.ChangeShapes Go.Joins
open Go.ChangeMaps (open_string)
def InRTag (n cap : Nat) (a : Option Addr) (kf : Nat → ByteArray) (key : ByteArray) (w : World) (i : Value) (wr : World) : Prop := ∃ k : Nat, k ≤ n ∧ i = .int .i64 k ∧ (∀ j, j < k → keyAt kf key j = false) ∧ Below w.heap.size w wr ∧ wr.cell? ⟨w.heap.size, 1, none⟩ = some (.slice a n cap)
theorem rtag (name : ByteArray) (a : Option Addr) (n cap : Nat) (kf vf : Nat → ByteArray) (key : ByteArray) (w : World) (hn : n < 2 ^ 63) (ht : TagsAt w a n kf vf) :
    Calls Try.prog 13 #[.agg #[.string name, .slice a n cap], .string key] w (Answer (.tuple #[.string (tagB n kf vf key).1, .bool (tagB n kf vf key).2]) w) := by
  have HT := Lib.hid ht
  clear ht
  go_enter Try.func13, Try.ntmps13
  go_wp2_with fail
  go_loopw [10] (fun i wr => InRTag n cap a kf key w i wr) (fun i _ => n - (intOf i).toNat)
  case atStart => exact ⟨0, Nat.zero_le _, rfl, fun j hj => absurd hj (by omega), (Below.refl _ _).alloc (Nat.le_refl _) _, by simp⟩
  case round =>
    obtain ⟨k, hk, rfl, hno, hb, hc1⟩ := hrel
    have HN := Lib.hid hno
    have HB := Lib.hid hb
    have hc1' := hc1
    have hsz := World.block_lt_of_cell? wr _ hc1
    simp only at hsz
    clear hno hb
    by_cases hlt : k < n
    · obtain ⟨b, off, ha, hbw, hck, hcv⟩ := HT.out k hlt
      subst ha
      have hd1 : wr.cell? ⟨b, off + k * 2, none⟩ = some (.string (kf k)) := by rw [← hck]; exact HB.out.cell hbw
      have hd2 : wr.cell? ⟨b, off + k * 2 + 1, none⟩ = some (.string (vf k)) := by rw [← hcv]; exact HB.out.cell hbw
      have HC1 := Lib.hid hc1'
      clear hck hcv hc1'
      cases e1 : keyAt kf key k with
      | true =>
        have HF := Lib.hid (findB_some hlt e1 HN.out)
        have HE : ((kf k).toList == key.toList) = true := e1
        clear e1
        go_wp2_with fail
        go_ret2
        exact ⟨by simp [tagB, HF.out], HB.out⟩
      | false =>
        have HE : ((kf k).toList == key.toList) = false := e1
        have HE1 := Lib.hid e1
        clear e1
        go_wp2_with fail
        go_roundw
        case rel => exact ⟨k + 1, hlt, by go_num, fun j hj => by
          by_cases h : j = k
          · rw [h]; exact HE1.out
          · exact HN.out j (by omega), HB.out, HC1.out⟩
        case measure => simp [intOf]; omega
    · have hke : k = n := by omega
      have HF := Lib.hid (findB_none (n := n) (kf := kf) (key := key) (fun j hj => HN.out j (by omega)))
      clear hke
      go_wp2_with fail
      go_ret2
      exact ⟨by simp [tagB, HF.out], HB.out⟩
end Go.Proofs.Ytobcpafalfdpkaa
