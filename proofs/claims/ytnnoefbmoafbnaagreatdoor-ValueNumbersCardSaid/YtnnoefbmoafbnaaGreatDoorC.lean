/- setDigits at 1.5's digits. No condition but the row of 32 noughts. -/
import Derived.Test.YtnnoefbmoafbnaaGreatDoorB
namespace Go.Proofs.YtnnoefbmoafbnaaGreatDoor
open Go.RowKit Go.Sort
set_option maxRecDepth 100000
def encB (b : UInt8) : Value := Value.int .u8 (b.toNat : Int)
theorem dgs : ∀ t : Fin 16, Lib.dg 1500000000000000 (15 - t.val) = (if t.val = 0 then 49 else if t.val = 1 then 53 else 48) := by decide +kernel
theorem fmt15 (w : World) (b : Nat) (hH : Holds encB w b 0 (Array.replicate 16 0)) :
    Calls Tryz.prog 36 #[.slice (some ⟨b, 0, none⟩) 16 32, .int .u64 1500000000000000] w fun e w' => e = .returned (.tuple #[]) ∧ (∀ t, t < 16 → w'.cell? ⟨b, t, none⟩ = some (.int .u8 (if t = 0 then 49 else if t = 1 then 53 else 48))) ∧ Below b w w' := by
  have h := Tryz.internal_strconv_formatBase10 b 0 32 1500000000000000 (Array.replicate 16 0) w hH (by rw [Array.size_replicate]; decide) (by omega) (by rw [Array.size_replicate]; omega)
  rw [Array.size_replicate] at h
  refine h.mono ?_
  rintro e w' ⟨rfl, n, v', dk, rfl, hf⟩
  refine ⟨rfl, fun t ht => ?_, ?_⟩
  · have h1 := cell?_putRow encB w b 0 _ dk hH (by rw [hf.size, Array.size_replicate]) t (by rw [hf.size]; exact ht)
    have h2 := hf.done t (by omega) ht
    have h3 := dgs ⟨t, ht⟩
    rw [show 16 - 1 - t = 15 - t by omega] at h2
    simp only at h3
    rw [h2, h3, Nat.zero_add] at h1
    refine Eq.trans h1 ?_
    unfold encB
    split
    · rfl
    · split <;> rfl
  · exact ⟨rfl, rfl, rfl, by simp [putRow, mapBlock, World.drewN], fun i hi => by simp only [putRow, mapBlock, World.drewN]; rw [Array.getElem?_modify, if_neg (by omega)]⟩
theorem setDigits15 (w : World) (b : Nat) (hH : Holds encB w b 0 (Array.replicate 16 0)) :
    Calls Tryz.prog 70 #[.slice (some ⟨b, 0, none⟩) 32 32, .int .u64 1500000000000000, .int .i64 (-15), .int .i64 16] w fun e w' => e = .returned (.tuple #[.int .i64 1, .int .i64 2]) ∧ (w'.cell? ⟨b, 0, none⟩ = some (.int .u8 49) ∧ w'.cell? ⟨b, 1, none⟩ = some (.int .u8 53)) ∧ Below b w w' := by
  have HH := Lib.hid hH
  clear hH
  go_enter Tryz.func70, Tryz.ntmps70
  go_wp2_with fail
  refine (fmt15 _ _ HH.out).mono ?_
  rintro e w1 ⟨rfl, hc, hb⟩
  have HC := Lib.hid hc
  have HB := Lib.hid hb
  clear hc hb
  go_wp2_with fail
  go_loopw [3] (fun i wr => (∃ k : Nat, 2 ≤ k ∧ k ≤ 16 ∧ i = .int .i64 k) ∧ wr = w1) (fun i _ => (intOf i).toNat)
  case atStart => exact ⟨⟨16, by omega, by omega, rfl⟩, rfl⟩
  case round =>
    obtain ⟨⟨k, h2, h16, rfl⟩, hw⟩ := hrel
    obtain rfl := hw.symm
    by_cases hk : k = 2
    · subst hk
      have c1 := HC.out 1 (by omega)
      simp only [if_neg (show ¬(1 : Nat) = 0 by omega), if_pos] at c1
      go_wp2
      go_ret2
      exact ⟨rfl, ⟨HC.out 0 (by omega), HC.out 1 (by omega)⟩, HB.out⟩
    · have c1 := HC.out (k - 1) (by omega)
      rw [if_neg (by omega), if_neg (by omega)] at c1
      have e1 : ((k : Int) - 1).toNat = k - 1 := by omega
      go_wp2
      go_roundw
      case rel => exact ⟨⟨k - 1, by omega, by omega, by go_num⟩, trivial⟩
      case measure => simp [intOf]; omega
end Go.Proofs.YtnnoefbmoafbnaaGreatDoor
