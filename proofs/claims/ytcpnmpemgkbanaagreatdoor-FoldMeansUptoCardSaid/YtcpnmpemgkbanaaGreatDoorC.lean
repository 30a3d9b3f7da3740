/- The walk of the document's Windows. No condition. -/
import Derived.Test.YtcpnmpemgkbanaaGreatDoorB
namespace Go.Proofs.YtcpnmpemgkbanaaGreatDoor
open Go.RowKit
def InWinR (f l w : Int) (W : World) (v a : Value) (wr : World) : Prop :=
  ∃ (k : Nat) (x : Option Addr) (c : Nat), k ≤ 999 ∧ v = .slice x k c ∧ a = .int .i64 (wat f w k) ∧ (∀ j, j < k → wat f w j ≠ win l w) ∧ wr.ownsRow W.heap.size 2 1 v k (watL f w k) ∧ Below W.heap.size W wr
set_option maxRecDepth 100000 in
set_option maxHeartbeats 1000000 in
theorem windows15 (f l w : Int) (W : World) (hf : lo63 ≤ f ∧ f ≤ 9223372036854775807) (hl : lo63 ≤ l ∧ l ≤ 9223372036854775807) (hw : w ≤ 9223372036854775807) :
    Calls Tryz.prog 15 #[.int .i64 f, .int .i64 l, .int .i64 w] W (WinPost f l w W) := by
  obtain ⟨i0, hi, hz0, hz1, hz2⟩ := info_parts info2
  have HI := Lib.hid hi
  have HZ0 := Lib.hid hz0
  have HZ1 := Lib.hid hz1
  have HZ2 := Lib.hid hz2
  clear hi hz0 hz1 hz2
  have HF := Lib.hid hf
  have HL := Lib.hid hl
  by_cases hw1 : w < 1
  · go_enter Tryz.func15, Tryz.ntmps15
    go_wp2_with fail
    go_ret2
    exact ⟨_, 0, 1, rfl, .inl ⟨.inl hw1, rfl, rfl⟩, World.ownsRow_nil _ _ _ _, Below.refl _ _⟩
  · by_cases hfl : l < f
    · go_enter Tryz.func15, Tryz.ntmps15
      go_wp2_with fail
      go_ret2
      exact ⟨_, 0, 1, rfl, .inl ⟨.inr hfl, rfl, rfl⟩, World.ownsRow_nil _ _ _ _, Below.refl _ _⟩
    · have hw0 : 1 ≤ w := by omega
      have hfl' : f ≤ l := by omega
      have HWL := Lib.hid (wat_le f l w hw0 hf.1 hfl')
      have HE := Lib.hid (win_le l w hl.1 hw0)
      obtain ⟨E, hE⟩ : ∃ E, win l w = E := ⟨_, rfl⟩
      have HEE := Lib.hid hE
      clear hf hl hE
      go_enter Tryz.func15, Tryz.ntmps15
      go_wp2_with fail
      refine (refWindow_any l w _ (by have := HL.out; unfold lo63 at this; exact this) hw).mono ?_
      rintro e w1 ⟨rfl, rfl⟩
      rw [HEE.out]
      go_wp2_with fail
      refine (refWindow_any f w _ (by have := HF.out; unfold lo63 at this; exact this) hw).mono ?_
      rintro e w1 ⟨rfl, rfl⟩
      go_wp2_with fail
      go_loopw [8, 10] (fun v a wr => InWinR f l w W v a wr) (fun v _ _ => 1001 - lenV v)
      case atStart => exact ⟨0, none, 0, by omega, rfl, rfl, fun j hj => by omega, World.ownsRow_nil _ _ _ _, Below.refl _ _⟩
      case round =>
        obtain ⟨k, x, c, hk, rfl, rfl, hne, hown, hb⟩ := hrel
        have HO := Lib.hid hown
        have HB := Lib.hid hb
        have HW0 := Lib.hid hw0
        have HFL := Lib.hid hfl'
        rw [HEE.out] at hne
        have HNE := Lib.hid hne
        have hsz := hb.size
        have hbl := HWL.out k (by rw [HEE.out]; exact hne)
        rw [HEE.out] at hbl
        unfold lo63 at hbl
        obtain ⟨a, ha⟩ : ∃ a, wat f w k = a := ⟨_, rfl⟩
        rw [ha] at hbl ⊢
        have HA := Lib.hid ha
        clear hown hb hne ha hw1 hfl
        by_cases heq : a = E
        · rw [heq] at HA
          subst heq
          go_wp2_with (at_builtin; go_must (refine wpList_append_own _ rfl (.tmp 24) (.tmp 26) 22 rfl W.heap.size 2 i0 _ 1 8 Tryz.underlying22 HI.out HZ0.out HZ1.out HZ2.out rfl (by omega) _ k _ rfl (World.ownsRow.alloc HO.out _) ⟨wr.heap.size, 0, none⟩ 1 1 [.int .i64 a] rfl rfl (World.news_of_block (cs := #[.int .i64 a]) (t := 2) (fr := (0, 0)) (heap_alloc_new wr _)) (by simp [Value.oneCell']) (by unfold maxLen; omega) (by omega) (by simp; omega) ?_); intro v6 w6 hown6 hgrow6 hnn; clear hnn; have HO6 := Lib.hid hown6; have HB6 := Lib.hid ((HB.out.alloc (by omega) _).grown hgrow6 (by simp; omega) (fun j hj => own_ge HO.out hj)); have hsz6 := HB6.out.size; obtain ⟨x6, c6, hv6⟩ := own_form hown6; subst hv6; clear hown6 hgrow6)
          have HS := Lib.hid (show w6.ownsRow W.heap.size 2 1 (.slice x6 (k + 1) c6) (k + 1) (watL f w (k + 1)) from by rw [watL_snoc, HA.out]; exact HO6.out)
          go_ret2
          exact ⟨_, k + 1, 0, rfl, .inr ⟨⟨HW0.out, HFL.out⟩, .inr ⟨by omega, by omega, rfl, by rw [HEE.out, Nat.add_sub_cancel]; exact HA.out, fun j hj => by rw [HEE.out]; rw [Nat.add_sub_cancel] at hj; exact HNE.out j hj⟩⟩, HS.out, HB6.out⟩
        · have hq : (a == E) = false := by simp [heq]
          have HQ := Lib.hid heq
          obtain ⟨n1, n2⟩ := next_le a l w hw0 (by unfold lo63; omega) (by rw [HEE.out]; omega) (by rw [HEE.out]; exact heq)
          rw [HEE.out] at n1
          obtain ⟨h5, h6⟩ := emod_bd a w hw0
          obtain ⟨m, hm⟩ : ∃ m, a % w = m := ⟨_, rfl⟩
          have HOV := Lib.hid (fun W => over_any a w W hw0 hw)
          rw [show ovr a w = a % w from rfl] at HOV
          rw [hm] at n1 n2 h5 h6 HOV
          have HM := Lib.hid hm
          clear heq hm
          have hEb := HL.out.2
          have hEE := HE.out
          rw [HEE.out] at hEE
          by_cases hk1 : k = 999
          · have HK := Lib.hid hk1
            clear hk1
            have hkd : (1000 : Int) ≤ (k : Int) + 1 := by have := HK.out; omega
            go_wp2_with (at_builtin; go_must (refine wpList_append_own _ rfl (.tmp 24) (.tmp 26) 22 rfl W.heap.size 2 i0 _ 1 8 Tryz.underlying22 HI.out HZ0.out HZ1.out HZ2.out rfl (by omega) _ k _ rfl (World.ownsRow.alloc HO.out _) ⟨wr.heap.size, 0, none⟩ 1 1 [.int .i64 a] rfl rfl (World.news_of_block (cs := #[.int .i64 a]) (t := 2) (fr := (0, 0)) (heap_alloc_new wr _)) (by simp [Value.oneCell']) (by unfold maxLen; omega) (by omega) (by simp; omega) ?_); intro v6 w6 hown6 hgrow6 hnn; clear hnn; have HO6 := Lib.hid hown6; have HB6 := Lib.hid ((HB.out.alloc (by omega) _).grown hgrow6 (by simp; omega) (fun j hj => own_ge HO.out hj)); have hsz6 := HB6.out.size; obtain ⟨x6, c6, hv6⟩ := own_form hown6; subst hv6; clear hown6 hgrow6)
            go_ret2
            exact ⟨_, 0, 3, rfl, .inr ⟨⟨HW0.out, HFL.out⟩, .inl ⟨rfl, rfl, fun j hj => by
              rw [HEE.out]
              by_cases hj9 : j = 999
              · rw [hj9, ← HK.out, HA.out]; exact HQ.out
              · exact HNE.out j (by have := HK.out; omega)⟩⟩, World.ownsRow_nil _ _ _ _, HB6.out⟩
          · have hkb : decide (1000 ≤ k + 1) = false := by simp; omega
            have hkc : decide (1000 ≤ (k : Int) + 1) = false := by simp; omega
            have hkd : (k : Int) + 1 < 1000 := by omega
            go_wp2_with (at_builtin; go_must (refine wpList_append_own _ rfl (.tmp 24) (.tmp 26) 22 rfl W.heap.size 2 i0 _ 1 8 Tryz.underlying22 HI.out HZ0.out HZ1.out HZ2.out rfl (by omega) _ k _ rfl (World.ownsRow.alloc HO.out _) ⟨wr.heap.size, 0, none⟩ 1 1 [.int .i64 a] rfl rfl (World.news_of_block (cs := #[.int .i64 a]) (t := 2) (fr := (0, 0)) (heap_alloc_new wr _)) (by simp [Value.oneCell']) (by unfold maxLen; omega) (by omega) (by simp; omega) ?_); intro v6 w6 hown6 hgrow6 hnn; clear hnn; have HO6 := Lib.hid hown6; have HB6 := Lib.hid ((HB.out.alloc (by omega) _).grown hgrow6 (by simp; omega) (fun j hj => own_ge HO.out hj)); have hsz6 := HB6.out.size; obtain ⟨x6, c6, hv6⟩ := own_form hown6; subst hv6; clear hown6 hgrow6)
            refine (HOV.out _).mono ?_
            rintro e w7 ⟨rfl, rfl⟩
            go_wp2_with fail
            go_roundw
            case rel =>
              refine ⟨k + 1, x6, c6, by omega, rfl, ?_, fun j hj => ?_, by rw [watL_snoc, HA.out]; exact HO6.out, HB6.out⟩
              · rw [show wat f w (k + 1) = wat f w k + (w - wat f w k % w) from rfl, HA.out, HM.out]
              · by_cases hjk : j = k
                · subst hjk; rw [HEE.out, HA.out]; exact HQ.out
                · rw [HEE.out]; exact HNE.out j (by omega)
            case measure => simp [lenV]; omega
end Go.Proofs.YtcpnmpemgkbanaaGreatDoor
