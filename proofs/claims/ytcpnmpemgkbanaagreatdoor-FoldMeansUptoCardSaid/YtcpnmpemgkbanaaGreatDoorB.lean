/- The walks of Windows, of both: the beginnings of windows. No condition. -/
import Derived.Test.YtcpnmpemgkbanaaGreatDoorA
import Derived.Deep.AppendLies
import Derived.WalkSpells
namespace Go.Proofs.YtcpnmpemgkbanaaGreatDoor
open Go.RowKit
theorem info2 : (Tryz.prog.info? 2).map (fun i => (i.zero, i.size, i.bytes)) = some (some (.int .i64 0), 1, 8) := by kernel_rfl
theorem own_ge {w : World} {B n size g : Nat} {t : TypeId} {v : Value} {xs : List Value} (h : w.ownsRow B t size v n xs) (hg : v.ownBlock = some g) : B ≤ g := by
  rcases h.2 with ⟨rfl, _⟩ | ⟨g', cap, cur, rfl, h1, _⟩
  · cases hg
  · cases hg
    exact h1
theorem own_form {w : World} {B n size : Nat} {t : TypeId} {v : Value} {xs : List Value} (h : w.ownsRow B t size v n xs) : ∃ a cap, v = .slice a n cap := by
  rcases h.2 with ⟨rfl, h0⟩ | ⟨g, cap, cur, rfl, _⟩
  · exact ⟨none, 0, by rw [h0]⟩
  · exact ⟨_, cap, rfl⟩
def lenV : Value → Nat
  | .slice _ n _ => n
  | _ => 0
/-- The window's place, the k-th. -/
def wat (f w : Int) : Nat → Int
  | 0 => win f w
  | k + 1 => wat f w k + (w - wat f w k % w)
def watL (f w : Int) (k : Nat) : List Value := (List.range k).map fun j => .int .i64 (wat f w j)
theorem watL_len (f w : Int) (k : Nat) : (watL f w k).length = k := by simp [watL]
theorem watL_snoc (f w : Int) (k : Nat) : watL f w (k + 1) = watL f w k ++ [.int .i64 (wat f w k)] := by simp [watL, List.range_succ]
theorem watL_at (f w : Int) {j k : Nat} (h : j < k) : (watL f w k)[j]? = some (.int .i64 (wat f w j)) := by simp [watL, h]
def lo63 : Int := -9223372036854775808
theorem win_ge (t w : Int) (h : lo63 ≤ t) : lo63 ≤ win t w := by
  unfold win lo63 at *
  split
  · exact h
  · split <;> omega
theorem win_le (t w : Int) (h : lo63 ≤ t) (hw : 1 ≤ w) : win t w ≤ t := by
  have := emod_bd t w hw
  unfold win lo63 at *
  split
  · omega
  · split <;> omega
theorem sub_emod (t w : Int) : t - t % w = w * (t / w) := by have := Int.mul_ediv_add_emod t w; omega
theorem win_or (t w : Int) (hw : 1 ≤ w) : win t w = lo63 ∧ w * (t / w) < lo63 ∨ win t w = w * (t / w) ∧ lo63 ≤ w * (t / w) := by
  have h := sub_emod t w
  unfold win lo63
  rw [if_neg (by omega)]
  split
  · left; exact ⟨rfl, by omega⟩
  · right; exact ⟨h, by omega⟩
theorem win_mono (f l w : Int) (hw : 1 ≤ w) (h : f ≤ l) : win f w ≤ win l w := by
  have h1 : f / w ≤ l / w := Int.ediv_le_ediv (by omega) h
  have h2 : w * (f / w) ≤ w * (l / w) := Int.mul_le_mul_of_nonneg_left h1 (by omega)
  rcases win_or f w hw with ⟨a, b⟩ | ⟨a, b⟩ <;> rcases win_or l w hw with ⟨c, d⟩ | ⟨c, d⟩ <;> omega
/-- The next window does not pass the last one. -/
theorem next_le (a l w : Int) (hw : 1 ≤ w) (ha : lo63 ≤ a) (h : a ≤ win l w) (hne : a ≠ win l w) : a + (w - a % w) ≤ win l w ∧ a < a + (w - a % w) := by
  have hb := emod_bd a w hw
  refine ⟨?_, by omega⟩
  rcases win_or l w hw with ⟨c, d⟩ | ⟨c, d⟩
  · omega
  · rw [c] at h hne ⊢
    have h3 := Int.mul_ediv_add_emod a w
    have h4 : a + (w - a % w) = w * (a / w + 1) := by rw [Int.mul_add]; omega
    rw [h4]
    have h5 : a / w < l / w := by
      refine Int.ediv_lt_of_lt_mul (by omega) ?_
      rw [Int.mul_comm]; omega
    exact Int.mul_le_mul_of_nonneg_left (by omega) (by omega)
theorem wat_le (f l w : Int) (hw : 1 ≤ w) (hf : lo63 ≤ f) (h : f ≤ l) : ∀ k, (∀ j, j < k → wat f w j ≠ win l w) → wat f w k ≤ win l w ∧ lo63 ≤ wat f w k
  | 0, _ => ⟨win_mono f l w hw h, win_ge f w hf⟩
  | k + 1, hk => by
    obtain ⟨h1, h2⟩ := wat_le f l w hw hf h k (fun j hj => hk j (by omega))
    obtain ⟨h3, h4⟩ := next_le _ l w hw h2 h1 (hk k (by omega))
    exact ⟨h3, by unfold wat; omega⟩
/-- What Windows answers: how many, and the error. -/
def winSays (f l w : Int) (k : Nat) (err : Int) : Prop :=
  ((w < 1 ∨ l < f) ∧ k = 0 ∧ err = 1) ∨ ((1 ≤ w ∧ f ≤ l) ∧ ((k = 0 ∧ err = 3 ∧ ∀ j, j < 1000 → wat f w j ≠ win l w) ∨ (1 ≤ k ∧ k ≤ 1000 ∧ err = 0 ∧ wat f w (k - 1) = win l w ∧ ∀ j, j < k - 1 → wat f w j ≠ win l w)))
theorem winSays_one {f l w : Int} {k k' : Nat} {err err' : Int} (h : winSays f l w k err) (h' : winSays f l w k' err') : k = k' ∧ err = err' := by
  unfold winSays at h h'
  rcases h with ⟨a, rfl, rfl⟩ | ⟨a, h⟩ <;> rcases h' with ⟨b, rfl, rfl⟩ | ⟨b, h'⟩
  · exact ⟨rfl, rfl⟩
  · omega
  · omega
  · rcases h with ⟨rfl, rfl, h⟩ | ⟨h1, h2, rfl, h3, h4⟩ <;> rcases h' with ⟨rfl, rfl, h'⟩ | ⟨h1', h2', rfl, h3', h4'⟩
    · exact ⟨rfl, rfl⟩
    · exact absurd h3' (h _ (by omega))
    · exact absurd h3 (h' _ (by omega))
    · refine ⟨?_, rfl⟩
      rcases Nat.lt_trichotomy k k' with hlt | rfl | hlt
      · exact absurd h3 (h4' _ (by omega))
      · rfl
      · exact absurd h3' (h4 _ (by omega))
def WinPost (f l w : Int) (W : World) (e : Ending) (w' : World) : Prop :=
  ∃ (v : Value) (k : Nat) (err : Int), e = .returned (.tuple #[v, .int .i64 err]) ∧ winSays f l w k err ∧ w'.ownsRow W.heap.size 2 1 v k (watL f w k) ∧ Below W.heap.size W w'
def InWin (f l w : Int) (W : World) (v a : Value) (wr : World) : Prop :=
  ∃ (k : Nat) (x : Option Addr) (c : Nat), k ≤ 1000 ∧ v = .slice x k c ∧ a = .int .i64 (wat f w k) ∧ (∀ j, j < k → wat f w j ≠ win l w) ∧ wr.ownsRow W.heap.size 2 1 v k (watL f w k) ∧ Below W.heap.size W wr
set_option maxRecDepth 100000 in
set_option maxHeartbeats 1000000 in
theorem windows14 (f l w : Int) (W : World) (hf : lo63 ≤ f ∧ f ≤ 9223372036854775807) (hl : lo63 ≤ l ∧ l ≤ 9223372036854775807) (hw : w ≤ 9223372036854775807) :
    Calls Tryz.prog 14 #[.int .i64 f, .int .i64 l, .int .i64 w] W (WinPost f l w W) := by
  obtain ⟨i0, hi, hz0, hz1, hz2⟩ := info_parts info2
  have HI := Lib.hid hi
  have HZ0 := Lib.hid hz0
  have HZ1 := Lib.hid hz1
  have HZ2 := Lib.hid hz2
  clear hi hz0 hz1 hz2
  have HF := Lib.hid hf
  have HL := Lib.hid hl
  by_cases hw1 : w < 1
  · go_enter Tryz.func14, Tryz.ntmps14
    go_wp2_with fail
    go_ret2
    exact ⟨_, 0, 1, rfl, .inl ⟨.inl hw1, rfl, rfl⟩, World.ownsRow_nil _ _ _ _, Below.refl _ _⟩
  · by_cases hfl : l < f
    · go_enter Tryz.func14, Tryz.ntmps14
      go_wp2_with fail
      go_ret2
      exact ⟨_, 0, 1, rfl, .inl ⟨.inr hfl, rfl, rfl⟩, World.ownsRow_nil _ _ _ _, Below.refl _ _⟩
    · have hw0 : 1 ≤ w := by omega
      have hfl' : f ≤ l := by omega
      have HWL := Lib.hid (wat_le f l w hw0 hf.1 hfl')
      have HE := Lib.hid (win_le l w hl.1 hw0)
      obtain ⟨E, hE⟩ : ∃ E, win l w = E := ⟨_, rfl⟩
      have HEE := Lib.hid hE
      clear hf hl hE
      go_enter Tryz.func14, Tryz.ntmps14
      go_wp2_with fail
      refine (window_any f w _ (by have := HF.out; unfold lo63 at this; exact this) hw).mono ?_
      rintro e w1 ⟨rfl, rfl⟩
      go_wp2_with fail
      refine (window_any l w _ (by have := HL.out; unfold lo63 at this; exact this) hw).mono ?_
      rintro e w1 ⟨rfl, rfl⟩
      rw [HEE.out]
      go_wp2_with fail
      go_loopw [8, 9] (fun v a wr => InWin f l w W v a wr) (fun v _ _ => 1001 - lenV v)
      case atStart => exact ⟨0, none, 0, by omega, rfl, rfl, fun j hj => by omega, World.ownsRow_nil _ _ _ _, Below.refl _ _⟩
      case round =>
        obtain ⟨k, x, c, hk, rfl, rfl, hne, hown, hb⟩ := hrel
        have HO := Lib.hid hown
        have HB := Lib.hid hb
        have HW0 := Lib.hid hw0
        have HFL := Lib.hid hfl'
        rw [HEE.out] at hne
        have HNE := Lib.hid hne
        have hsz := hb.size
        have hbl := HWL.out k (by rw [HEE.out]; exact hne)
        rw [HEE.out] at hbl
        unfold lo63 at hbl
        obtain ⟨a, ha⟩ : ∃ a, wat f w k = a := ⟨_, rfl⟩
        rw [ha] at hbl ⊢
        have HA := Lib.hid ha
        clear hown hb hne ha hw1 hfl
        by_cases hk1 : k = 1000
        · have hkb : ((k : Int) == 1000) = true := by simp; omega
          have HK := Lib.hid hk1
          clear hk1
          go_wp2_with fail
          go_ret2
          exact ⟨_, 0, 3, rfl, .inr ⟨⟨HW0.out, HFL.out⟩, .inl ⟨rfl, rfl, fun j hj => by rw [HEE.out]; exact HNE.out j (by rw [HK.out]; exact hj)⟩⟩, World.ownsRow_nil _ _ _ _, HB.out⟩
        have hkb : ((k : Int) == 1000) = false := by simp; omega
        by_cases heq : a = E
        · have hq : (a == E) = true := by simp [heq]
          have HQ := Lib.hid heq
          rw [heq] at HA
          subst heq
          clear HQ hq
          go_wp2_with (at_builtin; go_must (refine wpList_append_own _ rfl (.tmp 28) (.tmp 30) 22 rfl W.heap.size 2 i0 _ 1 8 Tryz.underlying22 HI.out HZ0.out HZ1.out HZ2.out rfl (by omega) _ k _ rfl (World.ownsRow.alloc HO.out _) ⟨wr.heap.size, 0, none⟩ 1 1 [.int .i64 a] rfl rfl (World.news_of_block (cs := #[.int .i64 a]) (t := 2) (fr := (0, 0)) (heap_alloc_new wr _)) (by simp [Value.oneCell']) (by unfold maxLen; omega) (by omega) (by simp; omega) ?_); intro v6 w6 hown6 hgrow6 hnn; clear hnn; have HO6 := Lib.hid hown6; have HB6 := Lib.hid ((HB.out.alloc (by omega) _).grown hgrow6 (by simp; omega) (fun j hj => own_ge HO.out hj)); have hsz6 := HB6.out.size; clear hown6 hgrow6)
          have HS := Lib.hid (show w6.ownsRow W.heap.size 2 1 v6 (k + 1) (watL f w (k + 1)) from by rw [watL_snoc, HA.out]; exact HO6.out)
          go_ret2
          exact ⟨_, k + 1, 0, rfl, .inr ⟨⟨HW0.out, HFL.out⟩, .inr ⟨by omega, by omega, rfl, by rw [HEE.out, Nat.add_sub_cancel]; exact HA.out, fun j hj => by rw [HEE.out]; rw [Nat.add_sub_cancel] at hj; exact HNE.out j hj⟩⟩, HS.out, HB6.out⟩
        · have hq : (a == E) = false := by simp [heq]
          have HQ := Lib.hid heq
          obtain ⟨n1, n2⟩ := next_le a l w hw0 (by unfold lo63; omega) (by rw [HEE.out]; omega) (by rw [HEE.out]; exact heq)
          rw [HEE.out] at n1
          obtain ⟨h1, h2, h3, h4⟩ := tmod_lo a w hw0
          obtain ⟨h5, h6⟩ := emod_bd a w hw0
          obtain ⟨m, hm⟩ : ∃ m, a % w = m := ⟨_, rfl⟩
          rw [hm] at n1 n2 h3 h4 h5 h6
          have HM := Lib.hid hm
          clear heq hm
          have hEb := HL.out.2
          have hEE := HE.out
          rw [HEE.out] at hEE
          by_cases hn : a.tmod w < 0
          · obtain rfl := h3 hn
            clear h3 h4
            go_wp2_with (at_builtin; go_must (refine wpList_append_own _ rfl (.tmp 28) (.tmp 30) 22 rfl W.heap.size 2 i0 _ 1 8 Tryz.underlying22 HI.out HZ0.out HZ1.out HZ2.out rfl (by omega) _ k _ rfl (World.ownsRow.alloc HO.out _) ⟨wr.heap.size, 0, none⟩ 1 1 [.int .i64 a] rfl rfl (World.news_of_block (cs := #[.int .i64 a]) (t := 2) (fr := (0, 0)) (heap_alloc_new wr _)) (by simp [Value.oneCell']) (by unfold maxLen; omega) (by omega) (by simp; omega) ?_); intro v6 w6 hown6 hgrow6 hnn; clear hnn; have HO6 := Lib.hid hown6; have HB6 := Lib.hid ((HB.out.alloc (by omega) _).grown hgrow6 (by simp; omega) (fun j hj => own_ge HO.out hj)); have hsz6 := HB6.out.size; clear hown6 hgrow6)
            obtain ⟨x6, c6, rfl⟩ := own_form HO6.out
            go_roundw
            case rel =>
              refine ⟨k + 1, x6, c6, by omega, rfl, ?_, fun j hj => ?_, by rw [watL_snoc, HA.out]; exact HO6.out, HB6.out⟩
              · rw [show wat f w (k + 1) = wat f w k + (w - wat f w k % w) from rfl, HA.out, HM.out]
              · by_cases hjk : j = k
                · subst hjk; rw [HEE.out, HA.out]; exact HQ.out
                · rw [HEE.out]; exact HNE.out j (by omega)
            case measure => simp [lenV]; omega
          · obtain rfl := h4 (by omega)
            have hn' : 0 ≤ a.tmod w := by omega
            clear h3 h4
            go_wp2_with (at_builtin; go_must (refine wpList_append_own _ rfl (.tmp 28) (.tmp 30) 22 rfl W.heap.size 2 i0 _ 1 8 Tryz.underlying22 HI.out HZ0.out HZ1.out HZ2.out rfl (by omega) _ k _ rfl (World.ownsRow.alloc HO.out _) ⟨wr.heap.size, 0, none⟩ 1 1 [.int .i64 a] rfl rfl (World.news_of_block (cs := #[.int .i64 a]) (t := 2) (fr := (0, 0)) (heap_alloc_new wr _)) (by simp [Value.oneCell']) (by unfold maxLen; omega) (by omega) (by simp; omega) ?_); intro v6 w6 hown6 hgrow6 hnn; clear hnn; have HO6 := Lib.hid hown6; have HB6 := Lib.hid ((HB.out.alloc (by omega) _).grown hgrow6 (by simp; omega) (fun j hj => own_ge HO.out hj)); have hsz6 := HB6.out.size; clear hown6 hgrow6)
            obtain ⟨x6, c6, rfl⟩ := own_form HO6.out
            go_roundw
            case rel =>
              refine ⟨k + 1, x6, c6, by omega, rfl, ?_, fun j hj => ?_, by rw [watL_snoc, HA.out]; exact HO6.out, HB6.out⟩
              · rw [show wat f w (k + 1) = wat f w k + (w - wat f w k % w) from rfl, HA.out, HM.out]
              · by_cases hjk : j = k
                · subst hjk; rw [HEE.out, HA.out]; exact HQ.out
                · rw [HEE.out]; exact HNE.out j (by omega)
            case measure => simp [lenV]; omega
end Go.Proofs.YtcpnmpemgkbanaaGreatDoor
