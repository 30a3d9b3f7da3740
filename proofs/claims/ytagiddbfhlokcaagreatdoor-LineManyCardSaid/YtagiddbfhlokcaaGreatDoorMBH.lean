/- Whether a row is formed, by the program and by the reference. Condition: texts' lengths are numbers of Go's int; values' bits are 64. -/
import Derived.Test.YtagiddbfhlokcaaGreatDoorMBF
import Derived.Test.YtagiddbfhlokcaaGreatDoorMBA
namespace Go.Proofs.YtagiddbfhlokcaaGreatDoor.Ser
open Go.RowKit Go.Sort
set_option maxRecDepth 100000
def FieldsAt (w : World) (a : Option Addr) (L : List Fd) : Prop :=
  ∀ i, i < L.length → ∃ b off, a = some ⟨b, off, none⟩ ∧ b < w.heap.size ∧ w.cell? ⟨b, off + i * 4, none⟩ = some (.string (fE L i).1) ∧ w.cell? ⟨b, off + i * 4 + 1, none⟩ = some (.int .i64 (fE L i).2.1) ∧
    w.cell? ⟨b, off + i * 4 + 2, none⟩ = some (.int .u64 (fE L i).2.2.1) ∧ w.cell? ⟨b, off + i * 4 + 3, none⟩ = some (.string (fE L i).2.2.2)
theorem FieldsAt.later {w w' : World} {a : Option Addr} {L : List Fd} (h : FieldsAt w a L) (hb : Below w.heap.size w w') : FieldsAt w' a L := fun i hi => by
  obtain ⟨b, off, h1, h2, h3, h4, h5, h6⟩ := h i hi
  exact ⟨b, off, h1, Nat.lt_of_lt_of_le h2 hb.size, by rw [← h3]; exact hb.cell h2, by rw [← h4]; exact hb.cell h2, by rw [← h5]; exact hb.cell h2, by rw [← h6]; exact hb.cell h2⟩
/-- Texts are no longer than a text may be, bits are 64. -/
def FdOk (p : Fd) : Prop := p.1.size ≤ maxLen ∧ (0 ≤ p.2.2.1 ∧ p.2.2.1 < 18446744073709551616)
theorem fdOk_at {L : List Fd} (h : ∀ p ∈ L, FdOk p) (i : Nat) : FdOk (fE L i) := by
  unfold fE
  by_cases hi : i < L.length
  · rw [List.getD_eq_getElem?_getD, List.getElem?_eq_getElem hi]
    exact h _ (List.getElem_mem hi)
  · rw [List.getD_eq_getElem?_getD, List.getElem?_eq_none (Nat.le_of_not_lt hi)]
    exact ⟨Nat.zero_le _, Int.le_refl _, by decide⟩
theorem fformB_bad {L : List Fd} {k : Nat} (hk : k < L.length) (h : fstep L k = false) : fformB L = false := by
  unfold fformB
  rw [List.all_eq_false]
  exact ⟨k, by simpa using hk, by simp [h]⟩
theorem v59_is {r : Bool} (k b : Int) (t : ByteArray) (hb : 0 ≤ b ∧ b < 18446744073709551616) (h : formV k b t = r) (w : World) : Calls Tryz.prog 59 #[.agg #[.int .i64 k, .int .u64 b, .string t]] w fun e w' => e = .returned (.bool r) ∧ Below w.heap.size w w' := by
  obtain ⟨x, rfl⟩ : ∃ x : Nat, b = (x : Int) := ⟨b.toNat, by omega⟩
  subst h
  exact formed59 k x t (by omega) w
def rowB (name : ByteArray) (n : Nat) (kf vf : Nat → ByteArray) (L : List Fd) : Bool := fformB L && (formedB name n kf vf && (decide (0 < L.length) && decide (L.length ≤ 16)))
def InFm (n cap : Nat) (name : ByteArray) (a fa : Option Addr) (fcap : Nat) (tm : Int) (L : List Fd) (w : World) (i : Value) (wr : World) : Prop :=
  ∃ k : Nat, k ≤ L.length ∧ i = .int .i64 k ∧ (List.range k).all (fstep L) = true ∧ Below w.heap.size w wr ∧ w.heap.size < wr.heap.size ∧
    wr.cell? ⟨w.heap.size, 0, none⟩ = some (.string name) ∧ wr.cell? ⟨w.heap.size, 1, none⟩ = some (.slice a n cap) ∧ wr.cell? ⟨w.heap.size, 2, none⟩ = some (.slice fa L.length fcap) ∧ wr.cell? ⟨w.heap.size, 3, none⟩ = some (.int .i64 tm)
theorem inFm_next {n cap k fcap : Nat} {name : ByteArray} {a fa : Option Addr} {tm : Int} {L : List Fd} {w wr w2 : World} {o : Obj} (hk : k < L.length) (ha : (List.range k).all (fstep L) = true) (hs : fstep L k = true)
    (hb : Below w.heap.size w wr) (hsz : w.heap.size < wr.heap.size) (hc0 : wr.cell? ⟨w.heap.size, 0, none⟩ = some (.string name)) (hc1 : wr.cell? ⟨w.heap.size, 1, none⟩ = some (.slice a n cap)) (hc2 : wr.cell? ⟨w.heap.size, 2, none⟩ = some (.slice fa L.length fcap)) (hc3 : wr.cell? ⟨w.heap.size, 3, none⟩ = some (.int .i64 tm)) (hb2 : Below (wr.alloc o).heap.size (wr.alloc o) w2) :
    InFm n cap name a fa fcap tm L w (.int .i64 ((k : Int) + 1)) w2 ∧ L.length - (intOf (Value.int .i64 ((k : Int) + 1))).toNat < L.length - (intOf (Value.int .i64 (k : Int))).toNat := by
  have h1 : Below wr.heap.size wr w2 := ((Below.refl _ _).alloc (Nat.le_refl _) o).trans (hb2.mono (by simp))
  refine ⟨⟨k + 1, hk, by go_num, ?_, hb.trans (h1.mono (Nat.le_of_lt hsz)), Nat.lt_of_lt_of_le hsz h1.size, ?_, ?_, ?_, ?_⟩, ?_⟩
  · rw [List.range_succ, List.all_append, ha]; simp [hs]
  · rw [← hc0]; exact h1.cell hsz
  · rw [← hc1]; exact h1.cell hsz
  · rw [← hc2]; exact h1.cell hsz
  · rw [← hc3]; exact h1.cell hsz
  · simp [intOf]; omega
set_option maxHeartbeats 4000000 in
theorem formed25 (name : ByteArray) (a fa : Option Addr) (n cap fcap : Nat) (tm : Int) (kf vf : Nat → ByteArray) (L : List Fd) (w : World) (hn : n < 2 ^ 63) (hl : L.length < 2 ^ 63) (hname : name.size ≤ maxLen) (hks : ∀ i, (kf i).size ≤ maxLen ∧ (vf i).size ≤ maxLen)
    (hfs : ∀ p ∈ L, FdOk p) (ht : TagsAt w a n kf vf) (hf : FieldsAt w fa L) : Calls Tryz.prog 25 #[.agg #[.string name, .slice a n cap, .slice fa L.length fcap, .int .i64 tm]] w (Answer (.bool (rowB name n kf vf L)) w) := by
  have HT := Lib.hid hf
  have HK := Lib.hid hfs
  have HTG := Lib.hid ht
  have HKS := Lib.hid hks
  clear hf hfs ht hks
  go_enter Tryz.func25, Tryz.ntmps25
  go_wp2_with fail
  go_loopw [8] (fun i wr => InFm n cap name a fa fcap tm L w i wr) (fun i _ => L.length - (intOf i).toNat)
  case atStart => exact ⟨0, Nat.zero_le _, rfl, rfl, (Below.refl _ _).alloc (Nat.le_refl _) _, by simp, by simp, by simp, by simp, by simp⟩
  case round =>
    obtain ⟨k, hk, rfl, hall, hb, hsz, hc0, hc1, hc2, hc3⟩ := hrel
    have HA := Lib.hid hall
    have HB := Lib.hid hb
    clear hall hb
    by_cases hlt : k < L.length
    · obtain ⟨b, off, ha, hbw, hck, hcv, hcw, hcx⟩ := HT.out k hlt
      subst ha
      have hd1 : wr.cell? ⟨b, off + k * 4, none⟩ = some (.string (fE L k).1) := by rw [← hck]; exact HB.out.cell hbw
      have hd2 : wr.cell? ⟨b, off + k * 4 + 1, none⟩ = some (.int .i64 (fE L k).2.1) := by rw [← hcv]; exact HB.out.cell hbw
      have hd4 : wr.cell? ⟨b, off + k * 4 + 2, none⟩ = some (.int .u64 (fE L k).2.2.1) := by rw [← hcw]; exact HB.out.cell hbw
      have hd5 : wr.cell? ⟨b, off + k * 4 + 3, none⟩ = some (.string (fE L k).2.2.2) := by rw [← hcx]; exact HB.out.cell hbw
      have hbr : b < wr.heap.size := Nat.lt_of_lt_of_le hbw HB.out.size
      clear hck hcv hcw hcx
      obtain ⟨hk1, hv1⟩ := fdOk_at HK.out k
      obtain ⟨⟨ky, vk, vb, vt⟩, he⟩ : ∃ p, fE L k = p := ⟨_, rfl⟩
      rw [he] at hd1 hd2 hd4 hd5 hk1 hv1
      simp only at hd1 hd2 hd4 hd5 hk1 hv1
      have HEL := Lib.hid he
      clear he
      obtain ⟨W, hW⟩ : ∃ W, W = wr.alloc (.cells #[.string ky, .int .i64 vk, .int .u64 vb, .string vt] 64) := ⟨_, rfl⟩
      have f0 := cell_regrown (show W.cell? ⟨wr.heap.size, 0, none⟩ = some (.string ky) by rw [hW]; simp)
      have f1 := cell_regrown (show W.cell? ⟨wr.heap.size, 1, none⟩ = some (.int .i64 vk) by rw [hW]; simp)
      have f1b := cell_regrown (show W.cell? ⟨wr.heap.size, 2, none⟩ = some (.int .u64 vb) by rw [hW]; simp)
      have f1c := cell_regrown (show W.cell? ⟨wr.heap.size, 3, none⟩ = some (.string vt) by rw [hW]; simp)
      have f2 := cell_regrown (show W.cell? ⟨w.heap.size, 2, none⟩ = some (.slice (some ⟨b, off, none⟩) L.length fcap) by rw [hW]; exact alloc_cell hc2)
      have HW := Lib.hid hW
      clear hW
      have HST : Hid (fstep L k = (nameB ky.data.toList && (formV vk vb vt && (decide (k = 0) || Op.bytesLess (fE L (k - 1)).1.data.toList ky.data.toList)))) := Lib.hid (by unfold fstep; rw [HEL.out])
      have HBAD : Hid (∀ w2, Below W.heap.size W w2 → fstep L k = false → Answer (.bool (rowB name n kf vf L)) w (.returned (.bool false)) w2) := Lib.hid (fun w2 hb2 hs => by
        rw [HW.out] at hb2
        exact ⟨ret_bool (show false = rowB name n kf vf L by unfold rowB; rw [fformB_bad hlt hs]; rfl), below_box HB.out hsz hb2⟩)
      cases e1 : nameB ky.data.toList with
      | false =>
        have cK := fun d os => Calls.regrown_of (vname_is ky (grow (redrawn W d) os) hk1 e1)
        have HE := Lib.hid e1
        clear e1
        go_wp2_with fail
        rw [← HW.out]
        refine wp_region_quiet_below (by kernel_rfl) (by kernel_rfl) ?_
        repeat (go_big_quiet_step (with_reducible exact cK _ _))
        refine wpQuiet_nil ?_
        intro w2 hw2
        have hb2 := below_of_regrown hw2
        have HB2 := Lib.hid hb2
        clear hw2 hb2
        go_wp2
        go_ret
        exact HBAD.out _ HB2.out (by rw [HST.out, HE.out]; rfl)
      | true =>
        have cK := fun d os => Calls.regrown_of (vname_is ky (grow (redrawn W d) os) hk1 e1)
        have HE := Lib.hid e1
        clear e1
        cases e2 : formV vk vb vt with
        | false =>
          have cV := fun d os => Calls.regrown_of (v59_is vk vb vt hv1 e2 (grow (redrawn W d) os))
          have HE2 := Lib.hid e2
          clear e2
          go_wp2_with fail
          rw [← HW.out]
          refine wp_region_quiet_below (by kernel_rfl) (by kernel_rfl) ?_
          repeat (go_big_quiet_step ((first | with_reducible exact cK _ _ | with_reducible exact cV _ _)))
          refine wpQuiet_nil ?_
          intro w2 hw2
          have hb2 := below_of_regrown hw2
          have HB2 := Lib.hid hb2
          clear hw2 hb2
          go_wp2
          go_ret
          exact HBAD.out _ HB2.out (by rw [HST.out, HE2.out, Bool.false_and, Bool.and_false])
        | true =>
          have cV := fun d os => Calls.regrown_of (v59_is vk vb vt hv1 e2 (grow (redrawn W d) os))
          have HE2 := Lib.hid e2
          clear e2
          by_cases hk0 : k = 0
          · have hd : decide (0 < k) = false := by simp; omega
            have HS : Hid (fstep L k = true) := Lib.hid (by rw [HST.out, HE.out, HE2.out, hk0]; rfl)
            clear hk0
            go_wp2_with fail
            rw [← HW.out]
            refine wp_region_quiet_below (by kernel_rfl) (by kernel_rfl) ?_
            repeat (go_big_quiet_step ((first | with_reducible exact cK _ _ | with_reducible exact cV _ _)))
            refine wpQuiet_nil ?_
            intro w2 hw2
            have hb2 := below_of_regrown hw2
            have HB2 := Lib.hid hb2
            clear hw2 hb2
            go_wp2
            have HB3 := HB2.out
            rw [HW.out] at HB3
            exact inFm_next hlt HA.out HS.out HB.out hsz hc0 hc1 hc2 hc3 HB3
          · obtain ⟨b', off', ha', _, hck', _⟩ := HT.out (k - 1) (by omega)
            cases ha'
            obtain ⟨kp, hkp⟩ : ∃ kp, (fE L (k - 1)).1 = kp := ⟨_, rfl⟩
            have HKP := Lib.hid hkp
            rw [hkp] at hck'
            have hd3 : wr.cell? ⟨b, off + (k - 1) * 4, none⟩ = some (.string kp) := by rw [← hck']; exact HB.out.cell hbw
            have f3 := cell_regrown (show W.cell? ⟨b, off + (k - 1) * 4, none⟩ = some (.string kp) by rw [HW.out]; exact alloc_cell hd3)
            clear hck' hd3 hkp
            have hd : decide (0 < k) = true := by simp; omega
            have hq : (1 : Int) ≤ (k : Int) := by omega
            have hq1 : (k : Int) - 1 < (L.length : Int) := by omega
            have hq2 : ((k : Int) - 1).toNat = k - 1 := by omega
            have hq3 : IntKind.i64.wrap ((k : Int) - 1) = (k : Int) - 1 := IntWalk.i64_in _ (by omega)
            cases e3 : Op.bytesLess kp.toList ky.toList with
            | false =>
              have HS : Hid (fstep L k = false) := Lib.hid (by rw [ByteArray.toList_eq, ByteArray.toList_eq] at e3; rw [HST.out, HE.out, HE2.out, HKP.out, e3, decide_eq_false hk0]; rfl)
              have HK0 := Lib.hid hk0
              clear hk0
              go_wp2_with fail
              rw [← HW.out]
              refine wp_region_quiet_below (by kernel_rfl) (by kernel_rfl) ?_
              repeat (go_big_quiet_step ((first | with_reducible exact cK _ _ | with_reducible exact cV _ _)))
              refine wpQuiet_nil ?_
              intro w2 hw2
              have hb2 := below_of_regrown hw2
              have HB2 := Lib.hid hb2
              clear hw2 hb2
              go_wp2
              go_ret
              exact HBAD.out _ HB2.out HS.out
            | true =>
              have HS : Hid (fstep L k = true) := Lib.hid (by rw [ByteArray.toList_eq, ByteArray.toList_eq] at e3; rw [HST.out, HE.out, HE2.out, HKP.out, e3]; simp)
              have HK0 := Lib.hid hk0
              clear hk0
              go_wp2_with fail
              rw [← HW.out]
              refine wp_region_quiet_below (by kernel_rfl) (by kernel_rfl) ?_
              repeat (go_big_quiet_step ((first | with_reducible exact cK _ _ | with_reducible exact cV _ _)))
              refine wpQuiet_nil ?_
              intro w2 hw2
              have hb2 := below_of_regrown hw2
              have HB2 := Lib.hid hb2
              clear hw2 hb2
              go_wp2
              have HB3 := HB2.out
              rw [HW.out] at HB3
              exact inFm_next hlt HA.out HS.out HB.out hsz hc0 hc1 hc2 hc3 HB3
    · have hke : k = L.length := by omega
      have HAn : Hid (fformB L = true) := Lib.hid (by unfold fformB; rw [← hke]; exact HA.out)
      clear hke
      obtain ⟨fb, hfb⟩ : ∃ fb, formedB name n kf vf = fb := ⟨_, rfl⟩
      have MF := Lib.hid (formed name a n cap kf vf wr hn hname HKS.out (fun i hi => by
        obtain ⟨b, off, h1, h2, h3, h4⟩ := HTG.out i hi
        exact ⟨b, off, h1, Nat.lt_of_lt_of_le h2 HB.out.size, by rw [← h3]; exact HB.out.cell h2, by rw [← h4]; exact HB.out.cell h2⟩))
      rw [hfb] at MF
      have HFB := Lib.hid hfb
      have HFIN : Hid (∀ w2 r, Below wr.heap.size wr w2 → r = (fb && (decide (0 < L.length) && decide (L.length ≤ 16))) → Answer (.bool (rowB name n kf vf L)) w (.returned (.bool r)) w2) := Lib.hid (fun w2 r hb2 hr =>
        ⟨ret_bool (by unfold rowB; rw [hr, HAn.out, HFB.out]; rfl), HB.out.trans (hb2.mono (Nat.le_of_lt hsz))⟩)
      have HC2 := Lib.hid hc2
      clear hfb hc2
      go_wp2_with fail
      refine MF.out.mono ?_
      rintro e w2 ⟨rfl, hb2⟩
      have hc2 : w2.cell? ⟨w.heap.size, 2, none⟩ = some (.slice fa L.length fcap) := by rw [← HC2.out]; exact hb2.cell hsz
      have HB2 := Lib.hid hb2
      clear hb2 hc0 hc1 hc3
      cases fb with
      | false =>
        go_wp2_with fail
        go_ret
        exact HFIN.out _ _ HB2.out rfl
      | true =>
        by_cases h0 : 0 < L.length
        · have h0z : (0 : Int) < (L.length : Int) := by omega
          have H0 := Lib.hid (decide_eq_true h0)
          clear h0
          by_cases h16 : L.length ≤ 16
          · have h16z : (L.length : Int) ≤ 16 := by omega
            have H16 := Lib.hid (decide_eq_true h16)
            clear h16
            go_wp2_with fail
            go_ret
            exact HFIN.out _ _ HB2.out (by rw [H0.out, H16.out]; rfl)
          · have h16z : ¬ (L.length : Int) ≤ 16 := by omega
            have H16 := Lib.hid (decide_eq_false h16)
            have HZ : Hid (decide ((L.length : Int) ≤ 16) = false) := Lib.hid (decide_eq_false h16z)
            clear h16
            go_wp2_with fail
            go_ret
            exact HFIN.out _ _ HB2.out (by rw [H16.out, HZ.out, H0.out]; rfl)
        · have h0z : ¬ (0 : Int) < (L.length : Int) := by omega
          have H0 := Lib.hid (decide_eq_false h0)
          clear h0
          go_wp2_with fail
          go_ret
          exact HFIN.out _ _ HB2.out (by rw [H0.out]; rfl)
end Go.Proofs.YtagiddbfhlokcaaGreatDoor.Ser
