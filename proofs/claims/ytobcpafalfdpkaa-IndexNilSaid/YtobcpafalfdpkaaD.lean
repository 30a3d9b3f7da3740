/- Whether a series is formed, by the program and by the reference. Condition: texts' lengths are numbers of Go's int. -/
import Derived.Test.YtobcpafalfdpkaaC
import Derived.Lib.QuietBelow
namespace Go.Proofs.Ytobcpafalfdpkaa
open Go.RowKit Go.Sort
theorem alloc_cell {w : World} {o : Obj} {a : Addr} {v : Value} (h : w.cell? a = some v) : (w.alloc o).cell? a = some v := (((Below.refl _ _).alloc (Nat.le_refl _) o).cell (World.block_lt_of_cell? w _ h)).trans h
theorem below_of_regrown {w w' : World} (h : ∃ p : Regrown, w' = grow (redrawn w p.d) p.os) : Below w.heap.size w w' := by
  obtain ⟨p, rfl⟩ := h; exact below_regrown w p.d p.os
theorem vname_is {b : Bool} (s : ByteArray) (w : World) (hs : s.size ≤ maxLen) (h : nameB s.data.toList = b) : Calls Try.prog 69 #[.string s] w fun e w' => e = .returned (.bool b) ∧ Below w.heap.size w w' := by
  subst h; exact vname s w hs
def TagsAt (w : World) (a : Option Addr) (n : Nat) (kf vf : Nat → ByteArray) : Prop :=
  ∀ i, i < n → ∃ b off, a = some ⟨b, off, none⟩ ∧ b < w.heap.size ∧ w.cell? ⟨b, off + i * 2, none⟩ = some (.string (kf i)) ∧ w.cell? ⟨b, off + i * 2 + 1, none⟩ = some (.string (vf i))
theorem TagsAt.later {w w' : World} {a : Option Addr} {n : Nat} {kf vf : Nat → ByteArray} (h : TagsAt w a n kf vf) (hb : Below w.heap.size w w') : TagsAt w' a n kf vf := fun i hi => by
  obtain ⟨b, off, h1, h2, h3, h4⟩ := h i hi
  exact ⟨b, off, h1, Nat.lt_of_lt_of_le h2 hb.size, by rw [← h3]; exact hb.cell h2, by rw [← h4]; exact hb.cell h2⟩
def stepOk (kf vf : Nat → ByteArray) (i : Nat) : Bool := nameB (kf i).data.toList && (nameB (vf i).data.toList && (decide (i = 0) || Op.bytesLess (kf (i - 1)).data.toList (kf i).data.toList))
def formedB (name : ByteArray) (n : Nat) (kf vf : Nat → ByteArray) : Bool := (List.range n).all (stepOk kf vf) && (nameB name.data.toList && decide (n ≤ 8))
theorem formedB_bad {name : ByteArray} {n k : Nat} {kf vf : Nat → ByteArray} (hk : k < n) (h : stepOk kf vf k = false) : formedB name n kf vf = false := by
  have : (List.range n).all (stepOk kf vf) = false := by
    rw [List.all_eq_false]
    exact ⟨k, by simpa using hk, by simp [h]⟩
  simp [formedB, this]
def InFormed (n cap : Nat) (name : ByteArray) (a : Option Addr) (kf vf : Nat → ByteArray) (w : World) (i : Value) (wr : World) : Prop :=
  ∃ k : Nat, k ≤ n ∧ i = .int .i64 k ∧ (List.range k).all (stepOk kf vf) = true ∧ Below w.heap.size w wr ∧ w.heap.size < wr.heap.size ∧
    wr.cell? ⟨w.heap.size, 0, none⟩ = some (.string name) ∧ wr.cell? ⟨w.heap.size, 1, none⟩ = some (.slice a n cap)
theorem inFormed_next {n cap k : Nat} {name : ByteArray} {a : Option Addr} {kf vf : Nat → ByteArray} {w wr w2 : World} {o : Obj} (hk : k < n) (ha : (List.range k).all (stepOk kf vf) = true) (hs : stepOk kf vf k = true)
    (hb : Below w.heap.size w wr) (hsz : w.heap.size < wr.heap.size) (hc0 : wr.cell? ⟨w.heap.size, 0, none⟩ = some (.string name)) (hc1 : wr.cell? ⟨w.heap.size, 1, none⟩ = some (.slice a n cap)) (hb2 : Below (wr.alloc o).heap.size (wr.alloc o) w2) :
    InFormed n cap name a kf vf w (.int .i64 ((k : Int) + 1)) w2 ∧ n - (intOf (Value.int .i64 ((k : Int) + 1))).toNat < n - (intOf (Value.int .i64 (k : Int))).toNat := by
  have h1 : Below wr.heap.size wr w2 := ((Below.refl _ _).alloc (Nat.le_refl _) o).trans (hb2.mono (by simp))
  refine ⟨⟨k + 1, hk, by go_num, ?_, hb.trans (h1.mono (Nat.le_of_lt hsz)), Nat.lt_of_lt_of_le hsz h1.size, ?_, ?_⟩, ?_⟩
  · rw [List.range_succ, List.all_append, ha]; simp [hs]
  · rw [← hc0]; exact h1.cell hsz
  · rw [← hc1]; exact h1.cell hsz
  · simp [intOf]; omega
def Answer (v : Value) (w : World) (e : Ending) (w' : World) : Prop := e = .returned v ∧ Below w.heap.size w w'
theorem below_box {w wr w2 : World} {o : Obj} (hb : Below w.heap.size w wr) (hsz : w.heap.size < wr.heap.size) (hb2 : Below (wr.alloc o).heap.size (wr.alloc o) w2) : Below w.heap.size w w2 :=
  hb.trans ((((Below.refl _ _).alloc (Nat.le_refl _) o).trans (hb2.mono (by simp))).mono (Nat.le_of_lt hsz))
set_option maxHeartbeats 1000000 in
theorem formed (name : ByteArray) (a : Option Addr) (n cap : Nat) (kf vf : Nat → ByteArray) (w : World) (hn : n < 2 ^ 63) (hname : name.size ≤ maxLen) (hks : ∀ i, (kf i).size ≤ maxLen ∧ (vf i).size ≤ maxLen)
    (ht : TagsAt w a n kf vf) : Calls Try.prog 54 #[.agg #[.string name, .slice a n cap]] w (Answer (.bool (formedB name n kf vf)) w) := by
  have HT := Lib.hid ht
  have HK := Lib.hid hks
  clear ht hks
  go_enter Try.func54, Try.ntmps54
  go_wp2
  go_loopw [8] (fun i wr => InFormed n cap name a kf vf w i wr) (fun i _ => n - (intOf i).toNat)
  case atStart => exact ⟨0, Nat.zero_le _, rfl, rfl, (Below.refl _ _).alloc (Nat.le_refl _) _, by simp, by simp, by simp⟩
  case round =>
    obtain ⟨k, hk, rfl, hall, hb, hsz, hc0, hc1⟩ := hrel
    have HA := Lib.hid hall
    have HB := Lib.hid hb
    clear hall hb
    by_cases hlt : k < n
    · obtain ⟨b, off, ha, hbw, hck, hcv⟩ := HT.out k hlt
      subst ha
      have hd1 : wr.cell? ⟨b, off + k * 2, none⟩ = some (.string (kf k)) := by rw [← hck]; exact HB.out.cell hbw
      have hd2 : wr.cell? ⟨b, off + k * 2 + 1, none⟩ = some (.string (vf k)) := by rw [← hcv]; exact HB.out.cell hbw
      have hbr : b < wr.heap.size := Nat.lt_of_lt_of_le hbw HB.out.size
      clear hck hcv
      obtain ⟨hk1, hv1⟩ := HK.out k
      obtain ⟨W, hW⟩ : ∃ W, W = wr.alloc (.cells #[.string (kf k), .string (vf k)] 51) := ⟨_, rfl⟩
      have f0 := cell_regrown (show W.cell? ⟨wr.heap.size, 0, none⟩ = some (.string (kf k)) by rw [hW]; simp)
      have f1 := cell_regrown (show W.cell? ⟨wr.heap.size, 1, none⟩ = some (.string (vf k)) by rw [hW]; simp)
      have f2 := cell_regrown (show W.cell? ⟨w.heap.size, 1, none⟩ = some (.slice (some ⟨b, off, none⟩) n cap) by rw [hW]; exact alloc_cell hc1)
      have HW := Lib.hid hW
      clear hW
      cases e1 : nameB (kf k).data.toList with
      | false =>
        have cK := fun d os => Calls.regrown_of (vname_is (kf k) (grow (redrawn W d) os) hk1 e1)
        have HE := Lib.hid e1
        clear e1
        go_wp2_with fail
        rw [← HW.out]
        refine wp_region_quiet_below (by kernel_rfl) (by kernel_rfl) ?_
        repeat (go_big_quiet_step ((exact cK _ _)))
        refine wpQuiet_nil ?_
        intro w2 hw2
        have hb2 := below_of_regrown hw2
        have HB2 := Lib.hid hb2
        clear hw2 hb2
        go_wp2
        go_ret
        have HB3 := HB2.out
        rw [HW.out] at HB3
        exact ⟨ret_bool (formedB_bad hlt (by simp [stepOk, HE.out])).symm, below_box HB.out hsz HB3⟩
      | true =>
        have cK := fun d os => Calls.regrown_of (vname_is (kf k) (grow (redrawn W d) os) hk1 e1)
        have HE := Lib.hid e1
        clear e1
        cases e2 : nameB (vf k).data.toList with
        | false =>
          have cV := fun d os => Calls.regrown_of (vname_is (vf k) (grow (redrawn W d) os) hv1 e2)
          have HE2 := Lib.hid e2
          clear e2
          go_wp2_with fail
          rw [← HW.out]
          refine wp_region_quiet_below (by kernel_rfl) (by kernel_rfl) ?_
          repeat (go_big_quiet_step ((first | with_reducible exact cK _ _ | with_reducible exact cV _ _)))
          refine wpQuiet_nil ?_
          intro w2 hw2
          have hb2 := below_of_regrown hw2
          have HB2 := Lib.hid hb2
          clear hw2 hb2
          go_wp2
          go_ret
          have HB3 := HB2.out
          rw [HW.out] at HB3
          exact ⟨ret_bool (formedB_bad hlt (by simp [stepOk, HE2.out])).symm, below_box HB.out hsz HB3⟩
        | true =>
          have cV := fun d os => Calls.regrown_of (vname_is (vf k) (grow (redrawn W d) os) hv1 e2)
          have HE2 := Lib.hid e2
          clear e2
          by_cases hk0 : k = 0
          · have hd : decide (0 < k) = false := by simp; omega
            have HK0 := Lib.hid hk0
            clear hk0
            go_wp2_with fail
            rw [← HW.out]
            refine wp_region_quiet_below (by kernel_rfl) (by kernel_rfl) ?_
            repeat (go_big_quiet_step ((first | with_reducible exact cK _ _ | with_reducible exact cV _ _)))
            refine wpQuiet_nil ?_
            intro w2 hw2
            have hb2 := below_of_regrown hw2
            have HB2 := Lib.hid hb2
            clear hw2 hb2
            go_wp2
            have HB3 := HB2.out
            rw [HW.out] at HB3
            exact inFormed_next hlt HA.out (by simp only [stepOk, HE.out, HE2.out]; simp [HK0.out]) HB.out hsz hc0 hc1 HB3
          · obtain ⟨b', off', ha', _, hck', _⟩ := HT.out (k - 1) (by omega)
            cases ha'
            have hd3 : wr.cell? ⟨b, off + (k - 1) * 2, none⟩ = some (.string (kf (k - 1))) := by rw [← hck']; exact HB.out.cell hbw
            have f3 := cell_regrown (show W.cell? ⟨b, off + (k - 1) * 2, none⟩ = some (.string (kf (k - 1))) by rw [HW.out]; exact alloc_cell hd3)
            clear hck' hd3
            have hd : decide (0 < k) = true := by simp; omega
            have hq : (1 : Int) ≤ (k : Int) := by omega
            have hq1 : (k : Int) - 1 < (n : Int) := by omega
            have hq2 : ((k : Int) - 1).toNat = k - 1 := by omega
            have hq3 : IntKind.i64.wrap ((k : Int) - 1) = (k : Int) - 1 := IntWalk.i64_in _ (by omega)
            cases e3 : Op.bytesLess (kf (k - 1)).toList (kf k).toList with
            | false =>
              have HE3 := Lib.hid (show stepOk kf vf k = false by rw [ByteArray.toList_eq, ByteArray.toList_eq] at e3; simp [stepOk, HE.out, HE2.out, e3, hk0])
              have HK0 := Lib.hid hk0
              clear hk0
              go_wp2_with fail
              rw [← HW.out]
              refine wp_region_quiet_below (by kernel_rfl) (by kernel_rfl) ?_
              repeat (go_big_quiet_step ((first | with_reducible exact cK _ _ | with_reducible exact cV _ _)))
              refine wpQuiet_nil ?_
              intro w2 hw2
              have hb2 := below_of_regrown hw2
              have HB2 := Lib.hid hb2
              clear hw2 hb2
              go_wp2
              go_ret
              have HB3 := HB2.out
              rw [HW.out] at HB3
              exact ⟨ret_bool (formedB_bad hlt HE3.out).symm, below_box HB.out hsz HB3⟩
            | true =>
              have HE3 := Lib.hid (show stepOk kf vf k = true by rw [ByteArray.toList_eq, ByteArray.toList_eq] at e3; simp [stepOk, HE.out, HE2.out, e3, hk0])
              have HK0 := Lib.hid hk0
              clear hk0
              go_wp2_with fail
              rw [← HW.out]
              refine wp_region_quiet_below (by kernel_rfl) (by kernel_rfl) ?_
              repeat (go_big_quiet_step ((first | with_reducible exact cK _ _ | with_reducible exact cV _ _)))
              refine wpQuiet_nil ?_
              intro w2 hw2
              have hb2 := below_of_regrown hw2
              have HB2 := Lib.hid hb2
              clear hw2 hb2
              go_wp2
              have HB3 := HB2.out
              rw [HW.out] at HB3
              exact inFormed_next hlt HA.out HE3.out HB.out hsz hc0 hc1 HB3
    · have hke : k = n := by omega
      have HAn := Lib.hid (show (List.range n).all (stepOk kf vf) = true by rw [← hke]; exact HA.out)
      clear hke
      cases e1 : nameB name.data.toList with
      | false =>
        have HE := Lib.hid e1
        go_wp2_with fail
        refine (vname_is name _ hname HE.out).mono ?_
        rintro e w2 ⟨rfl, hb2⟩
        have HB2 := Lib.hid hb2
        clear hb2
        go_wp2_with fail
        go_ret
        exact ⟨ret_bool (by simp [formedB, HE.out]), HB.out.trans (HB2.out.mono (Nat.le_of_lt hsz))⟩
      | true =>
        have HE := Lib.hid e1
        clear e1
        go_wp2_with fail
        refine (vname_is name _ hname HE.out).mono ?_
        rintro e w2 ⟨rfl, hb2⟩
        have hc2 : w2.cell? ⟨w.heap.size, 1, none⟩ = some (.slice a n cap) := by rw [← hc1]; exact hb2.cell hsz
        have HB2 := Lib.hid hb2
        clear hb2 hc1
        go_wp2_with fail
        go_ret
        exact ⟨ret_bool (by rw [formedB, HAn.out, HE.out, Bool.eq_iff_iff]; simp; omega), HB.out.trans (HB2.out.mono (Nat.le_of_lt hsz))⟩
end Go.Proofs.Ytobcpafalfdpkaa
