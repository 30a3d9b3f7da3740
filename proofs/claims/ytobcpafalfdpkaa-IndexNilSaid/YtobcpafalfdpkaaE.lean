/- Whether a series is formed, by the reference. Condition: texts' lengths are numbers of Go's int. -/
import Derived.Test.YtobcpafalfdpkaaD
namespace Go.Proofs.Ytobcpafalfdpkaa
open Go.RowKit Go.Sort
theorem rname_is {b : Bool} (s : ByteArray) (w : World) (hs : s.size ≤ maxLen) (h : nameB s.data.toList = b) : Calls Try.prog 85 #[.string s] w fun e w' => e = .returned (.bool b) ∧ Below w.heap.size w w' := by
  subst h; exact (rname s w hs).mono fun e w' ⟨h1, h2⟩ => ⟨h1, by rw [← h2]; exact Below.refl _ _⟩
theorem inFormed_next' {n cap k : Nat} {name : ByteArray} {a : Option Addr} {kf vf : Nat → ByteArray} {w wr w2 : World} (hk : k < n) (ha : (List.range k).all (stepOk kf vf) = true) (hs : stepOk kf vf k = true)
    (hb : Below w.heap.size w wr) (hsz : w.heap.size < wr.heap.size) (hc0 : wr.cell? ⟨w.heap.size, 0, none⟩ = some (.string name)) (hc1 : wr.cell? ⟨w.heap.size, 1, none⟩ = some (.slice a n cap)) (h1 : Below wr.heap.size wr w2) :
    InFormed n cap name a kf vf w (.int .i64 ((k : Int) + 1)) w2 ∧ n - (intOf (Value.int .i64 ((k : Int) + 1))).toNat < n - (intOf (Value.int .i64 (k : Int))).toNat := by
  refine ⟨⟨k + 1, hk, by go_num, ?_, hb.trans (h1.mono (Nat.le_of_lt hsz)), Nat.lt_of_lt_of_le hsz h1.size, ?_, ?_⟩, ?_⟩
  · rw [List.range_succ, List.all_append, ha]; simp [hs]
  · rw [← hc0]; exact h1.cell hsz
  · rw [← hc1]; exact h1.cell hsz
  · simp [intOf]; omega
set_option maxHeartbeats 1000000 in
theorem rformed (name : ByteArray) (a : Option Addr) (n cap : Nat) (kf vf : Nat → ByteArray) (w : World) (hn : n < 2 ^ 63) (hname : name.size ≤ maxLen) (hks : ∀ i, (kf i).size ≤ maxLen ∧ (vf i).size ≤ maxLen)
    (ht : TagsAt w a n kf vf) : Calls Try.prog 65 #[.agg #[.string name, .slice a n cap]] w (Answer (.bool (formedB name n kf vf)) w) := by
  have HT := Lib.hid ht
  have HK := Lib.hid hks
  clear ht hks
  go_enter Try.func65, Try.ntmps65
  cases e0 : nameB name.data.toList with
  | false =>
    have HE := Lib.hid e0
    clear e0
    go_wp2_with fail
    refine (rname_is name _ hname HE.out).mono ?_
    rintro e w2 ⟨rfl, hb2⟩
    have HB2 := Lib.hid hb2
    clear hb2
    go_wp2_with fail
    go_ret
    exact ⟨ret_bool (by simp [formedB, HE.out]), ((Below.refl _ _).alloc (Nat.le_refl _) _).trans (HB2.out.mono (by simp))⟩
  | true =>
  have HE0 := Lib.hid e0
  clear e0
  go_wp2_with fail
  refine (rname_is name _ hname HE0.out).mono ?_
  rintro e w2 ⟨rfl, hb2⟩
  have hz0 : w2.cell? ⟨w.heap.size, 0, none⟩ = some (.string name) := (hb2.cell (by simp)).trans (by simp)
  have hz1 : w2.cell? ⟨w.heap.size, 1, none⟩ = some (.slice a n cap) := (hb2.cell (by simp)).trans (by simp)
  have hbw0 : Below w.heap.size w w2 := ((Below.refl _ _).alloc (Nat.le_refl _) _).trans (hb2.mono (by simp))
  have hsz0 : w.heap.size < w2.heap.size := by have := hb2.size; simp at this; omega
  have HB0 := Lib.hid hbw0
  clear hb2 hbw0
  by_cases h8 : 8 < n
  · go_wp2_with fail
    go_ret
    exact ⟨ret_bool (by simp [formedB]; omega), HB0.out⟩
  have hd8 : decide ((8 : Int) < (n : Int)) = false := by simp; omega
  go_wp2_with fail
  go_loopw [17] (fun i wr => InFormed n cap name a kf vf w i wr) (fun i _ => n - (intOf i).toNat)
  case atStart => exact ⟨0, Nat.zero_le _, rfl, rfl, HB0.out, hsz0, hz0, hz1⟩
  case round =>
    clear hz0 hz1
    obtain ⟨k, hk, rfl, hall, hb, hsz, hc0, hc1⟩ := hrel
    have HA := Lib.hid hall
    have HB := Lib.hid hb
    clear hall hb
    by_cases hlt : k < n
    · obtain ⟨b, off, ha, hbw, hck, hcv⟩ := HT.out k hlt
      subst ha
      have hd1 : wr.cell? ⟨b, off + k * 2, none⟩ = some (.string (kf k)) := by rw [← hck]; exact HB.out.cell hbw
      have hd2 : wr.cell? ⟨b, off + k * 2 + 1, none⟩ = some (.string (vf k)) := by rw [← hcv]; exact HB.out.cell hbw
      have f0 := cell_regrown hd1
      have f1 := cell_regrown hd2
      have f2 := cell_regrown hc1
      clear hck hcv hd1 hd2
      obtain ⟨hk1, hv1⟩ := HK.out k
      have hi0 : (0 : Int) ≤ (k : Int) := by omega
      have hi1 : (k : Int) < (n : Int) := by omega
      cases e1 : nameB (kf k).data.toList with
      | false =>
        have cK := fun d os => Calls.regrown_of (rname_is (kf k) (grow (redrawn wr d) os) hk1 e1)
        have HE := Lib.hid e1
        clear e1
        go_wp2_with fail
        refine wp_region_quiet_below (by kernel_rfl) (by kernel_rfl) ?_
        repeat (go_big_quiet_step ((exact cK _ _)))
        refine wpQuiet_nil ?_
        intro w2 hw2
        have hb2 := below_of_regrown hw2
        have HB2 := Lib.hid hb2
        clear hw2 hb2
        go_wp2
        go_ret
        exact ⟨ret_bool (formedB_bad hlt (by simp [stepOk, HE.out])).symm, HB.out.trans (HB2.out.mono (Nat.le_of_lt hsz))⟩
      | true =>
        have cK := fun d os => Calls.regrown_of (rname_is (kf k) (grow (redrawn wr d) os) hk1 e1)
        have HE := Lib.hid e1
        clear e1
        cases e2 : nameB (vf k).data.toList with
        | false =>
          have cV := fun d os => Calls.regrown_of (rname_is (vf k) (grow (redrawn wr d) os) hv1 e2)
          have HE2 := Lib.hid e2
          clear e2
          go_wp2_with fail
          refine wp_region_quiet_below (by kernel_rfl) (by kernel_rfl) ?_
          repeat (go_big_quiet_step ((first | with_reducible exact cK _ _ | with_reducible exact cV _ _)))
          refine wpQuiet_nil ?_
          intro w2 hw2
          have hb2 := below_of_regrown hw2
          have HB2 := Lib.hid hb2
          clear hw2 hb2
          go_wp2
          go_ret
          exact ⟨ret_bool (formedB_bad hlt (by simp [stepOk, HE2.out])).symm, HB.out.trans (HB2.out.mono (Nat.le_of_lt hsz))⟩
        | true =>
          have cV := fun d os => Calls.regrown_of (rname_is (vf k) (grow (redrawn wr d) os) hv1 e2)
          have HE2 := Lib.hid e2
          clear e2
          by_cases hk0 : k = 0
          · have hd : decide (0 < k) = false := by simp; omega
            have HK0 := Lib.hid hk0
            clear hk0
            go_wp2_with fail
            refine wp_region_quiet_below (by kernel_rfl) (by kernel_rfl) ?_
            repeat (go_big_quiet_step ((first | with_reducible exact cK _ _ | with_reducible exact cV _ _)))
            refine wpQuiet_nil ?_
            intro w2 hw2
            have hb2 := below_of_regrown hw2
            have HB2 := Lib.hid hb2
            clear hw2 hb2
            go_wp2
            exact inFormed_next' hlt HA.out (by simp only [stepOk, HE.out, HE2.out]; simp [HK0.out]) HB.out hsz hc0 hc1 HB2.out
          · obtain ⟨b', off', ha', _, hck', _⟩ := HT.out (k - 1) (by omega)
            cases ha'
            have hd3 : wr.cell? ⟨b, off + (k - 1) * 2, none⟩ = some (.string (kf (k - 1))) := by rw [← hck']; exact HB.out.cell hbw
            have f3 := cell_regrown hd3
            clear hck' hd3
            have hd : decide (0 < k) = true := by simp; omega
            have hq : (1 : Int) ≤ (k : Int) := by omega
            have hq1 : (k : Int) - 1 < (n : Int) := by omega
            have hq2 : ((k : Int) - 1).toNat = k - 1 := by omega
            have hq3 : IntKind.i64.wrap ((k : Int) - 1) = (k : Int) - 1 := IntWalk.i64_in _ (by omega)
            cases e3 : Op.bytesLess (kf (k - 1)).toList (kf k).toList with
            | false =>
              have HE3 := Lib.hid (show stepOk kf vf k = false by rw [ByteArray.toList_eq, ByteArray.toList_eq] at e3; simp [stepOk, HE.out, HE2.out, e3, hk0])
              have HK0 := Lib.hid hk0
              clear hk0
              go_wp2_with fail
              refine wp_region_quiet_below (by kernel_rfl) (by kernel_rfl) ?_
              repeat (go_big_quiet_step ((first | with_reducible exact cK _ _ | with_reducible exact cV _ _)))
              refine wpQuiet_nil ?_
              intro w2 hw2
              have hb2 := below_of_regrown hw2
              have HB2 := Lib.hid hb2
              clear hw2 hb2
              go_wp2
              go_ret
              exact ⟨ret_bool (formedB_bad hlt HE3.out).symm, HB.out.trans (HB2.out.mono (Nat.le_of_lt hsz))⟩
            | true =>
              have HE3 := Lib.hid (show stepOk kf vf k = true by rw [ByteArray.toList_eq, ByteArray.toList_eq] at e3; simp [stepOk, HE.out, HE2.out, e3, hk0])
              have HK0 := Lib.hid hk0
              clear hk0
              go_wp2_with fail
              refine wp_region_quiet_below (by kernel_rfl) (by kernel_rfl) ?_
              repeat (go_big_quiet_step ((first | with_reducible exact cK _ _ | with_reducible exact cV _ _)))
              refine wpQuiet_nil ?_
              intro w2 hw2
              have hb2 := below_of_regrown hw2
              have HB2 := Lib.hid hb2
              clear hw2 hb2
              go_wp2
              exact inFormed_next' hlt HA.out HE3.out HB.out hsz hc0 hc1 HB2.out
    · have hke : k = n := by omega
      have HAn := Lib.hid (show (List.range n).all (stepOk kf vf) = true by rw [← hke]; exact HA.out)
      clear hke
      go_wp2_with fail
      go_ret
      exact ⟨ret_bool (by rw [formedB, HAn.out, HE0.out]; simp; omega), HB.out⟩
end Go.Proofs.Ytobcpafalfdpkaa
