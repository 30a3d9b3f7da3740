/- The walk from a number's label on. Condition: the text's length. -/
import Derived.Test.YtcmdcdjclmpncaaF
namespace Go.Proofs.Ytcmdcdjclmpncaa
open Go.RowKit
theorem num_digit {s : ByteArray} {k : Nat} (p : Bool) (h : digitB (hd (s.data.toList.drop k)) = true) : k < s.size ∧ numR p (s.data.toList.drop k) = numR p (s.data.toList.drop (k + 1)) ∧ (hd (s.data.toList.drop k)).toNat ≠ 46 := by
  by_cases hk : k < s.size
  · rw [hd_in s k hk] at h ⊢
    refine ⟨hk, ?_, fun e => by rw [show s[k] = 46 from UInt8.toNat_inj.1 e] at h; exact absurd h (by decide)⟩
    rw [drop_cons s k hk, numR, if_pos h]
  · rw [hd_out s k hk] at h; exact absurd h (by decide)
theorem num_point {s : ByteArray} {k : Nat} (h0 : digitB (hd (s.data.toList.drop k)) = false) (h1 : (hd (s.data.toList.drop k)).toNat = 46) (h2 : digitB (hd (s.data.toList.drop (k + 1))) = true) : k < s.size ∧ numR false (s.data.toList.drop k) = numR true (s.data.toList.drop (k + 1)) := by
  by_cases hk : k < s.size
  · rw [hd_in s k hk] at h0 h1
    refine ⟨hk, ?_⟩
    rw [drop_cons s k hk, numR]
    simp [h0, h1, h2]
  · rw [hd_out s k hk] at h1; exact absurd h1 (by decide)
theorem num_stop {s : ByteArray} {k : Nat} (p : Bool) (h0 : digitB (hd (s.data.toList.drop k)) = false) (h : p = true ∨ (hd (s.data.toList.drop k)).toNat ≠ 46 ∨ digitB (hd (s.data.toList.drop (k + 1))) = false) : numR p (s.data.toList.drop k) = s.data.toList.drop k := by
  by_cases hk : k < s.size
  · rw [hd_in s k hk] at h0 h
    rw [drop_cons s k hk, numR]
    rcases h with h | h | h <;> simp [h0, h]
  · rw [List.drop_eq_nil_of_le (by simp; omega), numR]
set_option maxRecDepth 100000 in
set_option maxHeartbeats 1000000 in
theorem pass2 (s : ByteArray) (l : List UInt8) (X : Nat) (w : World) (hs : s.size ≤ 1048576) (Q : Exit → Act → World → Prop) (hret : ∀ a' w', Ret s l X w a' w' → Q .ret a' w') (rest : Code) (hr : (Try.f15.body.bind firstScope).bind (findLabel · 2) = some rest)
    (a : Act) (wr : World) (hJ : J2 s l X w a wr) : rest.wp Try.prog (Jumps (fun l' a' w' => JL s l X w l' a' w' ∧ mu s X l' a' w' < mu s X 2 a wr) Q) a wr := by
  change some _ = some rest at hr
  cases hr
  obtain ⟨⟨hd0, hsz, g0, g2⟩, k, kind, at_, p, g6, hw, hlt, hk, hl, hone⟩ := hJ
  have hmu : mu s X 2 a wr = 3 * (s.size - k) + 1 := by simp [mu, hw.kOfW, rank]
  rw [hmu]
  obtain ⟨f, rfl, hf⟩ := frame_of a hsz hd0
  rw [hf] at g0 g2 g6
  rw [g0, g2, g6]
  clear hf hsz hd0 g0 g2 g6 hmu
  have HL := Lib.hid hl
  have HONE := Lib.hid hone
  have HRET := Lib.hid hret
  have x0 : wr.cell? ⟨X, 0, none⟩ = some (.string s) := hw.cells.1
  have x1 : wr.cell? ⟨X, 1, none⟩ = some (.int .i64 (k : Nat)) := hw.cells.2.1
  have xf : wr.frozen? ⟨X, 1, none⟩ = false := hw.cells.2.2
  have t0 : wr.cell? ⟨w.heap.size, 0, none⟩ = some (.int .i64 kind) := hw.tok.1
  have t1 : wr.cell? ⟨w.heap.size, 1, none⟩ = some (.string ⟨#[]⟩) := hw.tok.2.1
  have t2 : wr.cell? ⟨w.heap.size, 2, none⟩ = some (.int .i64 at_) := hw.tok.2.2.1
  have tf0 : wr.frozen? ⟨w.heap.size, 0, none⟩ = false := hw.tok.2.2.2.1
  have tf1 : wr.frozen? ⟨w.heap.size, 1, none⟩ = false := hw.tok.2.2.2.2.1
  have tf2 : wr.frozen? ⟨w.heap.size, 2, none⟩ = false := hw.tok.2.2.2.2.2
  have hw1 := hw.setKind 3
  obtain ⟨w1, he1⟩ : ∃ w1, wr.setCell ⟨w.heap.size, 0, none⟩ (.int .i64 3) = w1 := ⟨_, rfl⟩
  rw [he1] at hw1
  have HW := Lib.hid hw1
  go_wp2_with fail
  clear he1 hl hone hret x0 x1 xf t0 t1 t2 tf0 tf1 tf2
  have x0 : w1.cell? ⟨X, 0, none⟩ = some (.string s) := hw1.cells.1
  have x1 : w1.cell? ⟨X, 1, none⟩ = some (.int .i64 (k : Nat)) := hw1.cells.2.1
  have xf : w1.frozen? ⟨X, 1, none⟩ = false := hw1.cells.2.2
  have t0 : w1.cell? ⟨w.heap.size, 0, none⟩ = some (.int .i64 3) := hw1.tok.1
  have t1 : w1.cell? ⟨w.heap.size, 1, none⟩ = some (.string ⟨#[]⟩) := hw1.tok.2.1
  have t2 : w1.cell? ⟨w.heap.size, 2, none⟩ = some (.int .i64 at_) := hw1.tok.2.2.1
  have tf0 : w1.frozen? ⟨w.heap.size, 0, none⟩ = false := hw1.tok.2.2.2.1
  have tf1 : w1.frozen? ⟨w.heap.size, 1, none⟩ = false := hw1.tok.2.2.2.2.1
  have tf2 : w1.frozen? ⟨w.heap.size, 2, none⟩ = false := hw1.tok.2.2.2.2.2
  clear hw hw1
  refine (peek0 s X k _ hs hk x0 x1).mono ?_
  rintro e w2 ⟨rfl, m1, rfl⟩
  have hat : (0 : Int) ≤ (at_ : Int) := by omega
  have hatk : (at_ : Int) ≤ (k : Int) := by omega
  have hks : (k : Int) ≤ (s.size : Int) := by omega
  cases hc : digitB (hd (s.data.toList.drop k)) with
  | true =>
    obtain ⟨hks2, hnr, h46⟩ := num_digit p hc
    have HNR := Lib.hid hnr
    have HC := Lib.hid hc
    have h46b : (((hd (s.data.toList.drop k)).toNat : Int) == 46) = false := by simp; omega
    clear hnr hc h46
    cases p with
    | true =>
      have HW3 := Lib.hid ((HW.out.drewN m1).setK (k + 1) (.int .i64 ((k : Int) + 1)) (by go_num))
      go_wp2_with fail
      refine (digit _ _).mono ?_
      rw [HC.out]
      rintro e w3 ⟨rfl, rfl⟩
      go_wp2_with fail
      go_step3
      refine ⟨⟨⟨rfl, rfl, rfl, rfl⟩, k + 1, _, at_, true, rfl, HW3.out, by omega, by omega, HL.out, ?_⟩, ?_⟩
      · rw [HONE.out, HNR.out]
      · simp [mu, HW3.out.kOfW, rank]; omega
    | false =>
      go_wp2_with fail
      refine (digit _ _).mono ?_
      rw [HC.out]
      rintro e w3 ⟨rfl, rfl⟩
      go_wp2_with fail
      refine (peek0 s X k _ hs hk (by exact x0) (by exact x1)).mono ?_
      rintro e w2 ⟨rfl, m2, rfl⟩
      have HW3 := Lib.hid ((HW.out.drewN (m1 + m2)).setK (k + 1) (.int .i64 ((k : Int) + 1)) (by go_num))
      go_wp2_with fail
      go_step3
      refine ⟨⟨⟨rfl, rfl, rfl, rfl⟩, k + 1, _, at_, false, rfl, HW3.out, by omega, by omega, HL.out, ?_⟩, ?_⟩
      · rw [HONE.out, HNR.out]
      · simp [mu, HW3.out.kOfW, rank]; omega
  | false =>
    have HC := Lib.hid hc
    cases p with
    | true =>
      have HNR := Lib.hid (num_stop true hc (.inl rfl))
      clear hc
      go_wp2_with fail
      refine (digit _ _).mono ?_
      rw [HC.out]
      rintro e w3 ⟨rfl, rfl⟩
      go_wp2_with fail
      have HW5 := Lib.hid (HW.out.drewN (m1))
      by_cases h40 : k - at_ ≤ 40
      · have h40' : ¬ (40 : Int) < (k : Int) - (at_ : Int) := by omega
        have HN : Hid (one l = some (3, pre l (s.data.toList.drop k), s.data.toList.drop k)) := Lib.hid (by
          rw [HONE.out, HNR.out, numOne, if_pos (by rw [HL.out]; simp; omega)])
        go_quiet (fail)
        have HW6 := Lib.hid (HW.out.drewN (m1 + nq))
        go_wp2_with fail
        go_step3
        rename_i hK
        refine hK _ _ ?_
        exact endR s l X w _ Q HRET.out _ rfl _ _ ⟨⟨rfl, rfl, rfl, rfl⟩, k, 3, at_, HW6.out, hlt, hk, HL.out, HN.out⟩
      · have h40' : (40 : Int) < (k : Int) - (at_ : Int) := by omega
        have HN : Hid (one l = none) := Lib.hid (by
          rw [HONE.out, HNR.out, numOne, if_neg (by rw [HL.out]; simp; omega)])
        go_quiet (fail)
        have HW6 := Lib.hid (HW.out.drewN (m1 + nq))
        go_wp2_with fail
        refine HRET.out _ _ ?_
        exact ⟨⟨rfl, rfl, rfl, rfl⟩, _, _, _, _, _, rfl, HW6.out.selfStore, hk, nextV_none HL.out (by omega) HN.out _ _ _⟩
    | false =>
      by_cases h46 : (hd (s.data.toList.drop k)).toNat = 46
      · have h46b : (((hd (s.data.toList.drop k)).toNat : Int) == 46) = true := by simp; omega
        cases hcd : digitB (hd (s.data.toList.drop (k + 1))) with
        | true =>
          obtain ⟨hks2, hnr⟩ := num_point hc h46 hcd
          have HNR := Lib.hid hnr
          have HCD := Lib.hid hcd
          clear hc h46 hcd hnr
          go_wp2_with fail
          refine (digit _ _).mono ?_
          rw [HC.out]
          rintro e w3 ⟨rfl, rfl⟩
          go_wp2_with fail
          refine (peek0 s X k _ hs hk (by exact x0) (by exact x1)).mono ?_
          rintro e w2 ⟨rfl, m2, rfl⟩
          go_wp2_with fail
          refine (peek1 s X k _ hs hk (by exact x0) (by exact x1)).mono ?_
          rintro e w2 ⟨rfl, m3, rfl⟩
          go_wp2_with fail
          refine (digit _ _).mono ?_
          rw [HCD.out]
          rintro e w3 ⟨rfl, rfl⟩
          go_wp2_with fail
          refine (peek0 s X k _ hs hk (by exact x0) (by exact x1)).mono ?_
          rintro e w2 ⟨rfl, m4, rfl⟩
          have HW3 := Lib.hid ((HW.out.drewN (m1 + m2 + m3 + m4)).setK (k + 1) (.int .i64 ((k : Int) + 1)) (by go_num))
          go_wp2_with fail
          go_step3
          refine ⟨⟨⟨rfl, rfl, rfl, rfl⟩, k + 1, _, at_, true, rfl, HW3.out, by omega, by omega, HL.out, ?_⟩, ?_⟩
          · rw [HONE.out, HNR.out]
          · simp [mu, HW3.out.kOfW, rank]; omega
        | false =>
          have HNR := Lib.hid (num_stop false hc (.inr (.inr hcd)))
          have HCD := Lib.hid hcd
          clear hc h46 hcd
          go_wp2_with fail
          refine (digit _ _).mono ?_
          rw [HC.out]
          rintro e w3 ⟨rfl, rfl⟩
          go_wp2_with fail
          refine (peek0 s X k _ hs hk (by exact x0) (by exact x1)).mono ?_
          rintro e w2 ⟨rfl, m2, rfl⟩
          go_wp2_with fail
          refine (peek1 s X k _ hs hk (by exact x0) (by exact x1)).mono ?_
          rintro e w2 ⟨rfl, m3, rfl⟩
          go_wp2_with fail
          refine (digit _ _).mono ?_
          rw [HCD.out]
          rintro e w3 ⟨rfl, rfl⟩
          go_wp2_with fail
          have HW5 := Lib.hid (HW.out.drewN (m1 + m2 + m3))
          by_cases h40 : k - at_ ≤ 40
          · have h40' : ¬ (40 : Int) < (k : Int) - (at_ : Int) := by omega
            have HN : Hid (one l = some (3, pre l (s.data.toList.drop k), s.data.toList.drop k)) := Lib.hid (by
              rw [HONE.out, HNR.out, numOne, if_pos (by rw [HL.out]; simp; omega)])
            go_quiet (fail)
            have HW6 := Lib.hid (HW.out.drewN (m1 + m2 + m3 + nq))
            go_wp2_with fail
            go_step3
            rename_i hK
            refine hK _ _ ?_
            exact endR s l X w _ Q HRET.out _ rfl _ _ ⟨⟨rfl, rfl, rfl, rfl⟩, k, 3, at_, HW6.out, hlt, hk, HL.out, HN.out⟩
          · have h40' : (40 : Int) < (k : Int) - (at_ : Int) := by omega
            have HN : Hid (one l = none) := Lib.hid (by
              rw [HONE.out, HNR.out, numOne, if_neg (by rw [HL.out]; simp; omega)])
            go_quiet (fail)
            have HW6 := Lib.hid (HW.out.drewN (m1 + m2 + m3 + nq))
            go_wp2_with fail
            refine HRET.out _ _ ?_
            exact ⟨⟨rfl, rfl, rfl, rfl⟩, _, _, _, _, _, rfl, HW6.out.selfStore, hk, nextV_none HL.out (by omega) HN.out _ _ _⟩
      · have h46b : (((hd (s.data.toList.drop k)).toNat : Int) == 46) = false := by simp; omega
        have HNR := Lib.hid (num_stop false hc (.inr (.inl h46)))
        clear hc h46
        go_wp2_with fail
        refine (digit _ _).mono ?_
        rw [HC.out]
        rintro e w3 ⟨rfl, rfl⟩
        go_wp2_with fail
        refine (peek0 s X k _ hs hk (by exact x0) (by exact x1)).mono ?_
        rintro e w2 ⟨rfl, m2, rfl⟩
        go_wp2_with fail
        have HW5 := Lib.hid (HW.out.drewN (m1 + m2))
        by_cases h40 : k - at_ ≤ 40
        · have h40' : ¬ (40 : Int) < (k : Int) - (at_ : Int) := by omega
          have HN : Hid (one l = some (3, pre l (s.data.toList.drop k), s.data.toList.drop k)) := Lib.hid (by
            rw [HONE.out, HNR.out, numOne, if_pos (by rw [HL.out]; simp; omega)])
          go_quiet (fail)
          have HW6 := Lib.hid (HW.out.drewN (m1 + m2 + nq))
          go_wp2_with fail
          go_step3
          rename_i hK
          refine hK _ _ ?_
          exact endR s l X w _ Q HRET.out _ rfl _ _ ⟨⟨rfl, rfl, rfl, rfl⟩, k, 3, at_, HW6.out, hlt, hk, HL.out, HN.out⟩
        · have h40' : (40 : Int) < (k : Int) - (at_ : Int) := by omega
          have HN : Hid (one l = none) := Lib.hid (by
            rw [HONE.out, HNR.out, numOne, if_neg (by rw [HL.out]; simp; omega)])
          go_quiet (fail)
          have HW6 := Lib.hid (HW.out.drewN (m1 + m2 + nq))
          go_wp2_with fail
          refine HRET.out _ _ ?_
          exact ⟨⟨rfl, rfl, rfl, rfl⟩, _, _, _, _, _, rfl, HW6.out.selfStore, hk, nextV_none HL.out (by omega) HN.out _ _ _⟩
end Go.Proofs.Ytcmdcdjclmpncaa
