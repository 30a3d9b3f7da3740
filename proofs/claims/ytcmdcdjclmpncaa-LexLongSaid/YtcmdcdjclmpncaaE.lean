/- The walk from a word's label on. Condition: the text's length. -/
import Derived.Test.YtcmdcdjclmpncaaD
namespace Go.Proofs.Ytcmdcdjclmpncaa
open Go.RowKit
theorem word0 : wordB 0 = false := by decide
set_option maxRecDepth 100000 in
set_option maxHeartbeats 1000000 in
theorem pass1 (s : ByteArray) (l : List UInt8) (X : Nat) (w : World) (hs : s.size ≤ 1048576) (Q : Exit → Act → World → Prop) (hret : ∀ a' w', Ret s l X w a' w' → Q .ret a' w') (rest : Code) (hr : (Try.f15.body.bind firstScope).bind (findLabel · 1) = some rest)
    (a : Act) (wr : World) (hJ : J1 s l X w a wr) : rest.wp Try.prog (Jumps (fun l' a' w' => JL s l X w l' a' w' ∧ mu s X l' a' w' < mu s X 1 a wr) Q) a wr := by
  change some _ = some rest at hr
  cases hr
  obtain ⟨⟨hd0, hsz, g0, g2⟩, k, kind, at_, hw, hlt, hk, hl, hone⟩ := hJ
  have hmu : mu s X 1 a wr = 3 * (s.size - k) + 1 := by simp [mu, hw.kOfW, rank]
  rw [hmu]
  obtain ⟨f, rfl, hf⟩ := frame_of a hsz hd0
  rw [hf] at g0 g2
  rw [g0, g2]
  clear hf hsz hd0 g0 g2 hmu
  have HL := Lib.hid hl
  have HONE := Lib.hid hone
  have HRET := Lib.hid hret
  have x0 : wr.cell? ⟨X, 0, none⟩ = some (.string s) := hw.cells.1
  have x1 : wr.cell? ⟨X, 1, none⟩ = some (.int .i64 (k : Nat)) := hw.cells.2.1
  have xf : wr.frozen? ⟨X, 1, none⟩ = false := hw.cells.2.2
  have t0 : wr.cell? ⟨w.heap.size, 0, none⟩ = some (.int .i64 kind) := hw.tok.1
  have t1 : wr.cell? ⟨w.heap.size, 1, none⟩ = some (.string ⟨#[]⟩) := hw.tok.2.1
  have t2 : wr.cell? ⟨w.heap.size, 2, none⟩ = some (.int .i64 at_) := hw.tok.2.2.1
  have tf0 : wr.frozen? ⟨w.heap.size, 0, none⟩ = false := hw.tok.2.2.2.1
  have tf1 : wr.frozen? ⟨w.heap.size, 1, none⟩ = false := hw.tok.2.2.2.2.1
  have tf2 : wr.frozen? ⟨w.heap.size, 2, none⟩ = false := hw.tok.2.2.2.2.2
  have hw1 := hw.setKind 1
  obtain ⟨w1, he1⟩ : ∃ w1, wr.setCell ⟨w.heap.size, 0, none⟩ (.int .i64 1) = w1 := ⟨_, rfl⟩
  rw [he1] at hw1
  have HW := Lib.hid hw1
  go_wp2_with fail
  clear he1 hl hone hret x0 x1 xf t0 t1 t2 tf0 tf1 tf2
  have x0 : w1.cell? ⟨X, 0, none⟩ = some (.string s) := hw1.cells.1
  have x1 : w1.cell? ⟨X, 1, none⟩ = some (.int .i64 (k : Nat)) := hw1.cells.2.1
  have xf : w1.frozen? ⟨X, 1, none⟩ = false := hw1.cells.2.2
  have t0 : w1.cell? ⟨w.heap.size, 0, none⟩ = some (.int .i64 1) := hw1.tok.1
  have t1 : w1.cell? ⟨w.heap.size, 1, none⟩ = some (.string ⟨#[]⟩) := hw1.tok.2.1
  have t2 : w1.cell? ⟨w.heap.size, 2, none⟩ = some (.int .i64 at_) := hw1.tok.2.2.1
  have tf0 : w1.frozen? ⟨w.heap.size, 0, none⟩ = false := hw1.tok.2.2.2.1
  have tf1 : w1.frozen? ⟨w.heap.size, 1, none⟩ = false := hw1.tok.2.2.2.2.1
  have tf2 : w1.frozen? ⟨w.heap.size, 2, none⟩ = false := hw1.tok.2.2.2.2.2
  clear hw hw1
  refine (peek0 s X k _ hs hk x0 x1).mono ?_
  rintro e w2 ⟨rfl, m1, rfl⟩
  cases hc : letterB (hd (s.data.toList.drop k)) with
  | true =>
    have hwd : wordB (hd (s.data.toList.drop k)) = true := by simp [wordB, hc]
    obtain ⟨hks, hdw⟩ := dw_step word0 hwd
    have HDW := Lib.hid hdw
    have HC := Lib.hid hc
    clear hwd hdw hc
    have hw3 := (HW.out.drewN m1).setK (k + 1) (.int .i64 ((k : Int) + 1)) (by go_num)
    have HW3 := Lib.hid hw3
    clear hw3
    go_wp2_with fail
    refine (letter _ _).mono ?_
    rw [HC.out]
    rintro e w3 ⟨rfl, rfl⟩
    go_wp2_with fail
    go_step3
    refine ⟨⟨⟨rfl, rfl, rfl, rfl⟩, k + 1, _, at_, HW3.out, by omega, by omega, HL.out, ?_⟩, ?_⟩
    · rw [HONE.out, HDW.out]
    · simp [mu, HW3.out.kOfW, rank]; omega
  | false =>
    cases hcd : digitB (hd (s.data.toList.drop k)) with
    | true =>
      have hwd : wordB (hd (s.data.toList.drop k)) = true := by simp [wordB, hc, hcd]
      obtain ⟨hks, hdw⟩ := dw_step word0 hwd
      have HDW := Lib.hid hdw
      have HC := Lib.hid hc
      have HCD := Lib.hid hcd
      clear hwd hdw hc hcd
      go_wp2_with fail
      refine (letter _ _).mono ?_
      rw [HC.out]
      rintro e w3 ⟨rfl, rfl⟩
      go_wp2_with fail
      refine (peek0 s X k _ hs hk (by exact x0) (by exact x1)).mono ?_
      rintro e w2 ⟨rfl, m2, rfl⟩
      have hw3 := (HW.out.drewN (m1 + m2)).setK (k + 1) (.int .i64 ((k : Int) + 1)) (by go_num)
      have HW3 := Lib.hid hw3
      clear hw3
      go_wp2_with fail
      refine (digit _ _).mono ?_
      rw [HCD.out]
      rintro e w3 ⟨rfl, rfl⟩
      go_wp2_with fail
      go_step3
      refine ⟨⟨⟨rfl, rfl, rfl, rfl⟩, k + 1, _, at_, HW3.out, by omega, by omega, HL.out, ?_⟩, ?_⟩
      · rw [HONE.out, HDW.out]
      · simp [mu, HW3.out.kOfW, rank]; omega
    | false =>
      have hwd : wordB (hd (s.data.toList.drop k)) = false := by simp [wordB, hc, hcd]
      have HDW := Lib.hid (dw_stop hwd)
      have HC := Lib.hid hc
      have HCD := Lib.hid hcd
      clear hwd hc hcd
      go_wp2_with fail
      refine (letter _ _).mono ?_
      rw [HC.out]
      rintro e w3 ⟨rfl, rfl⟩
      go_wp2_with fail
      refine (peek0 s X k _ hs hk (by exact x0) (by exact x1)).mono ?_
      rintro e w2 ⟨rfl, m2, rfl⟩
      have HW3 := Lib.hid (HW.out.drewN (m1 + m2))
      go_wp2_with fail
      refine (digit _ _).mono ?_
      rw [HCD.out]
      rintro e w3 ⟨rfl, rfl⟩
      go_wp2_with fail
      go_step3
      refine ⟨⟨⟨rfl, rfl, rfl, rfl⟩, k, _, at_, HW3.out, by omega, by omega, HL.out, ?_⟩, ?_⟩
      · rw [HONE.out, HDW.out]
      · simp [mu, HW3.out.kOfW, rank]
end Go.Proofs.Ytcmdcdjclmpncaa
