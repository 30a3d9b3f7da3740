/- The walk from the end's label on, and from a number's. Condition: the text's length. -/
import Derived.Test.YtcmdcdjclmpncaaE
namespace Go.Proofs.Ytcmdcdjclmpncaa
open Go.RowKit
theorem nextV_none {s : ByteArray} {l : List UInt8} {at_ : Nat} (hl : l = s.data.toList.drop at_) (hlt : at_ < s.size) (h : one l = none) (kind : Int) (text : ByteArray) (k : Nat) : NextV l s.size kind text (at_ : Int) false k := by
  rw [drop_cons s at_ hlt] at hl
  subst hl
  refine ⟨?_, ?_⟩
  · simp; omega
  · rw [h]
theorem nextV_some {s : ByteArray} {l : List UInt8} {at_ : Nat} {kind : Int} {tx q : List UInt8} (hl : l = s.data.toList.drop at_) (hlt : at_ < s.size) (h : one l = some (kind, tx, q)) (text : ByteArray) (ht : text = ofL tx) (k : Nat) (hk : k = s.size - q.length) : NextV l s.size kind text (at_ : Int) true k := by
  rw [drop_cons s at_ hlt] at hl
  subst hl
  refine ⟨?_, ?_⟩
  · simp; omega
  · rw [h]
    exact ⟨rfl, ht, rfl, hk⟩
theorem pre_text {s : ByteArray} {l : List UInt8} {at_ k : Nat} (hl : l = s.data.toList.drop at_) (h1 : at_ ≤ k) (h2 : k ≤ s.size) : s.extract at_ k = ofL (pre l (s.data.toList.drop k)) := by
  subst hl
  have h3 : (s.data.toList.drop at_).length - (s.data.toList.drop k).length = k - at_ := by simp; omega
  unfold pre ofL
  rw [h3]
  apply ByteArray.ext
  apply Array.ext'
  simp [ByteArray.data_extract]
set_option maxRecDepth 100000 in
set_option maxHeartbeats 1000000 in
theorem endR (s : ByteArray) (l : List UInt8) (X : Nat) (w : World) (G : Nat → Act → World → Prop) (Q : Exit → Act → World → Prop) (hret : ∀ a' w', Ret s l X w a' w' → Q .ret a' w') (R : Code) (hr : (Try.f15.body.bind firstScope).bind (findLabel · 4) = some (.seq .skip R))
    (a : Act) (wr : World) (hJ : J4 s l X w a wr) : R.wp Try.prog (Jumps G Q) a wr := by
  change some (Code.seq Code.skip _) = some (.seq .skip R) at hr
  cases hr
  obtain ⟨⟨hd0, hsz, g0, g2⟩, k, kind, at_, hw, hlt, hk, hl, hone⟩ := hJ
  obtain ⟨f, rfl, hf⟩ := frame_of a hsz hd0
  rw [hf] at g0 g2
  rw [g0, g2]
  clear hf hsz hd0 g0 g2
  have HL := Lib.hid hl
  have HONE := Lib.hid hone
  have HRET := Lib.hid hret
  have x0 : wr.cell? ⟨X, 0, none⟩ = some (.string s) := hw.cells.1
  have x1 : wr.cell? ⟨X, 1, none⟩ = some (.int .i64 (k : Nat)) := hw.cells.2.1
  have xf : wr.frozen? ⟨X, 1, none⟩ = false := hw.cells.2.2
  have t0 : wr.cell? ⟨w.heap.size, 0, none⟩ = some (.int .i64 kind) := hw.tok.1
  have t1 : wr.cell? ⟨w.heap.size, 1, none⟩ = some (.string ⟨#[]⟩) := hw.tok.2.1
  have t2 : wr.cell? ⟨w.heap.size, 2, none⟩ = some (.int .i64 at_) := hw.tok.2.2.1
  have tf0 : wr.frozen? ⟨w.heap.size, 0, none⟩ = false := hw.tok.2.2.2.1
  have tf1 : wr.frozen? ⟨w.heap.size, 1, none⟩ = false := hw.tok.2.2.2.2.1
  have tf2 : wr.frozen? ⟨w.heap.size, 2, none⟩ = false := hw.tok.2.2.2.2.2
  have hat : (0 : Int) ≤ (at_ : Int) := by omega
  have hatk : (at_ : Int) ≤ (k : Int) := by omega
  have hks : (k : Int) ≤ (s.size : Int) := by omega
  have HW := Lib.hid hw
  clear hw hl hone hret
  go_wp2_with fail
  go_region
  have hw5 := (HW.out.setText (s.extract at_ k)).drew
  obtain ⟨w5, he5⟩ : ∃ w5, (wr.setCell ⟨w.heap.size, 1, none⟩ (.string (s.extract at_ k))).drew = w5 := ⟨_, rfl⟩
  rw [he5] at hw5 ⊢
  have HW5 := Lib.hid hw5.selfStore
  clear he5 x0 x1 xf t0 t1 t2 tf0 tf1 tf2
  have x0 : w5.cell? ⟨X, 0, none⟩ = some (.string s) := hw5.cells.1
  have x1 : w5.cell? ⟨X, 1, none⟩ = some (.int .i64 (k : Nat)) := hw5.cells.2.1
  have xf : w5.frozen? ⟨X, 1, none⟩ = false := hw5.cells.2.2
  have t0 : w5.cell? ⟨w.heap.size, 0, none⟩ = some (.int .i64 kind) := hw5.tok.1
  have t1 : w5.cell? ⟨w.heap.size, 1, none⟩ = some (.string (s.extract at_ k)) := hw5.tok.2.1
  have t2 : w5.cell? ⟨w.heap.size, 2, none⟩ = some (.int .i64 at_) := hw5.tok.2.2.1
  have tf0 : w5.frozen? ⟨w.heap.size, 0, none⟩ = false := hw5.tok.2.2.2.1
  have tf1 : w5.frozen? ⟨w.heap.size, 1, none⟩ = false := hw5.tok.2.2.2.2.1
  have tf2 : w5.frozen? ⟨w.heap.size, 2, none⟩ = false := hw5.tok.2.2.2.2.2
  clear hw5
  go_wp2_with fail
  refine HRET.out _ _ ?_
  exact ⟨⟨rfl, rfl, rfl, rfl⟩, _, _, _, _, _, rfl, HW5.out, hk, nextV_some HL.out (by omega) HONE.out _ (pre_text HL.out (by omega) hk) _ (by simp; omega)⟩
set_option maxRecDepth 100000 in
set_option maxHeartbeats 1000000 in
theorem pass4 (s : ByteArray) (l : List UInt8) (X : Nat) (w : World) (_hs : s.size ≤ 1048576) (Q : Exit → Act → World → Prop) (hret : ∀ a' w', Ret s l X w a' w' → Q .ret a' w') (rest : Code) (hr : (Try.f15.body.bind firstScope).bind (findLabel · 4) = some rest)
    (a : Act) (wr : World) (hJ : J4 s l X w a wr) : rest.wp Try.prog (Jumps (fun l' a' w' => JL s l X w l' a' w' ∧ mu s X l' a' w' < mu s X 4 a wr) Q) a wr := by
  change some _ = some rest at hr
  cases hr
  exact wp_seq (wp_skip (endR s l X w _ Q hret _ rfl a wr hJ))
end Go.Proofs.Ytcmdcdjclmpncaa
