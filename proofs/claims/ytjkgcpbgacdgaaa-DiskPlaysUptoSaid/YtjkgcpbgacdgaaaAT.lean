/- One call on both disks: room, fuse, restart, and none. Conditions: what both hold, and what comes, is in its bounds. -/
import Derived.Test.YtjkgcpbgacdgaaaAS
namespace Go.Proofs.Ytjkgcpbgacdgaaa
open Go.RowKit Go.Sort
section
variable {W w : World} {b : Nat} {O : Option Obj} {d m r : Nat} {L : List Ent} {room fuse : Int} {down : Bool} {R : List RFile} {p q : Nat}
set_option maxRecDepth 100000 in
theorem play6 (h : PlaySt W w b O d m r L room fuse down R p q) (n : Int) (nm to : ByteArray) (a : Option Addr) (ln cap : Nat) (hn : n < 2 ^ 63) (hq : q ≤ 1000000000) :
    Calls Try.prog 30 #[.pointer (some ⟨d, 0, none⟩), .pointer (some ⟨r, 0, none⟩), .agg #[.int .i64 6, .int .i64 n, .string nm, .string to, .slice a ln cap]] w (PlayPost W d m r (p + ln) (q + 1)) := by
  have h1 := h.box (opB 6 n nm to a ln cap)
  obtain ⟨w1, hw1⟩ : ∃ w1, w.alloc (opB 6 n nm to a ln cap) = w1 := ⟨_, rfl⟩
  obtain ⟨B, hB⟩ : ∃ B, w.heap.size = B := ⟨_, rfl⟩
  rw [hw1, hB] at h1
  have HL := Lib.hid h1.like
  have HC := Lib.hid h1.caps
  have HF := Lib.hid h1.fits
  have HLN := Lib.hid (show R.length ≤ 1000000000000 by have := h1.lenR; omega)
  have HT := Lib.hid h1.two
  have F0 := Lib.hid h1.f0
  have F1 := Lib.hid h1.f1
  have R0 := Lib.hid h1.r0
  have R1 := Lib.hid h1.r1
  have hO := h1.two.stays
  have b0 : w1.cell? ⟨B, 0, none⟩ = some (.int .i64 6) := by simp [World.cell?, hO, opB]
  have b1 : w1.cell? ⟨B, 1, none⟩ = some (.int .i64 n) := by simp [World.cell?, hO, opB]
  have HO := Lib.hid (fun (w' : World) (hs : w'.heap[B]? = some (opB 6 n nm to a ln cap)) => (show w'.cell? ⟨B, 1, none⟩ = some (.int .i64 n) by simp [World.cell?, hs, opB]))
  unfold opB at hw1
  clear h h1 hO
  go_enter Try.func30, Try.ntmps30
  go_wp2_with fail
  clear b0 hw1 hB
  refine (twoD_room HT.out n).mono ?_
  rintro e w2 ⟨rfl, ht2⟩
  have HT2 := Lib.hid ht2
  have b9 := HO.out _ ht2.stays
  clear ht2 b1
  go_wp2_with fail
  refine (twoR_room HT2.out n).mono ?_
  rintro e w3 ⟨rfl, ht3⟩
  have HT3 := Lib.hid ht3
  clear ht3 b9
  go_wp2_with fail
  go_ret
  exact ⟨rfl, _, _, _, _, _, _, _, HT3.out, HL.out, HC.out, HF.out.mono (by omega) (by omega), F0.out, F1.out, by omega, by omega⟩
set_option maxRecDepth 100000 in
theorem play7 (h : PlaySt W w b O d m r L room fuse down R p q) (n : Int) (nm to : ByteArray) (a : Option Addr) (ln cap : Nat) (hn : n < 2 ^ 63) (hq : q ≤ 1000000000) :
    Calls Try.prog 30 #[.pointer (some ⟨d, 0, none⟩), .pointer (some ⟨r, 0, none⟩), .agg #[.int .i64 7, .int .i64 n, .string nm, .string to, .slice a ln cap]] w (PlayPost W d m r (p + ln) (q + 1)) := by
  have h1 := h.box (opB 7 n nm to a ln cap)
  obtain ⟨w1, hw1⟩ : ∃ w1, w.alloc (opB 7 n nm to a ln cap) = w1 := ⟨_, rfl⟩
  obtain ⟨B, hB⟩ : ∃ B, w.heap.size = B := ⟨_, rfl⟩
  rw [hw1, hB] at h1
  have HL := Lib.hid h1.like
  have HC := Lib.hid h1.caps
  have HF := Lib.hid h1.fits
  have HLN := Lib.hid (show R.length ≤ 1000000000000 by have := h1.lenR; omega)
  have HT := Lib.hid h1.two
  have F0 := Lib.hid h1.f0
  have F1 := Lib.hid h1.f1
  have R0 := Lib.hid h1.r0
  have R1 := Lib.hid h1.r1
  have hO := h1.two.stays
  have b0 : w1.cell? ⟨B, 0, none⟩ = some (.int .i64 7) := by simp [World.cell?, hO, opB]
  have b1 : w1.cell? ⟨B, 1, none⟩ = some (.int .i64 n) := by simp [World.cell?, hO, opB]
  have HO := Lib.hid (fun (w' : World) (hs : w'.heap[B]? = some (opB 7 n nm to a ln cap)) => (show w'.cell? ⟨B, 1, none⟩ = some (.int .i64 n) by simp [World.cell?, hs, opB]))
  unfold opB at hw1
  clear h h1 hO
  go_enter Try.func30, Try.ntmps30
  go_wp2_with fail
  clear b0 hw1 hB
  refine (twoD_fuse HT.out n).mono ?_
  rintro e w2 ⟨rfl, ht2⟩
  have HT2 := Lib.hid ht2
  have b9 := HO.out _ ht2.stays
  clear ht2 b1
  go_wp2_with fail
  refine (twoR_fuse HT2.out n).mono ?_
  rintro e w3 ⟨rfl, ht3⟩
  have HT3 := Lib.hid ht3
  clear ht3 b9
  go_wp2_with fail
  go_ret
  exact ⟨rfl, _, _, _, _, _, _, _, HT3.out, HL.out, HC.out, HF.out.mono (by omega) (by omega), by omega, by omega, R0.out, R1.out⟩
set_option maxRecDepth 100000 in
theorem play8 (h : PlaySt W w b O d m r L room fuse down R p q) (n : Int) (nm to : ByteArray) (a : Option Addr) (ln cap : Nat) (l : List UInt8) (hsrc : ∀ S, (∀ x, S x → W.heap.size ≤ x) → SrcAt W S (.slice a ln cap) (Lib.byteCells l)) (hq : q ≤ 1000000000) :
    Calls Try.prog 30 #[.pointer (some ⟨d, 0, none⟩), .pointer (some ⟨r, 0, none⟩), .agg #[.int .i64 8, .int .i64 n, .string nm, .string to, .slice a ln cap]] w (PlayPost W d m r (p + ln) (q + 1)) := by
  have h1 := h.box (opB 8 n nm to a ln cap)
  obtain ⟨w1, hw1⟩ : ∃ w1, w.alloc (opB 8 n nm to a ln cap) = w1 := ⟨_, rfl⟩
  obtain ⟨B, hB⟩ : ∃ B, w.heap.size = B := ⟨_, rfl⟩
  rw [hw1, hB] at h1
  have HL := Lib.hid h1.like
  have HC := Lib.hid h1.caps
  have HF := Lib.hid h1.fits
  have HLN := Lib.hid (show R.length ≤ 1000000000000 by have := h1.lenR; omega)
  have HT := Lib.hid h1.two
  have F0 := Lib.hid h1.f0
  have F1 := Lib.hid h1.f1
  have R0 := Lib.hid h1.r0
  have R1 := Lib.hid h1.r1
  have hO := h1.two.stays
  have b0 : w1.cell? ⟨B, 0, none⟩ = some (.int .i64 8) := by simp [World.cell?, hO, opB]
  have b4 : w1.cell? ⟨B, 4, none⟩ = some (.slice a ln cap) := by simp [World.cell?, hO, opB]
  have HO := Lib.hid (fun (w' : World) (hs : w'.heap[B]? = some (opB 8 n nm to a ln cap)) => (show w'.cell? ⟨B, 4, none⟩ = some (.slice a ln cap) by simp [World.cell?, hs, opB]))
  have HSRC := Lib.hid hsrc
  have HLL := Lib.hid (show L.length ≤ 8000000000000 by have := HF.out.2.2; omega)
  clear hsrc
  unfold opB at hw1
  clear h h1 hO
  go_enter Try.func30, Try.ntmps30
  go_wp2_with fail
  clear b0 hw1 hB
  refine (twoD_restart HT.out HF.out.1 HLL.out (.slice a ln cap) l HSRC.out).mono ?_
  rintro e w2 ⟨rfl, ht2⟩
  have HT2 := Lib.hid ht2
  have b9 := HO.out _ ht2.stays
  clear ht2 b4
  go_wp2_with fail
  refine (twoR_restart HT2.out (goodR_of HL.out HF.out.1) HC.out HLN.out (.slice a ln cap) l HSRC.out).mono ?_
  rintro e w3 ⟨rfl, hc', ht3⟩
  have HT3 := Lib.hid ht3
  clear ht3 b9
  go_wp2_with fail
  go_ret
  exact ⟨rfl, _, _, _, _, _, _, _, HT3.out, like_rst l HL.out, hc', (HF.out.rst l).mono (by omega) (by omega), by omega, by omega, R0.out, R1.out⟩
set_option maxRecDepth 100000 in
theorem play0 (h : PlaySt W w b O d m r L room fuse down R p q) (kind n : Int) (nm to : ByteArray) (a : Option Addr) (ln cap : Nat) (h1 : (kind == 1) = false) (h2 : (kind == 2) = false) (h3 : (kind == 3) = false) (h4 : (kind == 4) = false) (h5 : (kind == 5) = false) (h6 : (kind == 6) = false) (h7 : (kind == 7) = false) (h8 : (kind == 8) = false) (h9 : (kind == 9) = false) (hq : q ≤ 1000000000) :
    Calls Try.prog 30 #[.pointer (some ⟨d, 0, none⟩), .pointer (some ⟨r, 0, none⟩), .agg #[.int .i64 kind, .int .i64 n, .string nm, .string to, .slice a ln cap]] w (PlayPost W d m r (p + ln) (q + 1)) := by
  have h1 := h.box (opB kind n nm to a ln cap)
  obtain ⟨w1, hw1⟩ : ∃ w1, w.alloc (opB kind n nm to a ln cap) = w1 := ⟨_, rfl⟩
  obtain ⟨B, hB⟩ : ∃ B, w.heap.size = B := ⟨_, rfl⟩
  rw [hw1, hB] at h1
  have HL := Lib.hid h1.like
  have HC := Lib.hid h1.caps
  have HF := Lib.hid h1.fits
  have HLN := Lib.hid (show R.length ≤ 1000000000000 by have := h1.lenR; omega)
  have HT := Lib.hid h1.two
  have F0 := Lib.hid h1.f0
  have F1 := Lib.hid h1.f1
  have R0 := Lib.hid h1.r0
  have R1 := Lib.hid h1.r1
  have hO := h1.two.stays
  have b0 : w1.cell? ⟨B, 0, none⟩ = some (.int .i64 kind) := by simp [World.cell?, hO, opB]
  unfold opB at hw1
  clear h h1 hO
  go_enter Try.func30, Try.ntmps30
  go_wp2_with fail
  clear b0 hw1 hB
  go_ret
  exact ⟨rfl, _, _, _, _, _, _, _, HT.out, HL.out, HC.out, HF.out.mono (by omega) (by omega), F0.out, F1.out, R0.out, R1.out⟩
end
end Go.Proofs.Ytjkgcpbgacdgaaa
