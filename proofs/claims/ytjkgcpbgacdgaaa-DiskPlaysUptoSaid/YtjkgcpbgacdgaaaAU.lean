/- One call on both disks: a file is read. Conditions: what both hold, and what comes, is in its bounds. -/
import Derived.Test.YtjkgcpbgacdgaaaAT
namespace Go.Proofs.Ytjkgcpbgacdgaaa
open Go.RowKit Go.Sort
theorem read_like {L : List Ent} {R : List RFile} (hl : Like L R) (ha : Apart (L.map pE)) (hG : Good L) (down : Bool) (s : ByteArray) :
    ∃ l : List UInt8, bytesOf (getE L down s).1 = Lib.byteCells l ∧ readR R down s = Lib.byteCells l ∧ (thereI R down s).2 = (getE L down s).2 := by
  obtain ⟨h1, h2⟩ := there_like hl ha down s
  by_cases hz : (thereI R down s).2 = 0
  · obtain ⟨rfl, k, x, e, hk, hx, hn, hlk, hpe, hge⟩ := h2 hz
    obtain ⟨_, ⟨l, hlb⟩, _⟩ := hG e (look_mem hlk)
    have hb : e.bs = x.bs := congrArg (fun p : PF => p.bs) hpe
    have hfi : findI R s = k := by
      rcases find_like hl ha s with ⟨k', x', e', f1, f2, _⟩ | ⟨f1, _⟩
      · have h9 : thereI R false s = (findI R s, 0) := by
          have : ¬ findI R s < 0 := by omega
          simp [thereI, this]
        rw [h9] at hk
        exact hk
      · have : findI R s < 0 := by omega
        simp [thereI, this] at hz
    refine ⟨l, by rw [hge]; exact hlb, ?_, h1⟩
    simp only [readR, hz, if_true, hfi, Int.toNat_natCast, hx, Option.map_some, Option.getD_some]
    rw [← hb, hlb]
  · have hn1 : (getE L down s).1 = none := by
      rw [h1] at hz
      unfold getE at hz ⊢
      cases down with
      | true => rfl
      | false => cases hk : look L s with
        | none => rfl
        | some e => rw [hk] at hz; simp at hz
    exact ⟨[], by rw [hn1]; rfl, by simp [readR, hz, Lib.byteCells], h1⟩
theorem str_of_srcS {w : World} {v : Value} {l : List UInt8} (h : Src w v (Lib.byteCells l)) : (convert 23 9 v).run Try.prog w = .ok (.string ⟨l.toArray⟩) w := by
  rcases h with ⟨rfl, h0⟩ | ⟨ad, c, rfl, h5, h6⟩
  · have : l = [] := by simpa [Lib.byteCells] using h0
    subst this
    rw [run_convert_bytes_string w 23 9 5 none 0 0 Try.underlying23 Try.underlying5 Try.underlying9]
    rfl
  · rw [Lib.byteCells_length]
    refine run_convert_bytes_back w 23 9 5 ad c l Try.underlying23 Try.underlying5 Try.underlying9 fun j hj => ?_
    rw [h5 j (.int .u8 (l[j]).toNat) (by simp [Lib.byteCells, hj])]
theorem twoD_read {W w : World} {b : Nat} {O : Option Obj} {d m r : Nat} {L : List Ent} {room fuse room' fuse' : Int} {down down' : Bool} {R : List RFile} (h : Two W w b O d m r L room fuse down R room' fuse' down') (s : ByteArray) (hs : s.size ≤ maxLen) (hG : Good L) (l : List UInt8) (hl : bytesOf (getE L down s).1 = Lib.byteCells l) :
    Calls Try.prog 24 #[.pointer (some ⟨d, 0, none⟩), .string s] w fun e w' => ∃ v, e = .returned (.tuple #[v, .int .i64 (getE L down s).2]) ∧ (convert 23 9 v).run Try.prog w' = .ok (.string ⟨l.toArray⟩) w' ∧ Below w.heap.size w w' ∧ Two W w' b O d m r L room fuse down R room' fuse' down' := by
  have h0 := h
  obtain ⟨S, T, h1, h2, h3, h4, h5, h6, h7⟩ := h
  refine (read w S d m L room fuse down s hs h1 hG.bytes).mono ?_
  rintro e w' ⟨v, he, hrow, hb⟩
  rw [hl] at hrow
  exact ⟨v, he, str_of_row hrow (by simp [Lib.byteCells]), hb, h0.later hb⟩
theorem twoR_read {W w : World} {b : Nat} {O : Option Obj} {d m r : Nat} {L : List Ent} {room fuse room' fuse' : Int} {down down' : Bool} {R : List RFile} (h : Two W w b O d m r L room fuse down R room' fuse' down') (s : ByteArray) (hn : R.length ≤ 1000000000000) (l : List UInt8) (hl : readR R down' s = Lib.byteCells l) :
    Calls Try.prog 58 #[.pointer (some ⟨r, 0, none⟩), .string s] w fun e w' => ∃ v, e = .returned (.tuple #[v, .int .i64 (thereI R down' s).2]) ∧ (convert 23 9 v).run Try.prog w = .ok (.string ⟨l.toArray⟩) w ∧ w = w' := by
  obtain ⟨S, T, h1, h2, h3, h4, h5, h6, h7⟩ := h
  refine (refRead w T r R room' fuse' down' s h2 hn).mono ?_
  rintro e w' ⟨v, he, hs, hw⟩
  rw [hl] at hs
  exact ⟨v, he, str_of_srcS hs, hw⟩
section
variable {W w : World} {b : Nat} {O : Option Obj} {d m r : Nat} {L : List Ent} {room fuse : Int} {down : Bool} {R : List RFile} {p q : Nat}
set_option maxRecDepth 100000 in
theorem play9 (h : PlaySt W w b O d m r L room fuse down R p q) (n : Int) (nm to : ByteArray) (a : Option Addr) (ln cap : Nat) (hnm : nm.size ≤ maxLen) (hq : q ≤ 1000000000) :
    Calls Try.prog 30 #[.pointer (some ⟨d, 0, none⟩), .pointer (some ⟨r, 0, none⟩), .agg #[.int .i64 9, .int .i64 n, .string nm, .string to, .slice a ln cap]] w (PlayPost W d m r (p + ln) (q + 1)) := by
  have h1 := h.box (opB 9 n nm to a ln cap)
  obtain ⟨w1, hw1⟩ : ∃ w1, w.alloc (opB 9 n nm to a ln cap) = w1 := ⟨_, rfl⟩
  obtain ⟨B, hB⟩ : ∃ B, w.heap.size = B := ⟨_, rfl⟩
  rw [hw1, hB] at h1
  have HL := Lib.hid h1.like
  have HC := Lib.hid h1.caps
  have HF := Lib.hid h1.fits
  have HLN := Lib.hid (show R.length ≤ 1000000000000 by have := h1.lenR; omega)
  have HT := Lib.hid h1.two
  have F0 := Lib.hid h1.f0
  have F1 := Lib.hid h1.f1
  have R0 := Lib.hid h1.r0
  have R1 := Lib.hid h1.r1
  have hO := h1.two.stays
  have b0 : w1.cell? ⟨B, 0, none⟩ = some (.int .i64 9) := by simp [World.cell?, hO, opB]
  have b2 : w1.cell? ⟨B, 2, none⟩ = some (.string nm) := by simp [World.cell?, hO, opB]
  have HO := Lib.hid (fun (w' : World) (hs : w'.heap[B]? = some (opB 9 n nm to a ln cap)) => (show w'.cell? ⟨B, 2, none⟩ = some (.string nm) by simp [World.cell?, hs, opB]))
  obtain ⟨l, hl1, hl2, hl3⟩ := read_like HL.out HT.out.apart HF.out.1 down nm
  have HL1 := Lib.hid hl1
  have HL2 := Lib.hid hl2
  have HL3 := Lib.hid hl3
  clear hl1 hl2 hl3
  unfold opB at hw1
  clear h h1 hO
  go_enter Try.func30, Try.ntmps30
  go_wp2_with fail
  clear b0 hw1 hB
  refine (twoD_read HT.out nm hnm HF.out.1 l HL1.out).mono ?_
  rintro e w2 ⟨v2, rfl, hv2, _, ht2⟩
  have HT2 := Lib.hid ht2
  have HV2 := Lib.hid hv2
  have b9 := HO.out _ ht2.stays
  clear ht2 b2 hv2
  go_wp2_with fail
  refine (twoR_read HT2.out nm HLN.out l HL2.out).mono ?_
  rintro e w3 ⟨v3, rfl, hv3, rfl⟩
  rw [HL3.out]
  have hv2 := HV2.out
  clear b9
  generalize (getE L down nm).2 = G
  go_wp2_with fail
  go_ret
  exact ⟨by simp, _, _, _, _, _, _, _, HT2.out, HL.out, HC.out, HF.out.mono (by omega) (by omega), F0.out, F1.out, R0.out, R1.out⟩
end
end Go.Proofs.Ytjkgcpbgacdgaaa
