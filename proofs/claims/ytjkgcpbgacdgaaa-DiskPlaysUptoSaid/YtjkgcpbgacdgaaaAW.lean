/- All that is asked of both disks is answered alike. Conditions: what both hold is in its bounds. -/
import Derived.Test.YtjkgcpbgacdgaaaAV
namespace Go.Proofs.Ytjkgcpbgacdgaaa
open Go.RowKit Go.Sort
theorem names_like {L : List Ent} {R : List RFile} (h : Like L R) : (nameL L).map encStr = R.map fun e => Value.string e.name := by
  have e1 : (nameL L).map encStr = (L.map pE).map fun p => Value.string p.name := by
    simp only [nameL, List.map_map]
    refine List.map_congr_left fun e _ => ?_
    simp [encStr, pE]
  rw [e1, h, List.map_map]
  rfl
section
variable {W w : World} {b : Nat} {O : Option Obj} {d m r : Nat} {L : List Ent} {room fuse room' fuse' : Int} {down down' : Bool} {R : List RFile} {p q : Nat}
theorem twoD_list (h : Two W w b O d m r L room fuse down R room' fuse' down') (hn : L.length ≤ 8000000000000) :
    Calls Try.prog 27 #[.pointer (some ⟨d, 0, none⟩)] w fun e w' => ∃ v, e = .returned v ∧ w'.ownsRow (w.heap.size + 1) 9 1 v (listN L down).length ((listN L down).map encStr) ∧ Below w.heap.size w w' ∧ Two W w' b O d m r L room fuse down R room' fuse' down' := by
  have h0 := h
  obtain ⟨S, T, h1, h2, h3, h4, h5, h6, h7⟩ := h
  refine (list w S d m L room fuse down h1 hn).mono ?_
  rintro e w' ⟨v, he, hrow, hb⟩
  exact ⟨v, he, hrow, hb, h0.later hb⟩
theorem twoD_down (h : Two W w b O d m r L room fuse down R room' fuse' down') :
    Calls Try.prog 28 #[.pointer (some ⟨d, 0, none⟩)] w fun e w' => e = .returned (.bool down) ∧ w = w' := by
  obtain ⟨S, T, h1, _⟩ := h
  exact (down28 w S d m L room fuse down h1).mono fun _ _ h => ⟨h.1, h.2.symm⟩
theorem twoR_down (h : Two W w b O d m r L room fuse down R room' fuse' down') :
    Calls Try.prog 59 #[.pointer (some ⟨r, 0, none⟩)] w fun e w' => e = .returned (.bool down') ∧ w = w' := by
  obtain ⟨S, T, h1, h2, _⟩ := h
  exact refDown w T r R room' fuse' down' h2
theorem twoD_used (h : Two W w b O d m r L room fuse down R room' fuse' down') (hn : lens L < 2 ^ 62) :
    Calls Try.prog 15 #[.pointer (some ⟨d, 0, none⟩)] w fun e w' => e = .returned (.int .i64 (lens L)) ∧ Below w.heap.size w w' ∧ Two W w' b O d m r L room fuse down R room' fuse' down' := by
  have h0 := h
  obtain ⟨S, T, h1, _⟩ := h
  exact (used w S d m L room fuse down h1 (by omega)).mono fun _ _ h => ⟨h.1, h.2, h0.later h.2⟩
theorem twoR_used (h : Two W w b O d m r L room fuse down R room' fuse' down') (hl : Like L R) (hn : lens L < 2 ^ 62) (hr : R.length ≤ 1000000000000) :
    Calls Try.prog 60 #[.pointer (some ⟨r, 0, none⟩)] w fun e w' => e = .returned (.int .i64 (lens L)) ∧ w = w' := by
  obtain ⟨S, T, h1, h2, _⟩ := h
  refine (refUsed w T r R room' fuse' down' h2 hr (by rw [← like_lens hl]; exact hn)).mono ?_
  rintro e w' ⟨he, hw⟩
  exact ⟨by rw [he, like_lens hl], hw⟩
theorem twoR_list (h : Two W w b O d m r L room fuse down R room' fuse' down') (hl : Like L R) (hr : R.length ≤ 1000000000000) :
    Calls Try.prog 62 #[.pointer (some ⟨r, 0, none⟩)] w fun e w' => ∃ v, e = .returned v ∧ w'.ownsRow w.heap.size 9 1 v (listN L down').length ((listN L down').map encStr) ∧ Below w.heap.size w w' ∧ Two W w' b O d m r L room fuse down R room' fuse' down' := by
  have h0 := h
  obtain ⟨S, T, h1, h2, _⟩ := h
  refine (refList w T r R room' fuse' down' h2 hr).mono ?_
  rintro e w' ⟨v, he, hrow, hb⟩
  refine ⟨v, he, ?_, hb, h0.later hb⟩
  cases down' with
  | true => exact hrow
  | false =>
    have e1 : (listN L false).length = R.length := by simp [listN, nameL, like_len hl]
    have e2 : (listN L false).map encStr = R.map fun e => Value.string e.name := names_like hl
    rw [e1, e2]
    exact hrow
def InSame (W w5 : World) (b : Nat) (O : Option Obj) (d m r : Nat) (L : List Ent) (room fuse : Int) (down : Bool) (R : List RFile) (n : Nat) (i : Value) (wr : World) : Prop :=
  ∃ k : Nat, k ≤ n ∧ i = .int .i64 k ∧ Two W wr b O d m r L room fuse down R room fuse down ∧ Below w5.heap.size w5 wr
set_option maxRecDepth 100000 in
theorem same (h : PlaySt W w b O d m r L room fuse down R p q) (hp : p ≤ 1000000000) (hq : q ≤ 1000000000) :
    Calls Try.prog 31 #[.pointer (some ⟨d, 0, none⟩), .pointer (some ⟨r, 0, none⟩)] w fun e w' => e = .returned (.bool true) ∧ PlaySt W w' b O d m r L room fuse down R p q := by
  have HT := Lib.hid h.two
  have HL := Lib.hid h.like
  have HF := Lib.hid h.fits
  have HH := Lib.hid h
  have HLN := Lib.hid (show R.length ≤ 1000000000000 by have := h.lenR; omega)
  have HLL := Lib.hid (show L.length ≤ 8000000000000 by have := h.fits.2.2; omega)
  have HLS := Lib.hid (show lens L < 2 ^ 62 by have := h.fits.2.1; omega)
  have hx : ∀ i, i < (listN L down).length → ∃ s, ((listN L down).map encStr)[i]? = some (.string s) := fun i hi => ⟨⟨((listN L down)[i]).toArray⟩, by rw [List.getElem?_map, List.getElem?_eq_getElem hi]; rfl⟩
  have HX := Lib.hid hx
  have hlen : (listN L down).length ≤ 1000000000 := by
    unfold listN
    split
    · simp
    · simp [nameL]; have := h.fits.2.2; omega
  obtain ⟨n, hN⟩ : ∃ n, (listN L down).length = n := ⟨_, rfl⟩
  have HN := Lib.hid hN
  rw [hN] at hlen
  clear h hx hN
  go_enter Try.func31, Try.ntmps31
  go_wp2_with fail
  refine (twoD_list HT.out HLL.out).mono ?_
  rw [HN.out]
  rintro e w1 ⟨v1, rfl, hrow1, hb1, ht1⟩
  have HR1 := Lib.hid hrow1
  have HT1 := Lib.hid ht1
  clear hrow1 hb1 ht1
  go_wp2_with fail
  refine (twoD_down HT1.out).mono ?_
  rintro e w2 ⟨rfl, rfl⟩
  go_wp2_with fail
  refine (twoR_down HT1.out).mono ?_
  rintro e w2 ⟨rfl, rfl⟩
  have hdd : (down != down) = false := by simp
  go_wp2_with fail
  refine (twoD_used HT1.out HLS.out).mono ?_
  rintro e w3 ⟨rfl, hb3, ht3⟩
  have HB3 := Lib.hid hb3
  have HT3 := Lib.hid ht3
  clear hb3 ht3
  go_wp2_with fail
  refine (twoR_used HT3.out HL.out HLS.out HLN.out).mono ?_
  rintro e w4 ⟨rfl, rfl⟩
  go_wp2_with fail
  refine (twoR_list HT3.out HL.out HLN.out).mono ?_
  rw [HN.out]
  rintro e w4 ⟨v2, rfl, hrow4, hb4, ht4⟩
  have HR4 := Lib.hid hrow4
  have HB4 := Lib.hid hb4
  have HT4 := Lib.hid ht4
  clear hrow4 hb4 ht4
  have hr1 : w4.ownsRow (w.heap.size + 1) 9 1 v1 n ((listN L down).map encStr) := ownsRow_same (ownsRow_same HR1.out fun g hg => HB3.out.block g (HR1.out.lt g hg).2) fun g hg => HB4.out.block g (Nat.lt_of_lt_of_le (HR1.out.lt g hg).2 HB3.out.size)
  have HRR := Lib.hid hr1
  clear hr1 hdd
  go_wp2_with fail
  refine (sameTexts w4 _ _ v1 v2 n ((listN L down).map encStr) (by rw [← HN.out]; exact HX.out) HRR.out HR4.out (by omega)).mono ?_
  rintro e w5 ⟨rfl, z, hw5⟩
  have ht5 : Two W w5 b O d m r L room fuse down R room fuse down := by rw [hw5]; exact HT4.out.drewN z
  have hr5 : w5.ownsRow (w.heap.size + 1) 9 1 v1 n ((listN L down).map encStr) := by rw [hw5]; exact HRR.out
  obtain ⟨a, cap, rfl⟩ : ∃ a cap, v1 = .slice a n cap := by
    rcases hr5.2 with ⟨rfl, h0⟩ | ⟨g, cap, cur, rfl, _⟩
    · exact ⟨none, 0, by rw [h0]⟩
    · exact ⟨_, cap, rfl⟩
  have HT5 := Lib.hid ht5
  have HR5 := Lib.hid hr5
  clear hw5 ht5 hr5
  go_wp2_with fail
  go_loopw [34] (fun i wr => InSame W w5 b O d m r L room fuse down R n i wr) (fun i _ => n - (intOf i).toNat)
  case atStart => exact ⟨0, Nat.zero_le _, rfl, HT5.out, Below.refl _ _⟩
  case round =>
    obtain ⟨k, hk, rfl, ht, hb⟩ := hrel
    have HTR := Lib.hid ht
    have HBR := Lib.hid hb
    clear ht hb
    by_cases hlt : k < n
    · obtain ⟨x, hx⟩ : ∃ x, (listN L down)[k]? = some x := ⟨_, List.getElem?_eq_getElem (by rw [HN.out]; exact hlt)⟩
      obtain ⟨e, he, hxe, hdn⟩ : ∃ e, e ∈ L ∧ x = e.name.data.toList ∧ down = false := by
        unfold listN at hx
        cases down with
        | true => simp at hx
        | false =>
          simp only [Bool.false_eq_true, if_false, nameL, List.getElem?_map] at hx
          obtain ⟨e, he, hxe⟩ := Option.map_eq_some_iff.1 hx
          exact ⟨e, List.mem_of_getElem? he, hxe.symm, rfl⟩
      have hsz : e.name.size ≤ maxLen := by have := (HF.out.1 e he).1; unfold maxLen; omega
      obtain ⟨g, rfl, hc⟩ : ∃ g, a = some ⟨g, 0, none⟩ ∧ wr.cell? ⟨g, k, none⟩ = some (.string e.name) := by
        have hr := HR5.out
        rcases hr.2 with ⟨_, h0⟩ | ⟨g, cap', cur, hv, _⟩
        · omega
        · injection hv with e1 e2 e3
          subst e1
          refine ⟨g, rfl, ?_⟩
          rw [HBR.out.cell (p := ⟨g, k, none⟩) (hr.lt g rfl).2, hr.cellAt k (by omega), List.getElem?_map, hx, hxe]
          simp [encStr]
      obtain ⟨l, hl1, hl2, hl3⟩ := read_like HL.out HTR.out.apart HF.out.1 down e.name
      have HL1 := Lib.hid hl1
      have HL2 := Lib.hid hl2
      have HL3 := Lib.hid hl3
      have HSZ := Lib.hid hsz
      have HGL := Lib.hid (show g < w5.heap.size from (HR5.out.lt g rfl).2)
      clear hl1 hl2 hl3 hx he hxe hdn hsz
      go_wp2_with fail
      refine (twoD_read HTR.out e.name HSZ.out HF.out.1 l HL1.out).mono ?_
      rintro e2 w6 ⟨v6, rfl, hv6, hb6, ht6⟩
      have HT6 := Lib.hid ht6
      have HV6 := Lib.hid hv6
      have HB6 := Lib.hid (HBR.out.trans (hb6.mono HBR.out.size))
      have hc6 := (hb6.cell (p := ⟨g, k, none⟩) (Nat.lt_of_lt_of_le HGL.out HBR.out.size)).trans hc
      clear ht6 hv6 hb6 hc
      go_wp2_with fail
      refine (twoR_read HT6.out e.name HLN.out l HL2.out).mono ?_
      rintro e3 w7 ⟨v7, rfl, hv7, rfl⟩
      rw [HL3.out]
      have hv6 := HV6.out
      clear hc6
      generalize (getE L down e.name).2 = G
      go_wp2_with fail
      go_roundw
      case rel => exact ⟨k + 1, by omega, by go_num, HT6.out, HB6.out⟩
      case measure => simp [intOf]; omega
    · go_wp2_with fail
      go_ret
      exact ⟨rfl, HTR.out, HH.out.like, HH.out.caps, HH.out.fits, HH.out.f0, HH.out.f1, HH.out.r0, HH.out.r1⟩
end
end Go.Proofs.Ytjkgcpbgacdgaaa
