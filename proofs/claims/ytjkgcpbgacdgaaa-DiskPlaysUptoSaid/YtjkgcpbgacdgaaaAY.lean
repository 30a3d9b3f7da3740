/- The law DiskPlays, walked. Condition: what comes in is of bulk at most 1048576. -/
import Derived.Test.YtjkgcpbgacdgaaaAX
namespace Go.Proofs.Ytjkgcpbgacdgaaa
open Go.RowKit Go.Sort Go.Deep Go.WideShapes Go.ChangeShapes
theorem Play.mono {W w : World} {d m r p q p' q' : Nat} (h : Play W w d m r p q) (hp : p ≤ p') (hq : q ≤ q') : Play W w d m r p' q' := by
  obtain ⟨b, O, L, room, fuse, down, R, h⟩ := h
  exact ⟨b, O, L, room, fuse, down, R, h.two, h.like, h.caps, h.fits.mono hp hq, h.f0, h.f1, h.r0, h.r1⟩
theorem Play.below {W w : World} {d m r p q : Nat} (h : Play W w d m r p q) : Below W.heap.size W w := by
  obtain ⟨b, O, L, room, fuse, down, R, h⟩ := h
  exact h.two.below
theorem play_any {W w : World} {d m r p q : Nat} (h : Play W w d m r p q) (x : OpX) (hnm : x.nm.size ≤ maxLen) (hto : x.to.size ≤ maxLen) (hn : x.n < 2 ^ 63) (hsrc : ∀ S, (∀ z, S z → W.heap.size ≤ z) → SrcAt W S (.slice x.a x.l.length x.cap) (Lib.byteCells x.l)) (hp : p + x.l.length ≤ 1000000000) (hq : q ≤ 1000000000) :
    Calls Try.prog 30 #[.pointer (some ⟨d, 0, none⟩), .pointer (some ⟨r, 0, none⟩), .agg #[.int .i64 x.kind, .int .i64 x.n, .string x.nm, .string x.to, .slice x.a x.l.length x.cap]] w (PlayPost W d m r (p + x.l.length) (q + 1)) := by
  obtain ⟨b, O, L, room, fuse, down, R, h⟩ := h
  obtain ⟨kind, n, nm, to, a, cap, l⟩ := x
  by_cases h1 : kind = 1
  · subst h1; exact play1 h n nm to a _ cap l hsrc rfl hnm hp hq
  by_cases h2 : kind = 2
  · subst h2; exact play2 h n nm to a _ cap hnm (by omega) hq
  by_cases h3 : kind = 3
  · subst h3; exact play3 h n nm to a _ cap hnm hto (by omega) hq
  by_cases h4 : kind = 4
  · subst h4; exact play4 h n nm to a _ cap hnm (by omega) hq
  by_cases h5 : kind = 5
  · subst h5; exact play5 h n nm to a _ cap hnm (by omega) hq
  by_cases h6 : kind = 6
  · subst h6; exact play6 h n nm to a _ cap hn hq
  by_cases h7 : kind = 7
  · subst h7; exact play7 h n nm to a _ cap hn hq
  by_cases h8 : kind = 8
  · subst h8; exact play8 h n nm to a _ cap l hsrc hq
  by_cases h9 : kind = 9
  · subst h9; exact play9 h n nm to a _ cap hnm hq
  exact play0 h kind n nm to a _ cap (beq_eq_false_iff_ne.2 h1) (beq_eq_false_iff_ne.2 h2) (beq_eq_false_iff_ne.2 h3) (beq_eq_false_iff_ne.2 h4) (beq_eq_false_iff_ne.2 h5) (beq_eq_false_iff_ne.2 h6) (beq_eq_false_iff_ne.2 h7) (beq_eq_false_iff_ne.2 h8) (beq_eq_false_iff_ne.2 h9) hq
theorem same_any {W w : World} {d m r p q : Nat} (h : Play W w d m r p q) (hp : p ≤ 1000000000) (hq : q ≤ 1000000000) :
    Calls Try.prog 31 #[.pointer (some ⟨d, 0, none⟩), .pointer (some ⟨r, 0, none⟩)] w fun e w' => e = .returned (.bool true) ∧ Play W w' d m r p q := by
  obtain ⟨b, O, L, room, fuse, down, R, h⟩ := h
  exact (same h hp hq).mono fun _ _ h => ⟨h.1, b, O, L, room, fuse, down, R, h.2⟩
def InPlays (W : World) (d m r n : Nat) (X : Nat → OpX) (i : Value) (wr : World) : Prop := ∃ k : Nat, k ≤ n ∧ i = .int .i64 k ∧ Play W wr d m r (tot X k) k
theorem tot_ge (X : Nat → OpX) : ∀ k, k ≤ tot X k
  | 0 => Nat.le_refl _
  | k + 1 => by have := tot_ge X k; simp only [tot]; omega
set_option maxRecDepth 100000 in
theorem diskPlays_walk (H : Type) (enc : TypeId × Value → H) (W : World) (base : Nat) (v0 v1 : Value) (d0 d1 : DataW H) (p0 p1 : List MemPlace) (h0 : DataW.Trod enc Try.prog W 0 (fun _ => true) true 3 v0 d0 p0) (o0 : Value.okWide Try.prog W .any base 3 v0)
    (h1 : DataW.Trod enc Try.prog W 0 (fun _ => true) true 51 v1 d1 p1) (o1 : Value.okWide Try.prog W .any base 51 v1) (hk : Rows.uptoSmall H [d0, d1] = true) :
    Calls Try.prog 7 #[v0, v1] W fun e w' => e = .returned (.bool true) ∧ Below W.heap.size W w' := by
  obtain ⟨room, rfl, hroom⟩ : ∃ z, v0 = .int .i64 z ∧ z < 2 ^ 63 := by
    obtain ⟨fuel, hf⟩ := h0
    obtain ⟨z, hz, _, hw⟩ := DataW.trod_int Try.underlying3 hf
    have h9 : -9223372036854775808 ≤ z ∧ z ≤ 9223372036854775807 := by simpa [Lit.wf, IntKind.min, IntKind.max, IntKind.signed, IntKind.bits] using hw
    refine ⟨z, ?_, by omega⟩
    simp only [Value.okWide, Try.underlying3, Cell.okWide] at o0
    cases v0 <;> simp_all [Value.cells, Cell.ok]
  obtain ⟨a, len, cap, X, rfl, hlc, hlm, hat, htot⟩ := script_open h1 o1
  have htot' : tot X len ≤ 1048576 := by
    have : Rows.uptoBulkAll [d0, d1] ≤ 1048576 := of_decide_eq_true hk
    simp only [Rows.uptoBulkAll] at this
    omega
  have HTOT := Lib.hid htot'
  have HAT := Lib.hid hat
  have hlen : len ≤ 1048576 := Nat.le_trans (tot_ge X len) htot'
  have HROOM := Lib.hid hroom
  clear h0 o0 h1 o1 hk hat htot htot' hlm hlc hroom
  go_enter Try.func7, Try.ntmps7
  go_wp2_with fail
  refine (awake9 W).mono ?_
  rintro e w1 ⟨rfl, hb1⟩
  have HB1 := Lib.hid hb1
  clear hb1
  go_wp2_with fail
  refine (new room w1 HROOM.out).mono ?_
  rintro e w2 ⟨rfl, hd2, hb2, hs2⟩
  have HD2 := Lib.hid hd2
  have HB2 := Lib.hid hb2
  have HS2 := Lib.hid hs2
  clear hd2 hb2 hs2
  go_wp2_with fail
  refine (refNew room w2).mono ?_
  rintro e w3 ⟨rfl, hr3, hb3, hs3⟩
  have hplay : Play W w3 (w1.heap.size + 1) w1.heap.size w2.heap.size 0 0 := by
    have h2 := HS2.out
    have h4 := HB1.out.size
    refine ⟨0, none, [], max room 0, -1, false, [], ⟨_, _, HD2.out.later hb3, hr3, fun k hk hT => by omega, fun k hk => ⟨by omega, by omega, fun h => absurd rfl h⟩, (HB1.out.trans (HB2.out.mono HB1.out.size)).trans (hb3.mono (by omega)), fun h => absurd rfl h, fun h => absurd rfl h⟩, rfl, fun e he => (nomatch he), ⟨Good.nil, Nat.le_refl _, Nat.le_refl _⟩, by omega, by omega, by omega, by have := HROOM.out; omega⟩
  have HP := Lib.hid hplay
  clear hr3 hb3 hs3 hplay
  generalize w1.heap.size = D at HP ⊢
  generalize w2.heap.size = E at HP ⊢
  go_wp2_with fail
  go_loopw [16] (fun i wr => InPlays W (D + 1) D E len X i wr) (fun i _ => len - (intOf i).toNat)
  case atStart => exact ⟨0, Nat.zero_le _, rfl, HP.out⟩
  case round =>
    obtain ⟨k, hkn, rfl, hpl⟩ := hrel
    have HPL := Lib.hid hpl
    clear hpl
    by_cases hlt : k < len
    · obtain ⟨b, rfl, q0, q1, q2, q3, q4, s2, s3, s1, hsrc⟩ := HAT.out k hlt
      obtain ⟨b', hb', z0, _⟩ := HAT.out 0 (by omega)
      injection hb' with hb'
      subst hb'
      have hsp : b.spot = none := World.cell?_spot (by simpa [Addr.add] using z0)
      obtain ⟨bb, off, spot⟩ := b
      simp only at hsp
      subst hsp
      have hadd : ∀ j, (⟨bb, off, none⟩ : Addr).add j = ⟨bb, off + j, none⟩ := fun j => by unfold Addr.add; split <;> simp_all
      rw [hadd] at q0 q1 q2 q3 q4
      rw [← Nat.add_assoc] at q1 q2 q3 q4
      have hbl : bb < W.heap.size := World.block_lt_of_cell? W _ q0
      have hbel := HPL.out.below
      have c0 := (hbel.cell (p := ⟨bb, off + k * 5, none⟩) hbl).trans q0
      have c1 := (hbel.cell (p := ⟨bb, off + k * 5 + 1, none⟩) hbl).trans q1
      have c2 := (hbel.cell (p := ⟨bb, off + k * 5 + 2, none⟩) hbl).trans q2
      have c3 := (hbel.cell (p := ⟨bb, off + k * 5 + 3, none⟩) hbl).trans q3
      have c4 := (hbel.cell (p := ⟨bb, off + k * 5 + 4, none⟩) hbl).trans q4
      have t1 : tot X (k + 1) ≤ tot X len := tot_le X hlt
      have t2 := HTOT.out
      have t3 := tot_le X (Nat.le_of_lt hlt)
      have t4 : tot X (k + 1) = tot X k + ((X k).l.length + 1) := rfl
      have HPA := Lib.hid (play_any HPL.out (X k) s2 s3 s1 hsrc (by omega) (by omega))
      obtain ⟨x, hx⟩ : ∃ x, X k = x := ⟨_, rfl⟩
      rw [hx] at c0 c1 c2 c3 c4 HPA
      have HT4 := Lib.hid (show tot X k + x.l.length ≤ tot X (k + 1) by rw [t4, hx]; omega)
      have HT5 := Lib.hid (show tot X k + x.l.length ≤ 1000000000 by rw [← hx]; omega)
      clear q0 q1 q2 q3 q4 z0 hbel t1 t2 t3 t4 hsrc s1 s2 s3 hadd hbl hx
      go_wp2_with fail
      refine (HPA.out).mono ?_
      rintro e w4 ⟨rfl, hp4⟩
      have HP4 := Lib.hid hp4
      clear hp4 c0 c1 c2 c3 c4
      go_wp2_with fail
      refine (same_any HP4.out HT5.out (by omega)).mono ?_
      rintro e w5 ⟨rfl, hp5⟩
      have HP5 := Lib.hid hp5
      clear hp5
      go_wp2_with fail
      go_roundw
      case rel => exact ⟨k + 1, by omega, by go_num, HP5.out.mono HT4.out (Nat.le_refl _)⟩
      case measure => simp [intOf]; omega
    · go_wp2_with fail
      go_ret
      exact ⟨rfl, HPL.out.below⟩
end Go.Proofs.Ytjkgcpbgacdgaaa
