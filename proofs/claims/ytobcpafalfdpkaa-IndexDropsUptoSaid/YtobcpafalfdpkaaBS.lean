/- The walk of IndexDrops. Condition: the bulk that its row takes. -/
import Derived.Test.YtobcpafalfdpkaaBQ
namespace Go.Proofs.Ytobcpafalfdpkaa
open Go.RowKit Go.WideMaps Go.Sort Go.Deep Go.WideShapes Go.ChangeShapes
theorem bulk_pos {H : Type} (d : DataW H) : 1 ≤ Rows.uptoBulk d := by
  cases d with
  | lit l => cases l <;> simp [Rows.uptoBulk]
  | _ => simp [Rows.uptoBulk]
theorem bulk_len {H : Type} : ∀ A : List (DataW H), A.length ≤ Rows.uptoBulkAll A
  | [] => Nat.zero_le _
  | x :: A => by
    have := bulk_pos x
    have := bulk_len A
    simp only [List.length_cons, Rows.uptoBulkAll]
    omega
set_option maxRecDepth 100000 in
theorem sers_bulk {H : Type} {enc : TypeId × Value → H} {W : World} {a : Option Addr} {len cap : Nat} {d : DataW H} {p : List MemPlace}
    (h : DataW.Trod enc Try.prog W 0 (fun _ => true) true 22 (.slice a len cap) d p) : len ≤ Rows.uptoBulk d := by
  obtain ⟨fuel, hf⟩ := h
  rcases open_slice Try.underlying22 hf with ⟨hcs, _⟩ | ⟨b, l, c, m, n, D, Pl, hcs, _, hl, hm, hmm, hd, hx⟩
  · simp [Value.cells] at hcs
    obtain ⟨rfl, rfl, rfl⟩ := hcs
    exact Nat.zero_le _
  · simp [Value.cells] at hcs
    obtain ⟨rfl, rfl, rfl⟩ := hcs
    injection hd with hd _
    subst hd
    have h1 := bulk_len ((List.range len).map D)
    rw [List.length_map, List.length_range] at h1
    simp only [Rows.uptoBulk]
    omega
theorem Duo.st {W w : World} {ρ : Nat → Option Role} {x m : Nat} {L : List (BA × Nat)} {M : BA → Me} {N r : Nat} {E : List (BA × SV)} {K : List (BA × BA × Int)} (h : Duo W w ρ x m L M N r E K) : St W w x m L M N r E K w ρ := ⟨ρ, h, Nat.le_refl _, fun _ _ hn => ⟨rfl, hn⟩⟩
def Both2 (W wr : World) (x m r N e : Nat) : Prop := ∃ (ρ : Nat → Option Role) (L : List (BA × Nat)) (M : BA → Me) (E : List (BA × SV)) (K : List (BA × BA × Int)), Duo W wr ρ x m L M N r E K ∧ Like L M E K ∧ E.length ≤ e ∧ K.length ≤ e
def InBoth (W : World) (x m r n : Nat) (i : Value) (wr : World) : Prop := ∃ k : Nat, k ≤ n ∧ i = .int .i64 k ∧ Both2 W wr x m r k k
def InMore (W : World) (x m r n e : Nat) (i : Value) (wr : World) : Prop := ∃ k : Nat, k ≤ n ∧ i = .int .i64 k ∧ Both2 W wr x m r (e + k) e
/-- What was added and dropped again. -/
theorem like_back {L L1 L2 : List (BA × Nat)} {M M1 M2 : BA → Me} {E : List (BA × SV)} {K : List (BA × BA × Int)} {s : Sr} (h : Like L M E K) (hr : ∀ nm, Rises (meOf L M nm)) (hr2 : ∀ nm, Rises (meOf L2 M2 nm)) (ha : (addA (meOf L M s.name) s).1 = true) (hp : PAdd L M L1 M1 s) (hq : PDrop L1 M1 L2 M2 s) : dropA (meOf L1 M1 s.name) s = true ∧ Like L2 M2 E K := by
  obtain ⟨hok, hnone⟩ := addA_true ha
  obtain ⟨sv, hsv, hss, hkd⟩ := hp.2.2 ha
  have hd : dropA (meOf L1 M1 s.name) s = true := by
    unfold dropA
    rw [hok, Bool.true_and, hss, get_put, if_pos rfl]; rfl
  obtain ⟨hss2, hkd2⟩ := hq.2.2 hd
  refine ⟨hd, like_congr h fun nm => ?_⟩
  by_cases hn : nm = s.name
  · subst hn
    refine ⟨rising_eq (hr2 _).ss (hr _).ss fun p => ?_, hkd2.trans hkd⟩
    rw [hss2, hss, del_mem, put_mem]
    constructor
    · rintro ⟨rfl | ⟨h1, _⟩, h2⟩
      · exact absurd rfl h2
      · exact h1
    · intro h1
      have h2 := get_none hnone p h1
      exact ⟨.inr ⟨h1, h2⟩, h2⟩
  · rw [hq.1 _ hn, hp.1 _ hn]
    exact ⟨rfl, rfl⟩
theorem like_not {L L1 : List (BA × Nat)} {M M1 : BA → Me} {E : List (BA × SV)} {K : List (BA × BA × Int)} {s : Sr} (h : Like L M E K) (ha : (addA (meOf L M s.name) s).1 = false) (hp : PAdd L M L1 M1 s) : Like L1 M1 E K := like_same h hp.1 (hp.2.1 ha)
theorem st_both {W w w0 : World} {ρ0 : Nat → Option Role} {x m : Nat} {L : List (BA × Nat)} {M : BA → Me} {N r e : Nat} {E : List (BA × SV)} {K : List (BA × BA × Int)} (h : St W w x m L M N r E K w0 ρ0) (hl : Like L M E K) (hE : E.length ≤ e) (hK : K.length ≤ e) : Both2 W w x m r N e := by
  obtain ⟨ρ, h1, _⟩ := h
  exact ⟨ρ, L, M, E, K, h1, hl, hE, hK⟩
set_option maxRecDepth 100000 in
set_option maxHeartbeats 4000000 in
theorem indexDrops_walk (H : Type) (enc : TypeId × Value → H) (W : World) (base : Nat) (v0 v1 v2 : Value) (d0 d1 d2 : DataW H) (p0 p1 p2 : List MemPlace) (h0 : DataW.Trod enc Try.prog W 0 (fun _ => true) true 22 v0 d0 p0) (o0 : Value.okWide Try.prog W .any base 22 v0) (h1 : DataW.Trod enc Try.prog W 0 (fun _ => true) true 22 v1 d1 p1) (o1 : Value.okWide Try.prog W .any base 22 v1) (h2 : DataW.Trod enc Try.prog W 0 (fun _ => true) true 9 v2 d2 p2) (o2 : Value.okWide Try.prog W .any base 9 v2) (hk : Rows.uptoSmall H [d0, d1, d2] = true) :
    Calls Try.prog 4 #[v0, v1, v2] W fun e w' => e = .returned (.bool true) ∧ Below W.heap.size W w' := by
  obtain ⟨a0, n, c0, X, rfl, _, _, hX⟩ := sers_open h0 o0
  obtain ⟨a1, n1, c1, Y, rfl, _, _, hY⟩ := sers_open h1 o1
  have hb0 := sers_bulk h0
  have hb1 := sers_bulk h1
  have hkk : Rows.uptoBulkAll [d0, d1, d2] ≤ 1048576 := of_decide_eq_true hk
  simp only [Rows.uptoBulkAll] at hkk
  have hn : n ≤ 1048576 := by omega
  have hn1 : n1 ≤ 1048576 := by omega
  obtain ⟨fuel, hf2⟩ := h2
  obtain ⟨key, hk0, _, hkey⟩ := DataW.trod_string Try.underlying9 hf2
  obtain rfl : v2 = .string key := by
    obtain ⟨s, rfl⟩ := okWide_string Try.underlying9 o2
    simpa [Value.cells] using hk0
  have HX := Lib.hid hX
  have HY := Lib.hid hY
  have HKEY := Lib.hid hkey
  clear h0 o0 h1 o1 o2 hf2 hk0 hX hY hkk hb0 hb1 hk hkey
  go_enter Try.func4, Try.ntmps4
  go_wp2_with fail
  refine (awake7 W).mono ?_
  rintro e w0 ⟨rfl, hb0⟩
  have HB0 := Lib.hid hb0
  clear hb0
  go_wp2_with fail
  refine (new8 w0).mono ?_
  rintro e w1 ⟨rfl, hidx, hb1, hfr⟩
  obtain ⟨x, hx⟩ : ∃ x, w0.heap.size + 1 = x := ⟨_, rfl⟩
  obtain ⟨m, hm⟩ : ∃ m, w0.heap.size = m := ⟨_, rfl⟩
  rw [hx, hm] at hidx
  rw [hx]
  have HIDX := Lib.hid hidx
  have HB1 := Lib.hid hb1
  have HFR := Lib.hid (fun b hb => (by rw [hm] at hfr ⊢; exact hfr b hb) : ∀ b, role0 m b ≠ none → w0.heap.size ≤ b)
  clear hidx hb1 hfr hx hm
  go_wp2_with fail
  refine (rnew15 w1).mono ?_
  rintro e w2 ⟨rfl, href, hb2, _⟩
  obtain ⟨ρ2, hduo⟩ := dual_new HB0.out HIDX.out HB1.out HFR.out href hb2
  obtain ⟨r, hr⟩ : ∃ r, w1.heap.size = r := ⟨_, rfl⟩
  rw [hr] at hduo
  rw [hr]
  have HD2 := Lib.hid hduo
  clear href hb2 hduo hr
  go_wp2_with fail
  go_loopw [20] (fun i wr => InBoth W x m r n i wr) (fun i _ => n - (intOf i).toNat)
  case atStart => exact ⟨0, Nat.zero_le _, rfl, ρ2, _, _, _, _, HD2.out, like_new, Nat.le_refl _, Nat.le_refl _⟩
  case round =>
    obtain ⟨k, hkn, rfl, ρ, L, M, E, K, hd, hl, hE, hK⟩ := hrel
    have HD := Lib.hid hd
    have HL := Lib.hid hl
    have HE := Lib.hid hE
    have HK := Lib.hid hK
    clear hd hl hE hK
    by_cases hlt : k < n
    · obtain ⟨b, off, rfl, hbl, hser⟩ := HX.out k hlt
      obtain ⟨sa, sc, q0, q1, hsr⟩ := hser
      have hblk := HD.out.low.block b hbl
      have u0 := (World.cell?_of_block (a := ⟨b, off + k * 2, none⟩) hblk).trans q0
      have u1 := (World.cell?_of_block (a := ⟨b, off + k * 2 + 1, none⟩) hblk).trans q1
      obtain ⟨s, hs⟩ : ∃ s, X k = s := ⟨_, rfl⟩
      rw [hs] at q0 q1 u0 u1 hsr
      have HQ0 := Lib.hid q0
      have HQ1 := Lib.hid q1
      have HSR := Lib.hid hsr
      have HBL := Lib.hid hbl
      have HXA := Lib.hid (xadd HD.out.st (by omega) hsr)
      obtain ⟨nt, hnt⟩ : ∃ nt, s.tags.length = nt := ⟨_, rfl⟩
      have HNT := Lib.hid hnt
      rw [hnt] at u1 HXA HQ1 HSR
      clear q0 q1 hsr hs hblk hbl hnt
      go_wp2_with fail
      clear u0 u1
      refine HXA.out.mono ?_
      rintro e w3 ⟨rfl, L3, M3, ht3, hp3⟩
      have HT3 := Lib.hid ht3
      have HP3 := Lib.hid hp3
      have hlow : Below W.heap.size W w3 := by obtain ⟨_, h, _⟩ := ht3; exact h.low
      have hblk := hlow.block b HBL.out
      have u0 := (World.cell?_of_block (a := ⟨b, off + k * 2, none⟩) hblk).trans HQ0.out
      have u1 := (World.cell?_of_block (a := ⟨b, off + k * 2 + 1, none⟩) hblk).trans HQ1.out
      have HRA := Lib.hid (radd HT3.out HL.out HD.out.good.me (by have := HE.out; omega) HSR.out)
      clear ht3 hp3 hlow hblk HXA
      go_wp2_with fail
      clear u0 u1
      refine HRA.out.mono ?_
      rintro e w4 ⟨rfl, E4, ht4, hle, hlk⟩
      have HB4 := Lib.hid (st_both ht4 (hlk L3 M3 HP3.out) (show E4.length ≤ k + 1 by have := HE.out; omega) (show K.length ≤ k + 1 by have := HK.out; omega))
      clear ht4 hle hlk HRA
      go_wp2_with fail
      go_roundw
      case rel => exact ⟨k + 1, by omega, by go_num, HB4.out⟩
      case measure => simp [intOf]; omega
    · have hke : k = n := by omega
      subst hke
      have HB5 := Lib.hid (show Both2 W wr x m r (k + 0) k from ⟨ρ, L, M, E, K, HD.out, HL.out, HE.out, HK.out⟩)
      clear hlt
      go_wp2_with fail
      go_loopw [38] (fun i wr => InMore W x m r n1 k i wr) (fun i _ => n1 - (intOf i).toNat)
      case atStart => exact ⟨0, Nat.zero_le _, rfl, HB5.out⟩
      case round =>
        rename World => wo
        obtain ⟨j, hjn, rfl, ρ6, L6, M6, E6, K6, hd6, hl6, hE6, hK6⟩ := hrel
        have HD6 := Lib.hid hd6
        have HL6 := Lib.hid hl6
        have HE6 := Lib.hid hE6
        have HK6 := Lib.hid hK6
        clear hd6 hl6 hE6 hK6
        by_cases hlt : j < n1
        · obtain ⟨b, off, rfl, hbl, hser⟩ := HY.out j hlt
          obtain ⟨sa, sc, q0, q1, hsr⟩ := hser
          have hblk := HD6.out.low.block b hbl
          have u0 := (World.cell?_of_block (a := ⟨b, off + j * 2, none⟩) hblk).trans q0
          have u1 := (World.cell?_of_block (a := ⟨b, off + j * 2 + 1, none⟩) hblk).trans q1
          obtain ⟨s, hs⟩ : ∃ s, Y j = s := ⟨_, rfl⟩
          rw [hs] at q0 q1 u0 u1 hsr
          have HQ0 := Lib.hid q0
          have HQ1 := Lib.hid q1
          have HSR := Lib.hid hsr
          have HBL := Lib.hid hbl
          have HXA := Lib.hid (xadd HD6.out.st (by omega) hsr)
          obtain ⟨nt, hnt⟩ : ∃ nt, s.tags.length = nt := ⟨_, rfl⟩
          rw [hnt] at u1 HXA HQ1 HSR
          obtain ⟨ad, had⟩ : ∃ ad, addA (meOf L6 M6 s.name) s = ad := ⟨_, rfl⟩
          rw [had] at HXA
          have HAD := Lib.hid had
          obtain ⟨ab, ae⟩ := ad
          simp only at HXA
          clear q0 q1 hsr hs hblk hbl had hnt
          go_wp2_with fail
          clear u0 u1
          refine HXA.out.mono ?_
          rintro e w7 ⟨rfl, L7, M7, ht7, hp7⟩
          have HT7 := Lib.hid ht7
          have HP7 := Lib.hid hp7
          have hlow : Below W.heap.size W w7 := by obtain ⟨_, h, _⟩ := ht7; exact h.low
          have hblk := hlow.block b HBL.out
          have u0 := (World.cell?_of_block (a := ⟨b, off + j * 2, none⟩) hblk).trans HQ0.out
          have u1 := (World.cell?_of_block (a := ⟨b, off + j * 2 + 1, none⟩) hblk).trans HQ1.out
          clear ht7 hp7 hlow hblk HXA
          cases ab with
          | false =>
            have HB8 := Lib.hid (st_both HT7.out (like_not HL6.out (by rw [HAD.out]) HP7.out) HE6.out HK6.out)
            clear u0 u1
            go_wp2_with fail
            go_roundw
            case rel => exact ⟨j + 1, by omega, by go_num, HB8.out⟩
            case measure => simp [intOf]; omega
          | true =>
            have HXD := Lib.hid (xdrop HT7.out HSR.out)
            obtain ⟨dv, hdv⟩ : ∃ dv, dropA (meOf L7 M7 s.name) s = dv := ⟨_, rfl⟩
            rw [hdv] at HXD
            have HDV := Lib.hid hdv
            clear hdv
            go_wp2_with fail
            clear u0 u1
            refine HXD.out.mono ?_
            rintro e w8 ⟨rfl, L8, M8, ht8, hp8⟩
            have hr8 : ∀ nm, Rises (meOf L8 M8 nm) := by obtain ⟨_, h, _⟩ := ht8; exact h.good.rises
            obtain ⟨hdd, hlb⟩ := like_back HL6.out HD6.out.good.rises hr8 (by rw [HAD.out]) HP7.out hp8
            have HB8 := Lib.hid (st_both ht8 hlb HE6.out HK6.out)
            obtain rfl : dv = true := by rw [← HDV.out]; exact hdd
            clear ht8 hp8 hr8 hdd hlb HXD
            go_wp2_with fail
            go_roundw
            case rel => exact ⟨j + 1, by omega, by go_num, HB8.out⟩
            case measure => simp [intOf]; omega
        · have hje : j = n1 := by omega
          clear hje
          have hwo := (Below.refl wo.heap.size wo)
          have HWO := Lib.hid hwo
          clear hwo
          go_wp2_with fail
          go_loopw [63] (fun i wr => InLow wo n1 i wr) (fun i _ => n1 - (intOf i).toNat)
          case atStart => exact ⟨0, Nat.zero_le _, rfl, HWO.out⟩
          case round =>
            obtain ⟨l, hln, rfl, hb⟩ := hrel
            have HBR := Lib.hid hb
            clear hb
            by_cases hll : l < n1
            · obtain ⟨b, off, rfl, hbl, hser⟩ := HY.out l hll
              obtain ⟨sa, sc, q0, q1, hsr⟩ := hser
              have hblk := (HBR.out.block b (Nat.lt_of_lt_of_le hbl HD6.out.low.size)).trans (HD6.out.low.block b hbl)
              have u0 := (World.cell?_of_block (a := ⟨b, off + l * 2, none⟩) hblk).trans q0
              obtain ⟨s, hs⟩ : ∃ s, Y l = s := ⟨_, rfl⟩
              rw [hs] at u0 hsr
              have hnm : s.name.size ≤ maxLen := by obtain ⟨_, _, _, _, _, _, h, _⟩ := hsr; exact h
              have HSM := Lib.hid (same18 (HD6.out.later HBR.out) HL6.out (by omega) (by have := HE6.out; omega) (by have := HK6.out; omega) s.name key ⟨#[]⟩ ⟨#[]⟩ hnm HKEY.out (Nat.zero_le _) (Nat.zero_le _))
              clear q0 q1 hsr hs hblk hbl hnm
              go_wp2_with fail
              clear u0
              refine HSM.out.mono ?_
              rintro e w9 ⟨rfl, hb9⟩
              have HB9 := Lib.hid (HBR.out.trans (hb9.mono HBR.out.size))
              clear hb9
              go_wp2_with fail
              go_roundw
              case rel => exact ⟨l + 1, by omega, by go_num, HB9.out⟩
              case measure => simp [intOf]; omega
            · have hle : l = n1 := by omega
              have HDF := Lib.hid (HD6.out.later HBR.out)
              have HX2 := Lib.hid (names10 HDF.out.good.idx (Nat.le_trans HDF.out.good.few (by omega)) fun p hp => Nat.le_trans (HDF.out.good.lens p hp) (by omega))
              clear hle
              go_wp2_with fail
              refine HX2.out.mono ?_
              rintro e w3 ⟨v3, rfl, hr3, hb3⟩
              have HR3 := Lib.hid hr3
              have HB3 := Lib.hid hb3
              clear hr3 hb3
              have HX3 := Lib.hid (rnames20 (HDF.out.ref.later HB3.out) (by have := HE6.out; omega))
              go_wp2_with fail
              refine HX3.out.mono ?_
              rintro e w4 ⟨v4, U4, rfl, hp4, hm4, hr4, hb4⟩
              have hu := like_names HL6.out HDF.out.good.me HDF.out.good.idx.out.rising hp4 hm4
              have HS4 := Lib.hid (same19 (row_later (by rw [← hu]; exact HR3.out) hb4) hr4)
              have HB4 := Lib.hid (HB3.out.trans (hb4.mono HB3.out.size))
              clear hp4 hm4 hr4 hb4 hu
              go_wp2_with fail
              refine HS4.out.mono ?_
              rintro e w5 ⟨rfl, hb5⟩
              have HB5' := Lib.hid (HDF.out.low.trans ((HB4.out.trans (hb5.mono HB4.out.size)).mono HDF.out.low.size))
              clear hb5
              go_wp2_with fail
              go_ret
              exact ⟨rfl, HB5'.out⟩
end Go.Proofs.Ytobcpafalfdpkaa
