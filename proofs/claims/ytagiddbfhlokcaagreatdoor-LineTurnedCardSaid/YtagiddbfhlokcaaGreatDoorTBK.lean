/- Several texts of this proof, laid together. Conditions: as each says. -/
import Derived.Test.YtagiddbfhlokcaaGreatDoorTBD
import Derived.Test.YtagiddbfhlokcaaGreatDoorTBJ
import Derived.Laws.IdiomStrings
import Derived.Lib.SmallJoins
import Derived.Deep.Slices
import Derived.ChangeSlices
import Derived.ChangeMaps5
/- The law LineTurned walked. Conditions: the row's memory; the tables. -/
namespace Go.Proofs.YtagiddbfhlokcaaGreatDoor.Ser
open Go.RowKit Go.Sort Ff
set_option maxRecDepth 100000
theorem tabpow_tt : PF.TabPow (tabF TT) := by
  have key : (List.range 696).all (fun k => decide (0 < PF.aD ((k : Int) - 348)) && decide ((TT k).1 < PF.two64) && decide ((TT k).2 < PF.two64) && decide (9223372036854775808 ≤ (TT k).1) && decide (PF.aP ((k : Int) - 348) * 2 ^ 127 ≤ ((TT k).1 * PF.two64 - (TT k).2) * PF.aD ((k : Int) - 348)) && decide (((TT k).1 * PF.two64 - (TT k).2) * PF.aD ((k : Int) - 348) < PF.aP ((k : Int) - 348) * 2 ^ 127 + PF.aD ((k : Int) - 348))) = true := by decide +kernel
  intro p h1 h2
  have h := List.all_eq_true.1 key (p + 348).toNat (List.mem_range.2 (by omega))
  rw [show (((p + 348).toNat : Nat) : Int) - 348 = p by omega] at h
  simp only [Bool.and_eq_true, decide_eq_true_eq] at h
  obtain ⟨⟨⟨⟨⟨a, b⟩, c⟩, d⟩, e⟩, f⟩ := h
  exact ⟨a, b, c, d, e, f⟩
theorem frozen_mark {w : World} {b i lo : Nat} {cs : Array Value} {t : TypeId} (h : w.heap[b]? = some (.cells cs t (lo, lo + 1))) (hi : i < lo) : w.frozen? ⟨b, i, none⟩ = false := by
  unfold World.frozen?
  simp [h]
  omega
theorem fenv_of {W : World} (h : laidMet Tryz.prog Laid.lst W) : FEnv TT W ∧ 15 < W.heap.size := by
  obtain ⟨B2, o2, B, o, hp⟩ := penv_of h
  obtain ⟨h1, h2⟩ := one_env h
  exact ⟨⟨hp.pow, h1.tab⟩, h2⟩
theorem rText_len {T : Nat → Nat × Nat} (hP : PF.TabPow (tabF T)) {name : ByteArray} {n : Nat} {kf vf : Nat → ByteArray} {L : List Fd} {tm : Int} (ht1 : -9223372036854775808 ≤ tm) (ht2 : tm ≤ 9223372036854775807) (hfs : ∀ p ∈ L, FdOk p) (h : rowB name n kf vf L = true) : 1 ≤ (rText T name n kf vf L tm).length ∧ (rText T name n kf vf L tm).length ≤ 2300000 := by
  unfold rowB at h
  rw [Bool.and_eq_true, Bool.and_eq_true, Bool.and_eq_true, decide_eq_true_eq, decide_eq_true_eq] at h
  obtain ⟨r1, r2, r3, r4⟩ := h
  have h2 := rTo_len hP (kf := kf) (vf := vf) (name := name) (n := n) r2 hfs L.length r1
  obtain ⟨p1, p2, p3⟩ := formed_parts r2
  have h3 := itoa_len20 ht1 ht2
  unfold rText
  rw [List.length_append, List.length_cons]
  omega
set_option maxHeartbeats 4000000 in
theorem law8 (name : ByteArray) (a fa : Option Addr) (n cap fcap : Nat) (tm : Int) (ht1 : -9223372036854775808 ≤ tm) (ht2 : tm ≤ 9223372036854775807) (kf vf : Nat → ByteArray) (L : List Fd) (w : World) (hn : n < 2 ^ 63) (hl : L.length < 2 ^ 63) (hname : name.size ≤ maxLen) (hks : ∀ i, (kf i).size ≤ maxLen ∧ (vf i).size ≤ maxLen)
    (hfs : ∀ p ∈ L, FdOk p) (ht : TagsAt w a n kf vf) (hf : FieldsAt w fa L) (at_ cut : Int) (by_ : Int) (hm : laidMet Tryz.prog Laid.lst w) :
    Calls Tryz.prog 8 #[.agg #[.string name, .slice a n cap, .slice fa L.length fcap, .int .i64 tm], .int .i64 at_, .int .u8 by_, .int .i64 cut] w fun e w' => e = .returned (.bool true) ∧ Below w.heap.size w w' := by
  obtain ⟨h1, h2⟩ := readers_of hm
  obtain ⟨henv, h15⟩ := fenv_of hm
  obtain ⟨O, hO⟩ : ∃ O, Obj.cells #[.string name, .slice a n cap, .slice fa L.length fcap, .int .i64 tm] 27 (0, 0) = O := ⟨_, rfl⟩
  have hbx : Below w.heap.size w (w.alloc O) := (Below.refl _ _).alloc (Nat.le_refl _) _
  have MA := Lib.hid (awake10 (w.alloc O) (h1.later hbx))
  have HV := Lib.hid (And.intro h1 h2)
  have HE := Lib.hid henv
  have H15 := Lib.hid h15
  have z0 : (w.alloc O).cell? ⟨w.heap.size, 0, none⟩ = some (.string name) := by rw [← hO]; simp
  have z1 : (w.alloc O).cell? ⟨w.heap.size, 1, none⟩ = some (.slice a n cap) := by rw [← hO]; simp
  have z2 : (w.alloc O).cell? ⟨w.heap.size, 2, none⟩ = some (.slice fa L.length fcap) := by rw [← hO]; simp
  have z3 : (w.alloc O).cell? ⟨w.heap.size, 3, none⟩ = some (.int .i64 tm) := by rw [← hO]; simp
  have hs0 : w.heap.size < (w.alloc O).heap.size := by simp
  have HBX := Lib.hid (And.intro hbx hs0)
  have HT := Lib.hid ht
  have HF := Lib.hid hf
  have M24 := Lib.hid (fun w2 (hb : Below w.heap.size w w2) => rprint_24 TT tt_lt tabpow_tt name a fa n cap fcap tm ht1 ht2 kf vf L w2 hn hl hname hks hfs (HT.out.later hb) (HF.out.later hb) (henv.later hb h15) (Nat.lt_of_lt_of_le h15 hb.size))
  have HLEN := Lib.hid (rText_len tabpow_tt (name := name) (n := n) (kf := kf) (vf := vf) ht1 ht2 hfs)
  clear hm h1 h2 henv h15 hbx hs0 ht hf hks hfs hname ht1 ht2 hn
  subst hO
  go_enter Tryz.func8, Tryz.ntmps8
  go_wp2_with fail
  refine MA.out.mono ?_
  rintro e w1 ⟨rfl, hb1⟩
  have c0 := (hb1.cell (p := ⟨w.heap.size, 0, none⟩) HBX.out.2).trans z0
  have c1 := (hb1.cell (p := ⟨w.heap.size, 1, none⟩) HBX.out.2).trans z1
  have c2 := (hb1.cell (p := ⟨w.heap.size, 2, none⟩) HBX.out.2).trans z2
  have c3 := (hb1.cell (p := ⟨w.heap.size, 3, none⟩) HBX.out.2).trans z3
  have HB1 := Lib.hid (HBX.out.1.trans (hb1.mono (Nat.le_of_lt HBX.out.2)))
  clear hb1 z0 z1 z2 z3
  go_wp2_with fail
  refine (M24.out _ HB1.out).mono ?_
  intro e w2 hp
  unfold RowP at hp
  obtain ⟨he, hb2⟩ := hp
  have HB2 := Lib.hid (HB1.out.trans (hb2.mono HB1.out.size))
  clear hb2 c0 c1 c2 c3
  obtain ⟨r, hr⟩ : ∃ r, rowB name n kf vf L = r := ⟨_, rfl⟩
  rw [hr] at he HLEN
  cases r with
  | false =>
    rw [if_neg (by decide), if_neg (by decide)] at he
    subst he
    go_wp2_with fail
    go_ret
    exact ⟨rfl, HB2.out⟩
  | true =>
    obtain ⟨l0, hl0⟩ : ∃ l, rText TT name n kf vf L tm = l := ⟨_, rfl⟩
    obtain ⟨len1, len2⟩ := HLEN.out rfl
    rw [hl0] at len1 len2 he
    rw [if_pos rfl, if_pos rfl] at he
    subst he
    have hds : (bs l0).data.size = l0.length := bs_size l0
    have hcv := run_bytes_of_string w2 9 59 5 (bs l0) Tryz.underlying9 Tryz.underlying59 Tryz.underlying5
    obtain ⟨arr, harr⟩ : ∃ a, bytesRow (bs l0) (grownCap w2 (bs l0).size 0 5) = a := ⟨_, rfl⟩
    obtain ⟨cp, hcp⟩ : ∃ a, grownCap w2 (bs l0).size 0 5 = a := ⟨_, rfl⟩
    have hasz : l0.length ≤ arr.size := by
      rw [← harr]; unfold bytesRow
      rw [Array.size_append, Array.size_map]
      omega
    have harr2 : ∀ j, j < l0.length → arr[j]? = some (.int .u8 ((l0.getD j 0).toNat : Int)) := by
      intro j hj
      have h1 := bytesRow_at (bs l0) (grownCap w2 (bs l0).size 0 5) j (by omega)
      rw [harr] at h1
      rw [h1, List.getD_eq_getElem?_getD, List.getElem?_eq_getElem hj]
      simp [bs]
    have hcap : l0.length ≤ cp := by have := grownCap_ge w2 (bs l0).size 0 5; rw [hcp, bs_size] at this; exact this
    rw [harr, hcp] at hcv
    obtain ⟨W3, hW3⟩ : ∃ W, w2.drew.alloc (.cells arr 5 (arr.size, arr.size + 1)) = W := ⟨_, rfl⟩
    have hbk : W3.heap[w2.heap.size]? = some (.cells arr 5 (arr.size, arr.size + 1)) := by rw [← hW3]; exact newest w2.drew _
    have hb3 : Below w2.heap.size w2 W3 := by rw [← hW3]; exact (Below.refl _ _).drew.alloc (Nat.le_refl _) _
    rw [hW3, bs_size] at hcv
    obtain ⟨B, hB⟩ : ∃ B, w2.heap.size = B := ⟨_, rfl⟩
    have HB3 := Lib.hid (HB2.out.trans (hb3.mono HB2.out.size))
    rw [hB] at hcv hbk
    have hBw : Hid (w.heap.size ≤ B) := Lib.hid (by rw [← hB]; exact HB2.out.size)
    have hcel : ∀ j, j < l0.length → W3.cell? ⟨B, j, none⟩ = some (.int .u8 ((l0.getD j 0).toNat : Int)) := fun j hj => by
      rw [World.cell?, hbk]
      simpa using harr2 j hj
    have hfro : ∀ j, j < l0.length → W3.frozen? ⟨B, j, none⟩ = false := fun j hj => frozen_mark hbk (Nat.lt_of_lt_of_le hj hasz)
    have HCEL := Lib.hid hcel
    have HFRO := Lib.hid hfro
    clear hds hasz harr2 harr hcp hW3 hbk hb3 hB hcel hfro hr hl0
    obtain ⟨i, hidx, hil⟩ : ∃ i : Nat, wrap64 ((IntKind.u64.wrap at_).tmod (l0.length : Int)) = (i : Int) ∧ i < l0.length := by
      have hw := wrap_u64 at_
      have h1 : (IntKind.u64.wrap at_).tmod (l0.length : Int) = (IntKind.u64.wrap at_) % (l0.length : Int) := Int.tmod_eq_emod_of_nonneg hw.1
      have h2 := Int.emod_nonneg (IntKind.u64.wrap at_) (show (l0.length : Int) ≠ 0 by omega)
      have h3 := Int.emod_lt_of_pos (IntKind.u64.wrap at_) (show (0 : Int) < (l0.length : Int) by omega)
      rw [h1]
      obtain ⟨z, hz⟩ : ∃ z, (IntKind.u64.wrap at_) % (l0.length : Int) = z := ⟨_, rfl⟩
      rw [hz] at h2 h3 ⊢
      refine ⟨z.toNat, ?_, by omega⟩
      unfold wrap64
      omega
    obtain ⟨c, hc⟩ : ∃ c, l0.getD i 0 = c := ⟨_, rfl⟩
    have ci := HCEL.out i hil
    have fi := HFRO.out i hil
    rw [hc] at ci
    obtain ⟨nb, hnb⟩ : ∃ nb : UInt8, IntKind.u8.wrap ((c.toNat : Int) + by_) = (nb.toNat : Int) := by
      refine ⟨UInt8.ofNat (((c.toNat : Int) + by_) % 256).toNat, ?_⟩
      rw [UInt8.toNat_ofNat']
      simp only [IntKind.wrap]
      have h1 := Int.emod_nonneg ((c.toNat : Int) + by_) (show (256 : Int) ≠ 0 by decide)
      have h2 := Int.emod_lt_of_pos ((c.toNat : Int) + by_) (show (0 : Int) < 256 by decide)
      show ((c.toNat : Int) + by_) % 256 = _
      omega
    have HIL := Lib.hid hil
    have hii : (i : Int) < (l0.length : Int) := by omega
    clear hc hil
    go_upto_if 42 with (fail)
    obtain ⟨l1, hl1⟩ : ∃ l, l0.set i nb = l := ⟨_, rfl⟩
    have hlen1 : l1.length = l0.length := by rw [← hl1, List.length_set]
    obtain ⟨W4, hW4⟩ : ∃ W, W3.setCell ⟨B, i, none⟩ (.int .u8 (nb.toNat : Int)) = W := ⟨_, rfl⟩
    have hb4 : Below w.heap.size w W4 := by rw [← hW4]; exact HB3.out.setCell (p := ⟨B, i, none⟩) hBw.out _
    have hce : ∀ j, j < l1.length → W4.cell? ⟨B, j, none⟩ = some (.int .u8 ((l1.getD j 0).toNat : Int)) := by
      intro j hj
      rw [← hW4, ← hl1, List.getD_eq_getElem?_getD]
      by_cases hji : j = i
      · subst hji
        rw [World.cell?_setCell_same _ _ _ ci, List.getElem?_set_self (by omega)]
        rfl
      · rw [World.cell?_setCell_other _ _ _ _ (by intro e; injection e with _ e _; exact hji e.symm), HCEL.out j (by omega), List.getElem?_set_ne (by omega), ← List.getD_eq_getElem?_getD]
    have HB4 := Lib.hid hb4
    have HCE := Lib.hid hce
    have hBs : B < W4.heap.size := World.block_lt_of_cell? W4 _ (hce 0 (by omega))
    rw [hW4]
    generalize htb : (cut.tmod 3 == 0) = tb
    have HL1 := Lib.hid hlen1
    have HBS := Lib.hid hBs
    clear ci fi hidx hii hl1 hW4 hb4 hce hnb hBs htb
    go_cut [11] from 41 (fun v wx => (∃ m, m ≤ l1.length ∧ v = .slice (some ⟨B, 0, none⟩) m cp) ∧ W4 = wx)
    case first =>
      cases tb with
      | true =>
        obtain ⟨m, hidx, hml⟩ : ∃ m : Nat, wrap64 ((IntKind.u64.wrap cut).tmod ((l0.length : Int) + 1)) = (m : Int) ∧ m ≤ l0.length := by
          have hw := wrap_u64 cut
          have h1 : (IntKind.u64.wrap cut).tmod ((l0.length : Int) + 1) = (IntKind.u64.wrap cut) % ((l0.length : Int) + 1) := Int.tmod_eq_emod_of_nonneg hw.1
          have h2 := Int.emod_nonneg (IntKind.u64.wrap cut) (show (l0.length : Int) + 1 ≠ 0 by omega)
          have h3 := Int.emod_lt_of_pos (IntKind.u64.wrap cut) (show (0 : Int) < (l0.length : Int) + 1 by omega)
          rw [h1]
          obtain ⟨z, hz⟩ : ∃ z, (IntKind.u64.wrap cut) % ((l0.length : Int) + 1) = z := ⟨_, rfl⟩
          rw [hz] at h2 h3 ⊢
          refine ⟨z.toNat, ?_, by omega⟩
          unfold wrap64
          omega
        have hmi : (m : Int) ≤ (cp : Int) := by omega
        have HML := Lib.hid hml
        go_wp2_with fail
        go_meet
        exact ⟨⟨m, by rw [HL1.out]; exact HML.out, rfl⟩, rfl⟩
      | false =>
        go_wp2_with fail
        go_meet
        exact ⟨⟨l0.length, by rw [HL1.out]; exact Nat.le_refl _, rfl⟩, rfl⟩
    case rest =>
      obtain ⟨⟨m, hm, rfl⟩, rfl⟩ := hcut
      obtain ⟨l2, hl2⟩ : ∃ l, l1.take m = l := ⟨_, rfl⟩
      have hl2l : l2.length = m := by rw [← hl2, List.length_take]; omega
      have hl2s : l2.length ≤ 1073741824 := by have := HL1.out; omega
      have HCB := Lib.hid (show ∀ W, Below W4.heap.size W4 W → (convert 59 9 (.slice (some ⟨B, 0, none⟩) m cp)).run Tryz.prog W = .ok (.string (bs l2)) W from fun W hW => by
        have h := run_convert_bytes_back (P := Tryz.prog) W 59 9 5 ⟨B, 0, none⟩ cp l2 Tryz.underlying59 Tryz.underlying5 Tryz.underlying9 (fun j hj => by
          have e : (Addr.add ⟨B, 0, none⟩ j) = ⟨B, j, none⟩ := by unfold Addr.add; split <;> simp_all
          rw [e, hW.cell (p := ⟨B, j, none⟩) HBS.out, HCE.out j (by omega)]
          have : l1.getD j 0 = l2[j] := by
            have h1 : l2[j]? = l1[j]? := by rw [← hl2, List.getElem?_take]; rw [if_pos (by omega)]
            rw [List.getD_eq_getElem?_getD, ← h1, List.getElem?_eq_getElem hj]
            rfl
          rw [this])
        rw [hl2l] at h
        exact h)
      obtain ⟨R, hR⟩ : ∃ R, lineP V0 7 l2 = R := ⟨_, rfl⟩
      have hsm := lineP_small V0 7 l2
      have M14 := Lib.hid (fun w2 (h : Below w.heap.size w w2) => parse14 7 l2 hl2s w2 (HV.out.2.later h))
      have M15 := Lib.hid (fun w2 (h : Below w.heap.size w w2) => parse15 l2 hl2s 7 w2 (HV.out.1.later h))
      rw [hR] at M14 M15 hsm
      have HSM := Lib.hid hsm
      have hcv4 := HCB.out W4 (Below.refl _ _)
      clear hR hsm hl2 hl2s hcv
      go_wp2_with fail
      refine (M14.out _ HB4.out).mono ?_
      intro e w5 hp
      obtain ⟨hb5, nm, a, n, c', fa, m', fc, t, rfl, hri⟩ := rowPost_is hp
      have HB5 := Lib.hid (HB4.out.trans (hb5.mono HB4.out.size))
      have HB45 := Lib.hid hb5
      have HRI := Lib.hid hri
      clear hp hb5 hri hcv4
      go_upto_region 11 with (fail)
      refine wp_gen (fun wx => Below w5.heap.size w5 wx ∧ wx.heap[w5.heap.size]? = some (.cells #[.string nm, .slice a n c', .slice fa m' fc, .int .i64 t] 27 (0, 0))) ⟨(Below.refl _ _).alloc (Nat.le_refl _) _, newest _ _⟩ ?_
      rintro w6 ⟨hb6, hk6⟩
      have HB6 := Lib.hid (HB5.out.trans (hb6.mono HB5.out.size))
      have HRI6 := Lib.hid (HRI.out.later hb6)
      have HK6 := Lib.hid hk6
      have hcv6 := HCB.out w6 (HB45.out.trans (hb6.mono HB45.out.size))
      clear hb6 hk6
      go_wp2_with fail
      refine (M15.out _ HB6.out).mono ?_
      intro e w7 hp
      obtain ⟨hb7, nm', a', n', c'', fa', m'', fc', t', rfl, hri⟩ := rowPost_is hp
      have HB7 := Lib.hid (HB6.out.trans (hb7.mono HB6.out.size))
      have HRI7 := Lib.hid (HRI6.out.later hb7)
      have HRI7' := Lib.hid hri
      have hk7 := (hb7.block _ (lt_of_block HK6.out)).trans HK6.out
      have HK7 := Lib.hid hk7
      clear hp hb7 hri hk7 hcv6
      go_upto_region 12 with (fail)
      refine wp_gen (fun wx => Below w7.heap.size w7 wx ∧ wx.heap[w7.heap.size]? = some (.cells #[.string nm', .slice a' n' c'', .slice fa' m'' fc', .int .i64 t'] 27 (0, 0))) ⟨(Below.refl _ _).alloc (Nat.le_refl _) _, newest _ _⟩ ?_
      rintro w8 ⟨hb8, hk8⟩
      have hk8' := (hb8.block _ (lt_of_block HK7.out)).trans HK7.out
      have d0 : w8.cell? ⟨w5.heap.size, 0, none⟩ = some (.string nm) := Lib.cell_of_heap hk8' 0
      have d1 : w8.cell? ⟨w5.heap.size, 1, none⟩ = some (.slice a n c') := Lib.cell_of_heap hk8' 1
      have d2 : w8.cell? ⟨w5.heap.size, 2, none⟩ = some (.slice fa m' fc) := Lib.cell_of_heap hk8' 2
      have d3 : w8.cell? ⟨w5.heap.size, 3, none⟩ = some (.int .i64 t) := Lib.cell_of_heap hk8' 3
      have e0 : w8.cell? ⟨w7.heap.size, 0, none⟩ = some (.string nm') := Lib.cell_of_heap hk8 0
      have e1 : w8.cell? ⟨w7.heap.size, 1, none⟩ = some (.slice a' n' c'') := Lib.cell_of_heap hk8 1
      have e2 : w8.cell? ⟨w7.heap.size, 2, none⟩ = some (.slice fa' m'' fc') := Lib.cell_of_heap hk8 2
      have e3 : w8.cell? ⟨w7.heap.size, 3, none⟩ = some (.int .i64 t') := Lib.cell_of_heap hk8 3
      have HB8 := Lib.hid (HB7.out.trans (hb8.mono HB7.out.size))
      have MS := Lib.hid (RowIs.same c'' fc' c' fc (HRI7'.out.later hb8) (HRI7.out.later hb8) HSM.out)
      clear hb8 hk8 hk8'
      go_wp2_with fail
      refine MS.out.mono ?_
      rintro e w9 ⟨rfl, hb9⟩
      have HB9 := Lib.hid (HB8.out.trans (hb9.mono HB8.out.size))
      clear hb9
      go_wp2_with fail
      go_ret
      exact ⟨rfl, HB9.out⟩
end Go.Proofs.YtagiddbfhlokcaaGreatDoor.Ser
/- A row that came in is read. No condition. -/
namespace Go.Proofs.YtagiddbfhlokcaaGreatDoor.Ser
open Go.RowKit Go.Sort Go.Deep Go.WideShapes Go.ChangeShapes Go.Joins
set_option maxRecDepth 100000
theorem cells82 : Tryz.prog.cellsOf 82 = 2 := by kernel_rfl
theorem cells24 : Tryz.prog.cellsOf 24 = 2 := by kernel_rfl
theorem cells9 : Tryz.prog.cellsOf 9 = 1 := by kernel_rfl
theorem cells22 : Tryz.prog.cellsOf 22 = 1 := by kernel_rfl
theorem cells25 : Tryz.prog.cellsOf 25 = 1 := by kernel_rfl
theorem cells2 : Tryz.prog.cellsOf 2 = 1 := by kernel_rfl
theorem cells3 : Tryz.prog.cellsOf 3 = 1 := by kernel_rfl
theorem cells51 : Tryz.prog.cellsOf 51 = 1 := by kernel_rfl
theorem cells53 : Tryz.prog.cellsOf 53 = 3 := by kernel_rfl
theorem cells64 : Tryz.prog.cellsOf 64 = 4 := by kernel_rfl
theorem cells27 : Tryz.prog.cellsOf 27 = 4 := by kernel_rfl
theorem wf_i64 {z : Int} (h : (Lit.int .i64 z).wf = true) : -9223372036854775808 ≤ z ∧ z ≤ 9223372036854775807 := by
  simpa [Lit.wf, IntKind.min, IntKind.max, IntKind.signed, IntKind.bits] using h
theorem wf_u64 {z : Int} (h : (Lit.int .u64 z).wf = true) : 0 ≤ z ∧ z < 18446744073709551616 := by
  have : 0 ≤ z ∧ z ≤ 18446744073709551615 := by simpa [Lit.wf, IntKind.min, IntKind.max, IntKind.signed, IntKind.bits] using h
  omega
theorem tags_open {H : Type} {enc : TypeId × Value → H} {W : World} {fuel : Nat} {a : Option Addr} {n cap : Nat} {x : DataW H × List MemPlace} (hf : DataW.trod enc Tryz.prog W 0 (fun _ => true) true fuel 22 [.slice a n cap] = some x) :
    ∃ kf vf, n < 2 ^ 63 ∧ TagsAt W a n kf vf ∧ ∀ i, (kf i).size ≤ maxLen ∧ (vf i).size ≤ maxLen := by
  rcases open_slice Tryz.underlying22 hf with ⟨hcs, _⟩ | ⟨b, l, c, m, k, D, Pl, hcs, _, hl, hm, hmm, hd, hx⟩
  · simp at hcs
    obtain ⟨rfl, rfl, rfl⟩ := hcs
    exact ⟨fun _ => ⟨#[]⟩, fun _ => ⟨#[]⟩, by omega, fun i hi => absurd hi (by omega), fun i => ⟨Nat.zero_le _, Nat.zero_le _⟩⟩
  · simp at hcs
    obtain ⟨rfl, rfl, rfl⟩ := hcs
    simp only [if_true] at hmm
    subst hmm
    have hy : ∀ i, i < m → ∃ z : ByteArray × ByteArray, (z.1.size ≤ maxLen ∧ z.2.size ≤ maxLen) ∧ W.cell? (b.add (i * 2)) = some (.string z.1) ∧ W.cell? (b.add (i * 2 + 1)) = some (.string z.2) := by
      intro i hi
      obtain ⟨cs', h1, h2⟩ := hx i hi
      rw [cells82] at h1
      obtain ⟨_, hcl, hcell⟩ := World.cells?_some h1
      obtain ⟨y0, y1, k, _, _, e0, e1⟩ := trod_struct2 Tryz.underlying82 h2
      simp only [cells9] at e0 e1
      obtain ⟨z, g1, _, g3⟩ := DataW.trod_string Tryz.underlying9 e0
      obtain ⟨t, g4, _, g6⟩ := DataW.trod_string Tryz.underlying9 e1
      match cs', hcl with
      | [c0, c1], _ =>
        simp at g1 g4
        subst g1 g4
        refine ⟨(z, t), ⟨g3, g6⟩, ?_, ?_⟩
        · have := hcell 0 (by omega); rw [add_add] at this; simpa using this
        · have := hcell 1 (by omega); rw [add_add] at this; simpa using this
    haveI : Inhabited (ByteArray × ByteArray) := ⟨(⟨#[]⟩, ⟨#[]⟩)⟩
    obtain ⟨f, hf'⟩ := choose_lt hy
    unfold maxLen at hm
    refine ⟨fun i => if i < m then (f i).1 else ⟨#[]⟩, fun i => if i < m then (f i).2 else ⟨#[]⟩, by omega, ?_, ?_⟩
    · intro i hi
      obtain ⟨_, h1, h2⟩ := hf' i (by omega)
      have hsp : b.spot = none := World.cell?_spot (by have := (hf' 0 (by omega)).2.1; simpa [Addr.add] using this)
      obtain ⟨bb, off, spot⟩ := b
      simp only at hsp
      subst hsp
      have hb := World.block_lt_of_cell? W _ h1
      refine ⟨bb, off, rfl, ?_, ?_, ?_⟩
      · unfold Addr.add at hb; split at hb <;> exact hb
      · dsimp only; rw [if_pos (by omega), ← h1]
        congr 1
        unfold Addr.add
        split <;> simp_all
      · dsimp only; rw [if_pos (by omega), ← h2]
        congr 1
    · intro i
      dsimp only
      split
      · rename_i h; exact (hf' i h).1
      · exact ⟨Nat.zero_le _, Nat.zero_le _⟩
theorem fields_open {H : Type} {enc : TypeId × Value → H} {W : World} {fuel : Nat} {a : Option Addr} {n cap : Nat} {x : DataW H × List MemPlace} (hf : DataW.trod enc Tryz.prog W 0 (fun _ => true) true fuel 25 [.slice a n cap] = some x) :
    ∃ L : List Fd, L.length = n ∧ n < 2 ^ 63 ∧ FieldsAt W a L ∧ ∀ p ∈ L, FdOk p := by
  rcases open_slice Tryz.underlying25 hf with ⟨hcs, _⟩ | ⟨b, l, c, m, k, D, Pl, hcs, _, hl, hm, hmm, hd, hx⟩
  · simp at hcs
    obtain ⟨rfl, rfl, rfl⟩ := hcs
    exact ⟨[], rfl, by decide, fun i hi => absurd hi (Nat.not_lt_zero i), fun p hp => by cases hp⟩
  · simp at hcs
    obtain ⟨rfl, rfl, rfl⟩ := hcs
    simp only [if_true] at hmm
    subst hmm
    have hy : ∀ i, i < m → ∃ z : Fd, FdOk z ∧ W.cell? (b.add (i * 4)) = some (.string z.1) ∧ W.cell? (b.add (i * 4 + 1)) = some (.int .i64 z.2.1) ∧ W.cell? (b.add (i * 4 + 2)) = some (.int .u64 z.2.2.1) ∧ W.cell? (b.add (i * 4 + 3)) = some (.string z.2.2.2) := by
      intro i hi
      obtain ⟨cs', h1, h2⟩ := hx i hi
      rw [cells64] at h1
      obtain ⟨_, hcl, hcell⟩ := World.cells?_some h1
      obtain ⟨y0, y1, k, _, _, e0, e1⟩ := trod_struct2 Tryz.underlying64 h2
      match cs', hcl with
      | [c0, c1, c2, c3], _ =>
        have e0 : DataW.trod enc Tryz.prog W 0 (fun _ => true) true k 9 [c0] = some y0 := by simpa [cells9] using e0
        have e1 : DataW.trod enc Tryz.prog W 0 (fun _ => true) true k 53 [c1, c2, c3] = some y1 := by simpa [cells53] using e1
        obtain ⟨xs', k', _, _, _, hlen', hg'⟩ := DataW.trod_struct Tryz.underlying53 e1
        match xs', hlen' with
        | [u0, u1, u2], _ =>
          have f0 : DataW.trod enc Tryz.prog W 0 (fun _ => true) true k' 3 [c1] = some u0 := by simpa [cells3] using hg' 0 _ rfl
          have f1 : DataW.trod enc Tryz.prog W 0 (fun _ => true) true k' 51 [c2] = some u1 := by simpa [cells3, cells51] using hg' 1 _ rfl
          have f2 : DataW.trod enc Tryz.prog W 0 (fun _ => true) true k' 9 [c3] = some u2 := by simpa [cells3, cells51, cells9] using hg' 2 _ rfl
          obtain ⟨z0, g0, _, w0⟩ := DataW.trod_string Tryz.underlying9 e0
          obtain ⟨z1, g1, _, w1⟩ := DataW.trod_int Tryz.underlying3 f0
          obtain ⟨z2, g2, _, w2⟩ := DataW.trod_int Tryz.underlying51 f1
          obtain ⟨z3, g3, _, w3⟩ := DataW.trod_string Tryz.underlying9 f2
          simp at g0 g1 g2 g3
          subst g0 g1 g2 g3
          refine ⟨(z0, z1, z2, z3), ⟨w0, wf_u64 w2⟩, ?_, ?_, ?_, ?_⟩
          · have := hcell 0 (by omega); rw [add_add] at this; simpa using this
          · have := hcell 1 (by omega); rw [add_add] at this; simpa using this
          · have := hcell 2 (by omega); rw [add_add] at this; simpa using this
          · have := hcell 3 (by omega); rw [add_add] at this; simpa using this
    haveI : Inhabited Fd := ⟨(⟨#[]⟩, 0, 0, ⟨#[]⟩)⟩
    obtain ⟨f, hf'⟩ := choose_lt hy
    unfold maxLen at hm
    refine ⟨(List.range n).map f, (by rw [List.length_map, List.length_range]), (by omega), fun i hi => ?_, fun p hp => ?_⟩
    · have hi : i < n := by simpa using hi
      obtain ⟨_, h1, h2, h3, h4⟩ := hf' i (by omega)
      have hsp : b.spot = none := World.cell?_spot (by have := (hf' 0 (by omega)).2.1; simpa [Addr.add] using this)
      obtain ⟨bb, off, spot⟩ := b
      simp only at hsp
      subst hsp
      have hb := World.block_lt_of_cell? W _ h1
      have e : fE ((List.range n).map f) i = f i := by
        unfold fE
        rw [List.getD_eq_getElem?_getD, List.getElem?_map, List.getElem?_range hi]
        rfl
      rw [e]
      refine ⟨bb, off, rfl, ?_, ?_, ?_, ?_, ?_⟩
      · unfold Addr.add at hb; split at hb <;> exact hb
      · rw [← h1]
        congr 1
        unfold Addr.add
        split <;> simp_all
      · rw [← h2]; congr 1
      · rw [← h3]; congr 1
      · rw [← h4]; congr 1
    · obtain ⟨i, hi, rfl⟩ := List.mem_map.1 hp
      exact (hf' i (by have := List.mem_range.1 hi; omega)).1
theorem row_open {H : Type} {enc : TypeId × Value → H} {W : World} {base : Nat} {v : Value} {d : DataW H} {p : List MemPlace} (h : DataW.Trod enc Tryz.prog W 0 (fun _ => true) true 27 v d p) (o : Value.okWide Tryz.prog W .any base 27 v) :
    ∃ name a fa n cap fcap tm kf vf L, v = .agg #[.string name, .slice a n cap, .slice fa (L : List Fd).length fcap, .int .i64 tm] ∧ (-9223372036854775808 ≤ tm ∧ tm ≤ 9223372036854775807) ∧ n < 2 ^ 63 ∧ L.length < 2 ^ 63 ∧ name.size ≤ maxLen ∧ (∀ i, (kf i).size ≤ maxLen ∧ (vf i).size ≤ maxLen) ∧ (∀ p ∈ L, FdOk p) ∧ TagsAt W a n kf vf ∧ FieldsAt W fa L := by
  obtain ⟨cs, rfl, hsz⟩ := okWide_struct Tryz.underlying27 o
  obtain ⟨c0, c1, c2, c3, rfl⟩ := array4 (hsz.trans cells27)
  obtain ⟨fuel, hf⟩ := h
  obtain ⟨y0, y1, y2, k, _, _, e0, e1, e2⟩ := trod_struct3 Tryz.underlying27 hf
  have e0 : DataW.trod enc Tryz.prog W 0 (fun _ => true) true k 24 [c0, c1] = some y0 := by simpa [Value.cells, cells24] using e0
  have e1 : DataW.trod enc Tryz.prog W 0 (fun _ => true) true k 25 [c2] = some y1 := by simpa [Value.cells, cells25] using e1
  have e2 : DataW.trod enc Tryz.prog W 0 (fun _ => true) true k 2 [c3] = some y2 := by simpa [Value.cells, cells2] using e2
  obtain ⟨u0, u1, k', _, _, f0, f1⟩ := trod_struct2 Tryz.underlying24 e0
  have f0 : DataW.trod enc Tryz.prog W 0 (fun _ => true) true k' 9 [c0] = some u0 := by simpa [cells9] using f0
  have f1 : DataW.trod enc Tryz.prog W 0 (fun _ => true) true k' 22 [c1] = some u1 := by simpa [cells22] using f1
  obtain ⟨name, g0, _, w0⟩ := DataW.trod_string Tryz.underlying9 f0
  obtain ⟨a, n, cap, g1⟩ := slice_form Tryz.underlying22 f1
  obtain ⟨fa, m, fcap, g2⟩ := slice_form Tryz.underlying25 e1
  obtain ⟨tm, g3, _, w3⟩ := DataW.trod_int Tryz.underlying2 e2
  simp at g0 g1 g2 g3
  subst g0 g1 g2 g3
  obtain ⟨kf, vf, hn, ht, hs⟩ := tags_open f1
  obtain ⟨L, rfl, hm, hfa, hok⟩ := fields_open e1
  exact ⟨name, a, fa, n, cap, fcap, tm, kf, vf, L, rfl, wf_i64 w3, hn, hm, w0, hs, hok, ht, hfa⟩
end Go.Proofs.YtagiddbfhlokcaaGreatDoor.Ser
