/- Several texts of this proof, laid together. Conditions: as each says. -/
import Derived.Test.YtagiddbfhlokcaaGreatDoorMAV
import Derived.Lib.RabinKarpLaws
import Derived.Test.YtagiddbfhlokcaaGreatDoorMAC
import Derived.Lib.LaidTab
import Derived.Test.YtagiddbfhlokcaaGreatDoorMAK
import Derived.Test.YtagiddbfhlokcaaGreatDoorMAD
import Derived.Lib.ItoaMem
import Derived.Maps.AppendAt
import Derived.Deep.CutRange
/- Printing a float: shortFloat walked. Condition: the table of powers. -/
namespace Go.Proofs.YtagiddbfhlokcaaGreatDoor.Ff
open Go.RowKit
set_option maxRecDepth 100000
theorem w64_id {x : Int} (h1 : -1000 ≤ x) (h2 : x ≤ 1000) : wrap64 x = x := by
  unfold wrap64
  omega
theorem w2y (y : Nat) (hy : y ≤ 62) : IntKind.u64.wrap ((2 : Int) ^ y) = 2 ^ y := by
  have hp := pow_le62 y hy
  obtain ⟨q, hq⟩ : ∃ q, 2 ^ y = q := ⟨_, rfl⟩
  rw [hq] at hp
  have e2 : (2 : Int) ^ y = (q : Int) := by rw [← hq]; exact (Int.natCast_pow 2 y).symm
  rw [e2, w64]
  omega
theorem wdiv (m Z : Nat) (hm2 : m < 18446744073709551616) (hz11 : 11 ≤ Z) : wrap64 ((m : Int) / 2 ^ Z) = (m : Int) / 2 ^ Z := by
  have hp : 2048 ≤ 2 ^ Z := Nat.pow_le_pow_right (show 0 < 2 by decide) hz11
  obtain ⟨q, hq⟩ : ∃ q, 2 ^ Z = q := ⟨_, rfl⟩
  rw [hq] at hp
  have e2 : (2 : Int) ^ Z = (q : Int) := by rw [← hq]; exact (Int.natCast_pow 2 Z).symm
  have hlt : m / q < 9007199254740993 := Nat.lt_of_le_of_lt (Nat.div_le_div_left hp (by decide)) (by omega)
  rw [e2]
  have e3 : (m : Int) / (q : Int) = ((m / q : Nat) : Int) := rfl
  rw [e3]
  obtain ⟨d, hd⟩ : ∃ d, m / q = d := ⟨_, rfl⟩
  rw [hd] at hlt ⊢
  unfold wrap64
  omega
set_option maxHeartbeats 4000000 in
theorem short229 (T : Nat → Nat × Nat) (hT : TabLt T) (m : Nat) (hm : 9223372036854775808 ≤ m) (hm2 : m < 18446744073709551616) (e : Int) (he : -1137 ≤ e) (he2 : e ≤ 1000) (w : World) (hw : Pow T w) (h15 : 15 < w.heap.size) :
    Calls Tryz.prog 229 #[.int .u64 (m : Int), .int .i64 e] w fun x w' => x = .returned (.tuple #[.int .u64 ((shortF (tabF T) m e).1 : Int), .int .i64 (shortF (tabF T) m e).2]) ∧ Below w.heap.size w w' := by
  obtain ⟨s0, s1, p0, p1, z0, z1⟩ := sf_bounds m e he he2
  obtain ⟨R, hR⟩ : ∃ R, shortF (tabF T) m e = R := ⟨_, rfl⟩
  rw [hR]
  have HR := Lib.hid hR
  obtain ⟨P, hP⟩ : ∃ P, sfP m e = P := ⟨_, rfl⟩
  obtain ⟨LO, hLO⟩ : ∃ x, sfLo m e = x := ⟨_, rfl⟩
  obtain ⟨HI, hHI⟩ : ∃ x, sfHi m e = x := ⟨_, rfl⟩
  obtain ⟨OD, hOD⟩ : ∃ x, sfOdd m e = x := ⟨_, rfl⟩
  obtain ⟨Z, hZ⟩ : ∃ x, sfZ e = x := ⟨_, rfl⟩
  have HP := Lib.hid hP
  have HLO := Lib.hid hLO
  have HHI := Lib.hid hHI
  have HOD := Lib.hid hOD
  have HZ := Lib.hid hZ
  have HT := Lib.hid hT
  have HW := Lib.hid hw
  have HSS0 := Lib.hid s0
  have HSS1 := Lib.hid s1
  rw [hP] at p0 p1
  rw [hZ] at z0 z1
  clear hR hP hLO hHI hOD hZ hT hw s0 s1
  go_enter Tryz.func229, Tryz.ntmps229
  go_upto_region 12 with (fail)
  obtain ⟨sk, hsk⟩ : ∃ b, sfSk m e = b := ⟨_, rfl⟩
  have HSK := Lib.hid hsk
  go_cut [28] from 22 to 28 (fun b w' => b = .bool sk ∧ w = w')
  case first =>
    by_cases h1 : m = 9223372036854775808
    · have d1 : decide (-1085 < e) = sk := by rw [← hsk]; unfold sfSk; simp [h1]
      have e1 : ((m : Int) == 9223372036854775808) = true := by rw [h1]; rfl
      clear hsk h1
      cases sk with
      | true =>
        have d2 : -1085 < e := of_decide_eq_true d1
        clear d1
        go_wp2_with fail
        go_meet
        exact ⟨rfl, rfl⟩
      | false =>
        have d2 : ¬ -1085 < e := of_decide_eq_false d1
        clear d1
        go_wp2_with fail
        go_meet
        exact ⟨rfl, rfl⟩
    · have e1 : ((m : Int) == 9223372036854775808) = false := by rw [beq_eq_false_iff_ne]; omega
      obtain rfl : false = sk := by rw [← hsk]; unfold sfSk; simp [h1]
      clear hsk h1
      go_wp2_with fail
      go_meet
      exact ⟨rfl, rfl⟩
  case rest =>
    obtain ⟨rfl, rfl⟩ := hcut
    clear hsk
    go_upto_if 28 with (fail)
    go_cut [5, 8, 9, 10] from 11 to 96 (fun p lo hi od w' => p = .int .i64 P ∧ lo = .int .u64 (LO : Int) ∧ hi = .int .u64 (HI : Int) ∧ od = .int .i64 (OD : Int) ∧ w = w')
    case first =>
      have b1 : ∀ z : Nat, z < 9007199254740992 → bits BinOp.and IntKind.i64 (z : Int) 1 = ((z % 2 : Nat) : Int) := fun z hz => and_one z (by omega)
      cases sk with
      | true =>
        have hme : m = 9223372036854775808 ∧ -1085 < e := by
          have := HSK.out
          unfold sfSk at this
          simpa [Bool.and_eq_true, decide_eq_true_eq] using this
        have hZ11 : sfZ e = 11 := by unfold sfZ; rw [if_pos (by omega)]
        have HPP : Hid (-skw (e + 11) = P) := Lib.hid (by rw [← HP.out]; unfold sfP; rw [HSK.out]; rfl)
        have HLL : Hid ((m : Int) - 512 = (LO : Int)) := Lib.hid (by rw [← HLO.out]; unfold sfLo; rw [HSK.out, if_pos rfl]; omega)
        have HHH : Hid (IntKind.u64.wrap ((m : Int) + 1024) = (HI : Int)) := Lib.hid (by rw [← HHI.out]; unfold sfHi; rw [hZ11, w64]; omega)
        have HOO : Hid (bits BinOp.and IntKind.i64 ((m : Int) / 2048) 1 = (OD : Int)) := Lib.hid (by
          rw [← HOD.out]; unfold sfOdd; rw [hZ11]
          have := b1 (m / 2048) (by omega)
          rw [show ((m / 2048 : Nat) : Int) = (m : Int) / 2048 by omega] at this
          exact this)
        have hoo := HOO.out
        have hhh := HHH.out
        have M251 := Lib.hid (fun w => skw_251 (e + 11) (by omega) (by omega) w)
        clear b1 hme hZ11
        go_wp2_with fail
        refine (M251.out _).mono ?_
        rintro x w' ⟨rfl, rfl⟩
        go_wp2_with fail
        go_meet
        refine ⟨?_, congrArg _ HLL.out, rfl, rfl, rfl⟩
        rw [HPP.out]
        exact congrArg _ (w64_id (by omega) (by omega))
      | false =>
        by_cases hee : -1085 ≤ e
        · have hZ11 : sfZ e = 11 := by unfold sfZ; rw [if_pos hee]
          have HPP : Hid (-l10 (e + 11) = P) := Lib.hid (by rw [← HP.out]; unfold sfP; rw [HSK.out, hZ11]; rfl)
          have HLL : Hid ((m : Int) - 1024 = (LO : Int)) := Lib.hid (by rw [← HLO.out]; unfold sfLo; rw [HSK.out, hZ11]; simp; omega)
          have HHH : Hid (IntKind.u64.wrap ((m : Int) + 1024) = (HI : Int)) := Lib.hid (by rw [← HHI.out]; unfold sfHi; rw [hZ11, w64]; omega)
          have HOO : Hid (bits BinOp.and IntKind.i64 ((m : Int) / 2048) 1 = (OD : Int)) := Lib.hid (by
            rw [← HOD.out]; unfold sfOdd; rw [hZ11]
            have := b1 (m / 2048) (by omega)
            rw [show ((m / 2048 : Nat) : Int) = (m : Int) / 2048 by omega] at this
            exact this)
          have hoo := HOO.out
          have hhh := HHH.out
          have M159 := Lib.hid (fun w => l10_159 (e + 11) (by omega) (by omega) w)
          clear b1 hZ11
          go_wp2_with fail
          refine (M159.out _).mono ?_
          rintro x w' ⟨rfl, rfl⟩
          go_wp2_with fail
          go_meet
          refine ⟨?_, congrArg _ HLL.out, rfl, rfl, rfl⟩
          rw [HPP.out]
          exact congrArg _ (w64_id (by omega) (by omega))
        · have hZe : (Z : Int) = 11 + (-1085 - e) := by rw [← HZ.out]; unfold sfZ; rw [if_neg hee]; omega
          obtain ⟨y, hy⟩ : ∃ y : Nat, Z = y + 1 := ⟨Z - 1, by omega⟩
          have hZe2 : e = -1074 - (Z : Int) := by omega
          have HPP : Hid (-l10 (-1074) = P) := Lib.hid (by rw [← HP.out]; exact (sf_p m e Z HSK.out HZ.out (by omega)).symm)
          have HLL : Hid ((m : Int) - 2 ^ y = (LO : Int)) := Lib.hid (by rw [← HLO.out]; exact sf_lo m e y hm HSK.out (by rw [HZ.out, hy]) (by omega))
          have HHH : Hid (IntKind.u64.wrap ((m : Int) + 2 ^ y) = (HI : Int)) := Lib.hid (by rw [← HHI.out]; exact sf_hi m e y (by rw [HZ.out, hy]))
          have HOO : Hid (bits BinOp.and IntKind.i64 ((m : Int) / 2 ^ Z) 1 = (OD : Int)) := Lib.hid (by rw [← HOD.out]; exact sf_od m e Z hm2 HZ.out z0)
          have hoo := HOO.out
          have hhh := HHH.out
          have hz1 : (Z : Int) - 1 = (y : Int) := by omega
          have M159 := Lib.hid (fun w => l10_159 (-1074) (by omega) (by omega) w)
          have HZE := Lib.hid hZe
          have hza : 11 + (-1085 - e) = (Z : Int) := hZe.symm
          have heZ : e + (Z : Int) = -1074 := by omega
          clear b1 hZe hZe2 hy
          go_wp2_with fail
          refine (M159.out _).mono ?_
          rintro x w' ⟨rfl, rfl⟩
          go_wp2_with fail
          go_meet
          refine ⟨?_, congrArg _ ?_, congrArg _ ?_, congrArg _ ?_, rfl⟩
          · rw [HPP.out]
            exact congrArg _ (w64_id (by omega) (by omega))
          · rw [w2y y (by omega), HLL.out, w64]
            have := HLL.out
            have h2 := pow_le62 y (by omega)
            have h3 : (0 : Int) ≤ 2 ^ y := Int.le_of_lt (Int.pow_pos (by decide))
            omega
          · rw [w2y y (by omega)]; exact HHH.out
          · rw [wdiv m Z hm2 z0]; exact HOO.out
    case rest =>
      obtain ⟨rfl, rfl, rfl, rfl, rfl⟩ := hcut
      obtain ⟨k, hk, hk2⟩ : ∃ k : Nat, P = (k : Int) - 348 ∧ k < 696 := ⟨(P + 348).toNat, by omega, by omega⟩
      obtain ⟨LP, hLP⟩ : ∃ x, PF.lpow P = x := ⟨_, rfl⟩
      have hLP1 : -2000 ≤ LP ∧ LP ≤ 2000 := by rw [← hLP]; unfold PF.lpow; omega
      obtain ⟨s, hs⟩ : ∃ s : Nat, sfS m e = s := ⟨(sfS m e).toNat, by have := HSS0.out; omega⟩
      have hs64 : s < 64 := by have := HSS1.out; omega
      have hS2 : -(e + LP + 3) = (s : Int) := by rw [← hs]; unfold sfS; rw [HP.out, hLP]
      have hpre : Pre (w.alloc (.cells #[.int .u64 0, .int .u64 0, .int .i64 0] 306)) w.heap.size (.int .u64 0) (.int .u64 0) (.int .i64 0) := heap_alloc_new w _
      have hpow : Pow T (w.alloc (.cells #[.int .u64 0, .int .u64 0, .int .i64 0] 306)) := ⟨fun k hk => (((Below.refl _ _).alloc (Nat.le_refl _) _).cell (p := ⟨15, k * 2, none⟩) h15).trans (HW.out.c0 k hk), fun k hk => (((Below.refl _ _).alloc (Nat.le_refl _) _).cell (p := ⟨15, k * 2 + 1, none⟩) h15).trans (HW.out.c1 k hk)⟩
      have m241 := prescale241 T k hk2 e LP (by omega) (by omega) (by omega) (by omega) _ _ _ _ _ hpre hpow h15
      rw [hS2, ← hk] at m241
      have M241 := Lib.hid m241
      have m240 := fun w => lpow_walk P (by omega) (by omega) w
      rw [hLP] at m240
      have M240 := Lib.hid m240
      have hT1 := HT.out k
      have hlo : LO < 18446744073709551616 := by rw [← HLO.out]; unfold sfLo; split <;> exact Nat.lt_of_le_of_lt (Nat.sub_le _ _) hm2
      have hhi : HI < 18446744073709551616 := by rw [← HHI.out]; exact Nat.mod_lt _ (by decide)
      have hod : OD < 2 := by rw [← HOD.out]; exact Nat.mod_lt _ (by decide)
      have m242 := fun x hx w' h => uscale242 x (T k).1 (T k).2 s hx hT1.1 hT1.2 hs64 w' w.heap.size h
      have M242 := Lib.hid m242
      have HK := Lib.hid hk
      have HS := Lib.hid hs
      obtain ⟨U1, hU1⟩ : ∃ u, PF.usc LO ((T k).1, (T k).2) s = u := ⟨_, rfl⟩
      obtain ⟨U2, hU2⟩ : ∃ u, PF.usc HI ((T k).1, (T k).2) s = u := ⟨_, rfl⟩
      obtain ⟨U3, hU3⟩ : ∃ u, PF.usc m ((T k).1, (T k).2) s = u := ⟨_, rfl⟩
      obtain ⟨DN, hDN⟩ : ∃ u, ceilU (nudP U1 OD) = u := ⟨_, rfl⟩
      obtain ⟨DX, hDX⟩ : ∃ u, floorU (nudM U2 OD) = u := ⟨_, rfl⟩
      have lU3 : U3 < 18446744073709551616 := by rw [← hU3]; exact usc_lt64 m s _ hm2 hT1.1
      have lDN : DN < 4611686018427387904 := by rw [← hDN]; unfold ceilU; omega
      have lDX : DX < 4611686018427387904 := by rw [← hDX]; unfold floorU nudM; omega
      have HU1 := Lib.hid hU1
      have HU2 := Lib.hid hU2
      have HU3 := Lib.hid hU3
      have HDN := Lib.hid hDN
      have HDX := Lib.hid hDX
      clear hpre hpow m241 m240 m242 hS2 hk hs hU1 hU2 hU3 hDN hDX hT1
      go_wp2_with fail
      refine (M240.out _).mono ?_
      rintro x w' ⟨rfl, rfl⟩
      go_wp2_with fail
      refine M241.out.mono ?_
      rintro x w1 ⟨rfl, h1, hb1⟩
      have HP1 := Lib.hid h1
      have HB1 := Lib.hid (((Below.refl w.heap.size w).alloc (Nat.le_refl _) _).trans hb1)
      clear h1 hb1
      go_wp2_with fail
      refine (M242.out LO hlo w1 HP1.out).mono ?_
      rintro x w2 ⟨rfl, n2, rfl⟩
      rw [HU1.out]
      go_wp2_with fail
      refine (nudP_252 U1 OD hod _).mono ?_
      rintro x w' ⟨rfl, rfl⟩
      go_wp2_with fail
      refine (ceil_253 _ _).mono ?_
      rintro x w' ⟨rfl, rfl⟩
      rw [HDN.out]
      go_wp2_with fail
      refine (M242.out HI hhi (w1.drewN n2) HP1.out).mono ?_
      rintro x w2 ⟨rfl, n3, rfl⟩
      rw [HU2.out]
      go_wp2_with fail
      refine (nudM_252 U2 OD hod _).mono ?_
      rintro x w' ⟨rfl, rfl⟩
      go_wp2_with fail
      refine (floor_254 _ (by unfold nudM; omega) _).mono ?_
      rintro x w' ⟨rfl, rfl⟩
      rw [HDX.out]
      have HRES : Hid (R = if DN ≤ DX / 10 * 10 then (DX / 10, -(P - 1)) else if DN < DX then (rndU U3, -P) else (DN, -P)) := Lib.hid (by
        have ek : tabF T P = ((T k).1, (T k).2) := by unfold tabF; rw [HK.out]; rw [show ((k : Int) - 348 + 348).toNat = k by omega]
        rw [← HR.out]
        unfold shortF
        simp only
        rw [HP.out, HS.out, ek, Int.toNat_natCast, HLO.out, HHI.out, HOD.out, HU1.out, HU2.out, HU3.out, HDN.out, HDX.out])
      by_cases hA : DN ≤ DX / 10 * 10
      · have hA2 : (DN : Int) ≤ (DX : Int) / 10 * 10 := by omega
        have HAA := Lib.hid hA
        clear hA
        go_wp2_with fail
        go_ret2
        rw [HRES.out, if_pos HAA.out]
        exact ⟨rfl, below_drewN HB1.out _⟩
      · have hA2 : ¬ (DN : Int) ≤ (DX : Int) / 10 * 10 := by omega
        have HAA := Lib.hid hA
        clear hA
        by_cases hB : DN < DX
        · have hB2 : (DN : Int) < (DX : Int) := by omega
          have HBB := Lib.hid hB
          clear hB
          go_wp2_with fail
          refine (M242.out m hm2 (w1.drewN (n2 + n3)) HP1.out).mono ?_
          rintro x w2 ⟨rfl, n4, rfl⟩
          rw [HU3.out]
          go_wp2_with fail
          refine (rnd_245 U3 lU3 _).mono ?_
          rintro x w' ⟨rfl, rfl⟩
          go_wp2_with fail
          go_ret2
          rw [HRES.out, if_neg HAA.out, if_pos HBB.out]
          exact ⟨rfl, below_drewN HB1.out _⟩
        · have hB2 : ¬ (DN : Int) < (DX : Int) := by omega
          have HBB := Lib.hid hB
          clear hB
          go_wp2_with fail
          go_ret2
          rw [HRES.out, if_neg HAA.out, if_neg HBB.out]
          exact ⟨rfl, below_drewN HB1.out _⟩
end Go.Proofs.YtagiddbfhlokcaaGreatDoor.Ff
/- Printing a float: the number of digits. Condition: the table of powers. -/
namespace Go.Proofs.YtagiddbfhlokcaaGreatDoor.Ff
open Go.RowKit
set_option maxRecDepth 100000
def nd (u : Nat) : Nat := if u = 0 then 0 else Lib.nDigits u
set_option maxHeartbeats 1000000 in
theorem nd_111 (u : Nat) (h2 : u < 18446744073709551616) (w : World) (htab : Lib.TabIs Tryz.prog w "internal/strconv.uint64pow10" .u64 Lib.pow10Tab) :
    Calls Tryz.prog 111 #[.int .u64 u] w fun e w' => e = .returned (.int .i64 (nd u : Int)) ∧ w = w' := by
  unfold nd
  by_cases h : u = 0
  · subst h
    rw [if_pos rfl]
    have M132 := Lib.hid (fun w => len132 0 (by decide) 0 (by decide) w)
    have M159 := Lib.hid (fun w => l10_159 0 (by decide) (by decide) w)
    have ht0 : w.cell? ⟨1, 0, none⟩ = some (.int .u64 1) := by
      have := htab.cell (g := 1) (by kernel_rfl) (i := 0) (by decide)
      exact this
    go_enter Tryz.func111, Tryz.ntmps111
    go_wp2_with fail
    refine (M132.out _).mono ?_
    rintro x w' ⟨rfl, rfl⟩
    go_wp2_with fail
    refine (M159.out _).mono ?_
    rintro x w' ⟨rfl, rfl⟩
    have e0 : l10 0 = 0 := by decide
    rw [e0]
    go_wp2_with fail
    refine (bool160 false _).mono ?_
    rintro x w' ⟨rfl, rfl⟩
    go_wp2_with fail
    go_ret
    exact ⟨rfl, rfl⟩
  · rw [if_neg h]
    exact (Tryz.internal_strconv_numDigits u (by omega) h2 w htab).mono fun e w' h => ⟨h.1, h.2.symm⟩
end Go.Proofs.YtagiddbfhlokcaaGreatDoor.Ff
/- Printing a float: setDigits at any number of digits. Condition: the row of 32 noughts. -/
namespace Go.Proofs.YtagiddbfhlokcaaGreatDoor.Ff
open Go.RowKit Go.Sort
set_option maxRecDepth 100000
theorem holds_z (w : World) (b n : Nat) (hn : n ≤ 32) (h : w.heap[b]? = some (.cells One.zeros32 281 (0, 0))) : Holds One.encB w b 0 (Array.replicate n 0) := by
  intro j hj
  have hj' : j < n := by simpa using hj
  refine ⟨?_, Lib.frozen_of_heap h _⟩
  rw [Lib.cell_of_heap h]
  have e : One.zeros32 = Array.replicate 32 (.int .u8 0) := rfl
  rw [e, Array.getElem?_replicate, if_pos (by omega)]
  simp [One.encB, hj']
/-- The row's cells hold these bytes. -/
def Cells (w : World) (b : Nat) (D : List UInt8) : Prop := ∀ t, t < D.length → w.cell? ⟨b, t, none⟩ = some (.int .u8 ((D.getD t 0).toNat : Int))
theorem fmt_112 (d : Nat) (h2 : d < 18446744073709551616) (hn : Lib.nDigits d ≤ 32) (w : World) (b : Nat) (h : w.heap[b]? = some (.cells One.zeros32 281 (0, 0))) :
    Calls Tryz.prog 112 #[.slice (some ⟨b, 0, none⟩) (Lib.nDigits d) 32, .int .u64 d] w fun e w' => e = .returned (.tuple #[]) ∧ Cells w' b (Lib.decDigits d) ∧ Below b w w' := by
  have hH := holds_z w b (Lib.nDigits d) hn h
  have h := Tryz.internal_strconv_formatBase10 b 0 32 d (Array.replicate (Lib.nDigits d) 0) w hH (by rw [Array.size_replicate]; exact Lib.lt_pow_nDigits d) h2 (by rw [Array.size_replicate]; omega)
  rw [Array.size_replicate] at h
  refine h.mono ?_
  rintro e w' ⟨rfl, n, v', dk, rfl, hf⟩
  refine ⟨rfl, fun t ht => ?_, ?_⟩
  · have h3 := Lib.row_is_numeral hf t ht
    rw [Lib.decDigits_length] at ht
    have h1 := cell?_putRow One.encB w b 0 _ dk hH (by rw [hf.size, Array.size_replicate]) t (by rw [hf.size]; exact ht)
    rw [Nat.zero_add] at h1
    have e3 : (Lib.decDigits d).getD t 0 = dk[t]! := by
      rw [List.getD_eq_getElem?_getD, List.getElem?_eq_getElem (by rw [Lib.decDigits_length]; exact ht), Option.getD_some, h3]
    rw [e3]
    exact h1
  · exact ⟨rfl, rfl, rfl, by simp [putRow, mapBlock, World.drewN], fun i hi => by simp only [putRow, mapBlock, World.drewN]; rw [Array.getElem?_modify, if_neg (by omega)]⟩
theorem trim_last {l : List UInt8} (h : PF.trim48 l ≠ []) : ∃ a c, PF.trim48 l = a ++ [c] ∧ c ≠ 48 := by
  unfold PF.trim48 at h ⊢
  cases hd : l.reverse.dropWhile (· == 48) with
  | nil => rw [hd] at h; exact absurd rfl h
  | cons c r =>
    refine ⟨r.reverse, c, by simp, ?_⟩
    have : ∀ (l : List UInt8) c r, l.dropWhile (· == 48) = c :: r → c ≠ 48 := by
      intro l
      induction l with
      | nil => intro c r h; cases h
      | cons x t ih =>
        intro c r h
        rw [List.dropWhile_cons] at h
        by_cases hx : (x == 48) = true
        · rw [if_pos hx] at h; exact ih c r h
        · rw [if_neg hx] at h
          injection h with h1 _
          rintro rfl
          subst h1
          exact hx rfl
    exact this _ _ _ hd
theorem trim_get (l : List UInt8) (t : Nat) : (t < (PF.trim48 l).length → l.getD t 0 = (PF.trim48 l).getD t 0) ∧ ((PF.trim48 l).length ≤ t → t < l.length → l.getD t 0 = 48) ∧ (PF.trim48 l).length ≤ l.length := by
  obtain ⟨z, hz⟩ := PF.trim48_spec l
  obtain ⟨D, hD⟩ : ∃ D, PF.trim48 l = D := ⟨_, rfl⟩
  rw [hD] at hz ⊢
  subst hz
  refine ⟨fun h => ?_, fun h h2 => ?_, by simp⟩
  · rw [List.getD_eq_getElem?_getD, List.getD_eq_getElem?_getD, List.getElem?_append_left h]
  · rw [List.length_append, List.length_replicate] at h2
    rw [List.getD_eq_getElem?_getD, List.getElem?_append_right h, List.getElem?_eq_getElem (by rw [List.length_replicate]; omega), Option.getD_some, List.getElem_replicate]
theorem set_224 (d : Nat) (h1 : 0 < d) (h2 : d < 18446744073709551616) (hn : Lib.nDigits d ≤ 32) (p : Int) (p1 : -1000 ≤ p) (p2 : p ≤ 1000) (w : World) (b : Nat) (h : w.heap[b]? = some (.cells One.zeros32 281 (0, 0))) :
    Calls Tryz.prog 224 #[.slice (some ⟨b, 0, none⟩) 32 32, .int .u64 d, .int .i64 p, .int .i64 (Lib.nDigits d : Int)] w fun e w' => e = .returned (.tuple #[.int .i64 ((Lib.nDigits d : Int) + p), .int .i64 ((PF.trim48 (Lib.decDigits d)).length : Int)]) ∧ Cells w' b (PF.trim48 (Lib.decDigits d)) ∧ Below b w w' := by
  have M := Lib.hid (fmt_112 d h2 hn w b h)
  obtain ⟨a, c, ha, hc⟩ := trim_last (l := Lib.decDigits d) (by
    obtain ⟨z, _, _, _, c, r, e, _⟩ := PF.trim_dec h1
    rw [e]; simp)
  have hg := trim_get (Lib.decDigits d)
  rw [Lib.decDigits_length] at hg
  obtain ⟨D, hD⟩ : ∃ D, PF.trim48 (Lib.decDigits d) = D := ⟨_, rfl⟩
  rw [hD] at hg ha ⊢
  obtain ⟨L, hL⟩ : ∃ L, D.length = L := ⟨_, rfl⟩
  obtain ⟨n, hnn⟩ : ∃ n, Lib.nDigits d = n := ⟨_, rfl⟩
  rw [hnn] at hn hg M ⊢
  rw [hL] at hg ⊢
  have hL1 : 1 ≤ L := by rw [← hL, ha]; simp
  have hLn : L ≤ n := (hg 0).2.2
  have hlast : D.getD (L - 1) 0 = c := by
    rw [← hL, ha]; simp
  have hnum : (Lib.decDigits d).length = n := by rw [Lib.decDigits_length, hnn]
  have HG := Lib.hid hg
  have HD := Lib.hid hL
  have HLAST := Lib.hid hlast
  have HNUM := Lib.hid hnum
  have hc2 : ((c.toNat : Int) == 48) = false := by
    rw [beq_eq_false_iff_ne]
    intro e
    exact hc (UInt8.toNat_inj.1 (by show c.toNat = 48; omega))
  clear hg hD ha hlast hnum hL hnn h h1 h2
  go_enter Tryz.func224, Tryz.ntmps224
  go_wp2_with fail
  refine M.out.mono ?_
  rintro e w1 ⟨rfl, hcc, hb⟩
  have HC := Lib.hid hcc
  have HB := Lib.hid hb
  clear hcc hb
  have HCD : Hid (Cells w1 b D) := Lib.hid (fun t ht => by
    have := HC.out t (by rw [HNUM.out]; rw [HD.out] at ht; omega)
    rw [this, (HG.out t).1 (by rw [← HD.out]; exact ht)])
  go_wp2_with fail
  go_loopw [3] (fun i wr => (∃ k : Nat, L ≤ k ∧ k ≤ n ∧ i = .int .i64 k) ∧ wr = w1) (fun i _ => (intOf i).toNat)
  case atStart => exact ⟨⟨n, hLn, Nat.le_refl _, rfl⟩, rfl⟩
  case round =>
    obtain ⟨⟨k, h2, h16, rfl⟩, hw⟩ := hrel
    obtain rfl := hw.symm
    have e1 : ((k : Int) - 1).toNat = k - 1 := by omega
    by_cases hk : k = L
    · subst hk
      have c1 := HCD.out (k - 1) (by rw [HD.out]; omega)
      rw [HLAST.out] at c1
      go_wp2
      go_ret2
      exact ⟨rfl, HCD.out, HB.out⟩
    · have c1 := HC.out (k - 1) (by rw [HNUM.out]; omega)
      rw [(HG.out (k - 1)).2.1 (by omega) (by omega)] at c1
      have c1 : w1.cell? ⟨b, k - 1, none⟩ = some (.int .u8 48) := c1
      go_wp2
      go_roundw
      case rel => exact ⟨⟨k - 1, by omega, by omega, by go_num⟩, trivial⟩
      case measure => simp [intOf]; omega
end Go.Proofs.YtagiddbfhlokcaaGreatDoor.Ff
/- Printing a float: what is appended to, while digits are laid. No condition. -/
namespace Go.Proofs.YtagiddbfhlokcaaGreatDoor.Ff
open Go.RowKit Go.Sort
set_option maxRecDepth 100000
/-- The row that is appended to holds l; the row b of digits holds D. -/
structure Fs (w0 : World) (B b : Nat) (D : List UInt8) (l : List UInt8) (g c : Nat) (w : World) : Prop where
  own : w.ownsRow B 5 1 (.slice (some ⟨g, 0, none⟩) l.length c) l.length (Lib.byteCells l)
  ds : Cells w b D
  gb : 0 < D.length → g ≠ b
  bel : Below B w0 w
  le : B ≤ w.heap.size
  bw : 0 < D.length → b < w.heap.size
  len : l.length ≤ 1000000
theorem Fs.app1 {w0 w : World} {B b g c : Nat} {D l : List UInt8} (h : Fs w0 B b D l g c w) (m : List UInt8) (hm : 0 < m.length) (hlen : l.length + m.length ≤ 1000000) {v' : Value} {w2 : World} (hown : w2.ownsRow B 5 1 v' (l.length + m.length) (Lib.byteCells l ++ Lib.byteCells m)) (hg : w.grownBy w2 (Value.slice (some ⟨g, 0, none⟩) l.length c).ownBlock) (hblk : v'.ownBlock = (Value.slice (some ⟨g, 0, none⟩) l.length c).ownBlock ∨ v'.ownBlock = some w.heap.size) :
    ∃ g2 c2 L, L = l ++ m ∧ v' = .slice (some ⟨g2, 0, none⟩) L.length c2 ∧ Fs w0 B b D L g2 c2 w2 := by
  rcases hown.2 with ⟨rfl, h0⟩ | ⟨g2, c2, cur, rfl, hrest⟩
  · omega
  · refine ⟨g2, c2, l ++ m, rfl, by rw [List.length_append], ⟨by rw [List.length_append, One.byteCells_app]; exact hown, fun t ht => ?_, fun hd => ?_, ?_, Nat.le_trans h.le hg.size, fun hd => Nat.lt_of_lt_of_le (h.bw hd) hg.size, by rw [List.length_append]; exact hlen⟩⟩
    · have hbk : w2.heap[b]? = w.heap[b]? := hg.block b (h.bw (by omega)) (fun e => by injection e with e; exact h.gb (by omega) e.symm)
      rw [World.cell?_of_block (a := ⟨b, t, none⟩) hbk]; exact h.ds t ht
    · rcases hblk with e | e
      · injection e with e; have e : g2 = g := e; rw [e]; exact h.gb hd
      · injection e with e; have e : g2 = w.heap.size := e; have := h.bw hd; omega
    · exact h.bel.grown hg h.le (fun j hj => by injection hj with hj; rw [← hj]; exact (h.own.lt g rfl).1)
theorem Fs.alloc {w0 w : World} {B b g c : Nat} {D l : List UInt8} (h : Fs w0 B b D l g c w) (o : Obj) : Fs w0 B b D l g c (w.alloc o) := by
  have hb := (Below.refl w.heap.size w).alloc (Nat.le_refl _) o
  refine ⟨World.ownsRow.alloc h.own _, fun t ht => ?_, h.gb, h.bel.alloc h.le o, Nat.le_trans h.le hb.size, fun hd => Nat.lt_of_lt_of_le (h.bw hd) hb.size, h.len⟩
  rw [hb.cell (p := ⟨b, t, none⟩) (h.bw (by omega))]; exact h.ds t ht
theorem Fs.app {w0 w : World} {B b g c : Nat} {D l : List UInt8} {o : Obj} (h : Fs w0 B b D l g c w) (m : List UInt8) (hm : 0 < m.length) (hlen : l.length + m.length ≤ 1000000) {v' : Value} {w2 : World} (hown : w2.ownsRow B 5 1 v' (l.length + m.length) (Lib.byteCells l ++ Lib.byteCells m)) (hg : (w.alloc o).grownBy w2 (Value.slice (some ⟨g, 0, none⟩) l.length c).ownBlock) (hblk : v'.ownBlock = (Value.slice (some ⟨g, 0, none⟩) l.length c).ownBlock ∨ v'.ownBlock = some (w.alloc o).heap.size) :
    ∃ g2 c2 L, L = l ++ m ∧ v' = .slice (some ⟨g2, 0, none⟩) L.length c2 ∧ Fs w0 B b D L g2 c2 w2 := (h.alloc o).app1 m hm hlen hown hg hblk
/-- A slot that holds the row. -/
def DstAt (w0 : World) (B b : Nat) (D l : List UInt8) (v : Value) (w : World) : Prop := ∃ g c, v = .slice (some ⟨g, 0, none⟩) l.length c ∧ Fs w0 B b D l g c w
end Go.Proofs.YtagiddbfhlokcaaGreatDoor.Ff
