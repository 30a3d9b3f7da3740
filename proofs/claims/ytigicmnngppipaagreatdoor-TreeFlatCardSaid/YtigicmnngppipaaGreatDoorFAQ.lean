/- A text that is read as a float, laid as a decimal. Condition: the decimal's block. -/
import Derived.Test.YtigicmnngppipaaGreatDoorFAP
import Derived.Test.YtigicmnngppipaaGreatDoorFAK
import Derived.RegionTactic
import Derived.ChangeAlike
namespace Go.Proofs.YtigicmnngppipaaGreatDoor
open Go.RowKit Go.Dcm
set_option maxRecDepth 100000
/-- The state of the loop over the digits. -/
def SdRel (b : Nat) (l : List UInt8) (E : PF.RF × List UInt8) (neg : Bool) (w : World) (i dot saw : Value) (w' : World) : Prop :=
  ∃ (st : PF.RF) (k : Nat) (sv : Bool) (f : Nat → Nat), PF.Rd l E st k sv ∧ i = .int .i64 (k : Int) ∧ dot = .bool st.dot ∧ saw = .bool st.saw ∧ DAt 242 w' b f st.ds.length st.dp neg false ∧ Digs f st.ds ∧ Below b w w'
/-- Behind the loop. -/
def SdEnd (b : Nat) (l : List UInt8) (E : PF.RF × List UInt8) (neg : Bool) (w : World) (i dot saw : Value) (w' : World) : Prop :=
  ∃ (st : PF.RF) (k : Nat) (f : Nat → Nat), E = (st, l.drop k) ∧ k ≤ l.length ∧ PF.Rest (l.drop k) ∧ st.Ok k ∧ i = .int .i64 (k : Int) ∧ dot = .bool st.dot ∧ saw = .bool true ∧ DAt 242 w' b f st.ds.length st.dp neg false ∧ Digs f st.ds ∧ Below b w w'
theorem SdRel.drew {b : Nat} {l : List UInt8} {E : PF.RF × List UInt8} {neg : Bool} {w : World} {i dot saw : Value} {w' : World} (h : SdRel b l E neg w i dot saw w') : SdRel b l E neg w i dot saw w'.drew := by
  obtain ⟨st, k, sv, f, h1, h2, h3, h4, h5, h6, h7⟩ := h
  exact ⟨st, k, sv, f, h1, h2, h3, h4, h5.drew 1, h6, h7.drew⟩
/-- What 'set' leaves. -/
def SdPost (b : Nat) (E : PF.RF × List UInt8) (neg : Bool) (w : World) (e : Ending) (w' : World) : Prop :=
  e = .returned (.bool true) ∧ ∃ f, DAt 242 w' b f E.1.ds.length ((if E.1.dot then E.1.dp else (E.1.ds.length : Int)) + PF.exV E.2) neg false ∧ Digs f E.1.ds ∧ Below b w w'
set_option maxHeartbeats 8000000 in
theorem set211 (s : ByteArray) (hsz : s.size ≤ 400) (neg : Bool) (sg : Nat) (hs : Sgn s neg sg) (E : PF.RF × List UInt8) (hEE : PF.RF.run (s.data.toList.drop sg) PF.rf0 = E) (b : Nat) (f0 : Nat → Nat) (w : World) (hD : DAt 242 w b f0 0 0 false false) :
    Calls Tryz.prog 252 #[.pointer (some ⟨b, 0, none⟩), .string s] w (SdPost b E neg w) := by
  have HEE := Lib.hid hEE
  clear hEE
  have hpos := hs.lt
  have hhead : 48 ≤ s[sg].toNat ∧ s[sg].toNat ≤ 57 := hs.head
  have h0i : ¬(s.size : Int) ≤ 0 := by omega
  have h0j : (0 : Int) < (s.size : Int) := by omega
  have hemp : s ≠ ByteArray.empty := by rintro rfl; simp at hpos
  have HS := Lib.hid hs
  have HH := Lib.hid hhead
  have c2 := hD.cneg
  have c3 := hD.ctr
  have f2 := hD.free 802
  have f3 := hD.free 803
  have HD := Lib.hid hD
  clear hs hhead hD
  go_enter Tryz.func252, Tryz.ntmps252
  go_upto_block 0 with (fail)
  go_cut [5] from 23 to 33 (fun i w' => i = .int .i64 (sg : Int) ∧ DAt 242 w' b f0 0 0 neg false ∧ Below b w w')
  case first =>
    have HD2 := Lib.hid ((HD.out.setNeg false).setTr false)
    have c2' := HD2.out.cneg
    have f2' := HD2.out.free 802
    have HB2 := Lib.hid (((Below.refl b w).setCell (p := ⟨b, 802, none⟩) (Nat.le_refl _) (.bool false)).setCell (p := ⟨b, 803, none⟩) (Nat.le_refl _) (.bool false))
    cases hn : neg with
    | true =>
      obtain ⟨rfl, h45⟩ := HS.out.isneg hn
      obtain ⟨c, hc⟩ : ∃ c, s[0] = c := ⟨_, rfl⟩
      have hc2 : c = 45 := by
        have : s.data.toList[0]? = some s[0] := by
          rw [List.getElem?_eq_getElem (by simpa using h0j)]; rfl
        rw [this, hc] at h45
        exact Option.some.inj h45
      have e1 : ((c.toNat : Int) == 43) = false := by rw [hc2]; rfl
      have e2 : ((c.toNat : Int) == 45) = true := by rw [hc2]; rfl
      clear hc2 h45
      go_wp2_with fail
      go_meet
      case rel => exact ⟨rfl, by rw [hn]; exact HD2.out.setNeg true, HB2.out.setCell (p := ⟨b, 802, none⟩) (Nat.le_refl _) _⟩
    | false =>
      obtain rfl := HS.out.ispos hn
      obtain ⟨c, hc⟩ : ∃ c, s[0] = c := ⟨_, rfl⟩
      have hh := HH.out
      rw [hc] at hh
      have e1 : ((c.toNat : Int) == 43) = false := by rw [beq_eq_false_iff_ne]; omega
      have e2 : ((c.toNat : Int) == 45) = false := by rw [beq_eq_false_iff_ne]; omega
      clear hh
      go_wp2_with fail
      go_meet
      case rel => exact ⟨rfl, by rw [hn]; exact HD2.out, HB2.out⟩
  case rest =>
    obtain ⟨rfl, hd0, hb0⟩ := hcut
    have HD0 := Lib.hid hd0
    have HB0 := Lib.hid hb0
    clear hd0 hb0
    go_upto_block 1 with (fail)
    go_cut [5, 6, 7] from 34 to 116 (fun i dot saw w' => SdEnd b s.data.toList (PF.RF.run (s.data.toList.drop sg) PF.rf0) neg w i dot saw w')
    case first =>
      go_wp2_with fail
      go_loopw [5, 6, 7] (fun i dot saw w' => SdRel b s.data.toList (PF.RF.run (s.data.toList.drop sg) PF.rf0) neg w i dot saw w') (fun i _ _ _ => s.size - (intOf i).toNat)
      case atStart => exact ⟨_, sg, _, f0, PF.Rd.start (by have := HS.out.lt; simp; omega) HS.out.ok, rfl, rfl, rfl, HD0.out, fun i hi => by simp [PF.rf0] at hi, HB0.out⟩
      case round =>
        obtain ⟨⟨man, ds, nm, dp, dot, saw, tr⟩, k, sv, f, hrd, rfl, rfl, rfl, hd, hdg, hb⟩ := hrel
        have hok := hrd.ok
        have h1 := hok.nd
        have h3 := hok.dpl
        have h4 := hok.dph
        have hkl := hrd.le
        have hle : s.data.toList.length = s.size := by simp
        rw [hle] at hkl
        simp only at h1 h3 h4 hd hdg
        have HR := Lib.hid hrd
        have HDD := Lib.hid hd
        have HDG := Lib.hid hdg
        have HB := Lib.hid hb
        have cn := hd.cnd
        have cp := hd.cdp
        have fn := hd.free 800
        have fp := hd.free 801
        clear hok hrd hd hdg hb
        by_cases hk : k < s.size
        · have hki : (k : Int) < (s.size : Int) := by omega
          obtain ⟨c, hc⟩ : ∃ c, s[k] = c := ⟨_, rfl⟩
          have hcl : s.data.toList[k]'(by simpa using hk) = c := hc
          have H0 := HR.out
          by_cases hd : PF.isDig c = true
          · have hd2 := (isDig_iff c).1 hd
            have HD := Lib.hid (H0.digit (by simpa using hk) (by rw [hcl]; exact hd))
            rw [hcl] at HD
            have e95 : ((c.toNat : Int) == 95) = false := by rw [beq_eq_false_iff_ne]; omega
            have e46 : ((c.toNat : Int) == 46) = false := by rw [beq_eq_false_iff_ne]; omega
            have e0 : (48 : Int) ≤ (c.toNat : Int) := by omega
            have e9 : (c.toNat : Int) ≤ 57 := by omega
            clear H0 hcl hle hd
            by_cases hz : c = 48 ∧ ds.length = 0
            · have HN := Lib.hid (HD.out.1 hz)
              have e48 : ((c.toNat : Int) == 48) = true := by rw [beq_iff_eq, hz.1]; rfl
              have en : ((ds.length : Int) == 0) = true := by rw [beq_iff_eq]; omega
              clear HD HR hz
              go_wp2_with fail
              go_roundw
              case rel => exact ⟨_, k + 1, true, f, HN.out, by go_num, rfl, rfl, HDD.out.setDp _, HDG.out, HB.out.setCell (p := ⟨b, 801, none⟩) (Nat.le_refl _) _⟩
              case measure => simp [intOf]; omega
            · obtain ⟨L, hL⟩ : ∃ L, ds.length = L := ⟨_, rfl⟩
              have HN : Hid (∃ st : PF.RF, PF.Rd s.data.toList (PF.RF.run (s.data.toList.drop sg) PF.rf0) st (k + 1) true ∧ st.ds = ds ++ [c.toNat - 48] ∧ st.dot = dot ∧ st.saw = true ∧ st.dp = dp) := Lib.hid (by
                by_cases hn : nm < 19
                · exact ⟨_, HD.out.2.1 hz hn, rfl, rfl, rfl, rfl⟩
                · exact ⟨_, HD.out.2.2 hz hn, rfl, rfl, rfl, rfl⟩)
              have hz2 : c = 48 → ¬ L = 0 := fun h1 h2 => hz ⟨h1, by rw [hL]; exact h2⟩
              have HLL := Lib.hid hL
              rw [hL] at cn h1
              have l8 : (L : Int) < 800 := by omega
              have cw := HDD.out.dig (i := L) (by omega)
              have fw := HDD.out.free L
              have HST : Hid (SdRel b s.data.toList (PF.RF.run (s.data.toList.drop sg) PF.rf0) neg w (.int .i64 ((k : Int) + 1)) (.bool dot) (.bool true) ((wr.setCell ⟨b, L, none⟩ (.int .u8 (c.toNat : Int))).setCell ⟨b, 800, none⟩ (.int .i64 ((L : Int) + 1)))) := Lib.hid (by
                obtain ⟨st, q1, q2, q3, q4, q5⟩ := HN.out
                refine ⟨st, k + 1, true, upd f L c.toNat, q1, by go_num, by rw [q3], by rw [q4], ?_, ?_, (HB.out.setCell (p := ⟨b, L, none⟩) (Nat.le_refl _) _).setCell (p := ⟨b, 800, none⟩) (Nat.le_refl _) _⟩
                · have := (HDD.out.setDig (i := L) (by omega) c.toNat).setNd ((L : Int) + 1)
                  rw [q5, q2, List.length_append, List.length_singleton, hL]
                  exact this
                · rw [q2]
                  have := HDG.out.snoc (c.toNat - 48)
                  rw [hL, show 48 + (c.toNat - 48) = c.toNat by omega] at this
                  exact this)
              by_cases h48 : c = 48
              · have e48 : ((c.toNat : Int) == 48) = true := by rw [beq_iff_eq, h48]; rfl
                have en : ((L : Int) == 0) = false := by rw [beq_eq_false_iff_ne]; have := hz2 h48; omega
                clear HD HR hz hz2 h48 hL
                go_wp2_with fail
                go_region
                go_wp2_with fail
                go_roundw
                case rel => exact HST.out.drew
                case measure => simp [intOf]; omega
              · have e48 : ((c.toNat : Int) == 48) = false := by rw [beq_eq_false_iff_ne]; intro h; exact h48 (UInt8.toNat_inj.1 (by have : (48 : UInt8).toNat = 48 := rfl; omega))
                clear HD HR hz hz2 h48 hL
                go_wp2_with fail
                go_region
                go_wp2_with fail
                go_roundw
                case rel => exact HST.out.drew
                case measure => simp [intOf]; omega
          · have hdf : PF.isDig c = false := by simpa using hd
            by_cases h46 : c = 46
            · obtain ⟨hdot, hnx⟩ := H0.point (by simpa using hk) (by rw [hcl]; exact h46)
              have HN := Lib.hid hnx
              obtain rfl : dot = false := hdot
              have e95 : ((c.toNat : Int) == 95) = false := by rw [h46]; rfl
              have e46 : ((c.toNat : Int) == 46) = true := by rw [h46]; rfl
              clear H0 hnx hcl hle HR h46 hd hdf
              go_wp2_with fail
              go_roundw
              case rel => exact ⟨_, k + 1, true, f, HN.out, by go_num, rfl, rfl, HDD.out.setDp _, HDG.out, HB.out.setCell (p := ⟨b, 801, none⟩) (Nat.le_refl _) _⟩
              case measure => simp [intOf]; omega
            · obtain ⟨hce, hE, hsaw, hX⟩ := H0.exp (by simpa using hk) (by rw [hcl]; exact hdf) (by rw [hcl]; exact h46)
              have HE := Lib.hid hE
              have HO := Lib.hid H0
              rw [hcl] at hce
              have HC := Lib.hid hce
              have HXX := Lib.hid hX
              obtain rfl : saw = true := hsaw
              have hc2 : c.toNat = 101 ∨ c.toNat = 69 := by rcases hce with h | h <;> rw [h] <;> simp
              have e95 : ((c.toNat : Int) == 95) = false := by rw [beq_eq_false_iff_ne]; omega
              have e46 : ((c.toNat : Int) == 46) = false := by rw [beq_eq_false_iff_ne]; omega
              have e0 : (48 : Int) ≤ (c.toNat : Int) := by omega
              have e9 : ¬(c.toNat : Int) ≤ 57 := by omega
              have HCL := Lib.hid hcl
              clear H0 hcl hle HR h46 hd hdf hce hX hc2 hE
              go_wp2_with fail
              go_meet
              case rel => exact ⟨_, k, f, by rw [PF.Rd.cons (k := k) (by simpa using hk)]; exact HE.out, HO.out.le, .inr ⟨_, _, PF.Rd.cons (k := k) (by simpa using hk), by rw [HCL.out]; exact HC.out, HXX.out⟩, HO.out.ok, rfl, rfl, rfl, HDD.out, HDG.out, HB.out⟩
        · obtain rfl : k = s.size := by omega
          have H0 := HR.out
          rw [← hle] at H0
          obtain ⟨hE, hsaw⟩ := H0.fin
          have HE := Lib.hid hE
          have HO := Lib.hid H0
          obtain rfl : saw = true := hsaw
          have HL := Lib.hid hle
          clear H0 HR hE hle
          go_wp2_with fail
          go_meet
          case rel => exact ⟨_, s.data.toList.length, f, by rw [List.drop_length]; exact HE.out, Nat.le_refl _, .inl (List.drop_length), HO.out.ok, by rw [HL.out], rfl, rfl, HDD.out, HDG.out, HB.out⟩
    case rest =>
      obtain ⟨⟨man, ds, nm, dp, dot, saw, tr⟩, k, f, hE, hkl, hR, hO, rfl, rfl, rfl, hd, hdg, hb⟩ := hcut
      simp only at hd hdg
      have HDD := Lib.hid hd
      have HDG := Lib.hid hdg
      have HB := Lib.hid hb
      have cn := hd.cnd
      have cp := hd.cdp
      have fp := hd.free 801
      clear hd hdg hb
      obtain ⟨D, hD⟩ : ∃ D, (if dot then dp else (ds.length : Int)) = D := ⟨_, rfl⟩
      have hDl : -400 ≤ D := by
        have := hO.dpl
        have hks : k ≤ s.size := by simpa using hkl
        rw [← hD]
        split
        · simp only at this; omega
        · omega
      have hDh : D ≤ 400 := by
        have := hO.dph
        have := hO.nd
        have hks : k ≤ s.size := by simpa using hkl
        simp only at *
        rw [← hD]
        split <;> omega
      have HD := Lib.hid hD
      have HE := Lib.hid hE
      have HR := Lib.hid hR
      clear hE hD hO
      go_upto_if 120 with (fail)
      go_cut [121] from 122 to 127 (fun x w' => DAt 242 w' b f ds.length D neg false ∧ Below b w w')
      case first =>
        cases dot
        · go_wp2_with fail
          go_meet
          case rel => exact ⟨by rw [← HD.out]; exact HDD.out.setDp _, HB.out.setCell (p := ⟨b, 801, none⟩) (Nat.le_refl _) _⟩
        · go_wp2_with fail
          go_meet
          case rel => exact ⟨by rw [← HD.out]; exact HDD.out, HB.out⟩
      case rest =>
        obtain ⟨hd, hb⟩ := hcut
        rename World => w3
        have cp3 := hd.cdp
        have fp3 := hd.free 801
        have HD3 := Lib.hid hd
        have HB3 := Lib.hid hb
        clear hd hb
        have hkl2 : k = s.size ∨ ∃ (h : k < s.size), lowI s[k] = 101 ∧ PF.okX (s.data.toList.drop (k + 1)) = true := by
          rcases hR with h | ⟨c, r, h, h2, h3⟩
          · left
            have := congrArg List.length h
            simp at this
            have hks : k ≤ s.size := by simpa using hkl
            omega
          · right
            have hlt : k < s.data.toList.length := by
              rcases Nat.lt_or_ge k s.data.toList.length with h' | h'
              · exact h'
              · rw [List.drop_of_length_le h'] at h; cases h
            rw [PF.Rd.cons hlt] at h
            injection h with e1 e2
            have e1 : s[k]'(by simpa using hlt) = c := e1
            refine ⟨by simpa using hlt, ?_, by rw [e2]; exact h3⟩
            rw [e1]
            exact lowI_e c (by rcases h2 with h | h <;> rw [h] <;> simp)
        obtain ⟨bb, hbb⟩ : ∃ b : Bool, b = decide (k < s.size) := ⟨_, rfl⟩
        have HBB := Lib.hid hbb
        have HK := Lib.hid hkl2
        have hks : k ≤ s.size := by simpa using hkl
        clear hR hkl hkl2 hbb
        go_upto_region 32 with (fail)
        go_cut [138] from 128 to 138 (fun t w' => t = .bool bb ∧ w3 = w')
        case first =>
          rcases HK.out with h | ⟨h, h1, h2⟩
          · have hi : ¬(k : Int) < (s.size : Int) := by omega
            have hd : decide (k < s.size) = false := by simp; omega
            clear h
            go_wp2_with fail
            go_meet
            case rel => exact ⟨by rw [HBB.out, hd], rfl⟩
          · have hi : (k : Int) < (s.size : Int) := by omega
            have hd : decide (k < s.size) = true := by simp; omega
            obtain ⟨c, hc⟩ : ∃ c, s[k] = c := ⟨_, rfl⟩
            rw [hc] at h1
            have h1b : (lowI c == 101) = true := by rw [h1]; rfl
            clear h1 h2
            go_wp2_with ((go_at_call 202; refine (lower200 _ _).mono ?_; rintro e w' ⟨rfl, rfl⟩))
            go_meet
            case rel => exact ⟨by rw [HBB.out, hd], rfl⟩
        case rest =>
          obtain ⟨rfl, rfl⟩ := hcut
          go_upto_if 138 with (fail)
          go_cut [5, 8, 9] from 139 to 219 (fun i x y w' => i = .int .i64 (s.size : Int) ∧ DAt 242 w' b f ds.length (D + PF.exV (s.data.toList.drop k)) neg false ∧ Below b w w')
          case first =>
            rcases HK.out with h | ⟨h, h1, h2⟩
            · obtain rfl : bb = false := by rw [HBB.out]; simp; omega
              have HKS := Lib.hid h
              clear h
              go_wp2_with fail
              go_meet
              case rel => exact ⟨congrArg (fun n : Nat => Value.int .i64 (n : Int)) HKS.out, by rw [HKS.out, List.drop_of_length_le (by simp), show PF.exV [] = 0 from rfl, Int.add_zero]; exact HD3.out, HB3.out⟩
            · obtain rfl : bb = true := by rw [HBB.out]; simp; omega
              obtain ⟨c, t, hct, hcs⟩ := PF.okX_cases h2
              have hk1 : k + 1 < s.data.toList.length := by
                rcases Nat.lt_or_ge (k + 1) s.data.toList.length with h' | h'
                · exact h'
                · rw [List.drop_of_length_le h'] at hct; cases hct
              have hk0 : k < s.data.toList.length := by omega
              have hk1s : k + 1 < s.size := by simpa using hk1
              rw [PF.Rd.cons hk1] at hct
              injection hct with hc ht
              have hc : s[k + 1] = c := hc
              have hkk : (k : Int) + 1 < (s.size : Int) := by omega
              have hkk2 : ¬(s.size : Int) ≤ (k : Int) + 1 := by omega
              have h43 : (43 : UInt8).toNat = 43 := rfl
              have h45 : (45 : UInt8).toNat = 45 := rfl
              have HT := Lib.hid ht
              have HCS := Lib.hid hcs
              have HCC := Lib.hid hc
              clear ht hcs h1 h2 hc
              go_upto_block 4 with (fail)
              go_cut [5, 8] from 148 to 155 (fun i sgn w' => ExSg s.data.toList k w3 i sgn w')
              case first =>
                rcases HCS.out with ⟨rfl, hD2⟩ | ⟨rfl, hD2⟩ | ⟨n43, n45, hD2⟩
                · have e43 : ((s[k + 1].toNat : Int) == 43) = true := by rw [HCC.out]; rfl
                  have HD2 := Lib.hid hD2
                  clear hD2
                  go_wp2_with fail
                  go_meet
                  case rel =>
                    have hne := okD_ne HD2.out
                    rw [← HT.out] at hne
                    have hlt : k + 1 + 1 < s.data.toList.length := by
                      rcases Nat.lt_or_ge (k + 1 + 1) s.data.toList.length with h' | h'
                      · exact h'
                      · exact absurd (List.drop_of_length_le h') hne
                    exact ⟨k + 1 + 1, 1, hlt, by rw [HT.out]; exact HD2.out, by rw [PF.Rd.cons hk0, PF.Rd.cons hk1, HT.out, show s.data.toList[k + 1] = 43 from HCC.out, Int.one_mul]; rfl, .inl rfl, by go_num, rfl, rfl⟩
                · have e43 : ((s[k + 1].toNat : Int) == 43) = false := by rw [HCC.out]; rfl
                  have e45 : ((s[k + 1].toNat : Int) == 45) = true := by rw [HCC.out]; rfl
                  have HD2 := Lib.hid hD2
                  clear hD2
                  go_wp2_with fail
                  go_meet
                  case rel =>
                    have hne := okD_ne HD2.out
                    rw [← HT.out] at hne
                    have hlt : k + 1 + 1 < s.data.toList.length := by
                      rcases Nat.lt_or_ge (k + 1 + 1) s.data.toList.length with h' | h'
                      · exact h'
                      · exact absurd (List.drop_of_length_le h') hne
                    exact ⟨k + 1 + 1, -1, hlt, by rw [HT.out]; exact HD2.out, by rw [PF.Rd.cons hk0, PF.Rd.cons hk1, HT.out, show s.data.toList[k + 1] = 45 from HCC.out, Int.neg_one_mul]; rfl, .inr rfl, by go_num, rfl, rfl⟩
                · have e43 : ((s[k + 1].toNat : Int) == 43) = false := by rw [HCC.out, beq_eq_false_iff_ne]; intro h; exact n43 (UInt8.toNat_inj.1 (by omega))
                  have e45 : ((s[k + 1].toNat : Int) == 45) = false := by rw [HCC.out, beq_eq_false_iff_ne]; intro h; exact n45 (UInt8.toNat_inj.1 (by omega))
                  have HD2 := Lib.hid hD2
                  have N43 := Lib.hid n43
                  have N45 := Lib.hid n45
                  clear hD2 n43 n45
                  go_wp2_with fail
                  go_meet
                  case rel => exact ⟨k + 1, 1, hk1, by rw [PF.Rd.cons hk1, HT.out, show s.data.toList[k + 1] = c from HCC.out]; exact HD2.out, by rw [PF.Rd.cons hk0, PF.Rd.cons hk1, HT.out, show s.data.toList[k + 1] = c from HCC.out, Int.one_mul]; exact exV_other N43.out N45.out, .inl rfl, by go_num, rfl, rfl⟩
              case rest =>
                obtain ⟨k1, m, hk1l, hDD, hV, hm1, rfl, rfl, rfl⟩ := hcut
                have hk1z : k1 < s.size := by simpa using hk1l
                have hall := (okD_all hDD).2
                have hdk : 48 ≤ s[k1].toNat ∧ s[k1].toNat ≤ 57 := by
                  rw [PF.Rd.cons hk1l] at hall
                  exact hall _ (List.mem_cons_self ..)
                have HALL := Lib.hid hall
                have HV := Lib.hid hV
                have HM := Lib.hid hm1
                have mb : -1 ≤ m ∧ m ≤ 1 := by omega
                obtain ⟨mb1, mb2⟩ := mb
                clear hDD hall hV HCC HT HCS hm1
                go_upto_region 42 with (fail)
                go_cut [171] from 156 to 171 (fun t w' => t = .bool false ∧ w3 = w')
                case first =>
                  have i1 : (k1 : Int) < (s.size : Int) := by omega
                  have i2 : ¬(s.size : Int) ≤ (k1 : Int) := by omega
                  obtain ⟨z, hz⟩ : ∃ z, s[k1] = z := ⟨_, rfl⟩
                  rw [hz] at hdk
                  have z1 : ¬(z.toNat : Int) < 48 := by omega
                  have z2 : ¬(57 : Int) < (z.toNat : Int) := by omega
                  clear hdk
                  go_wp2_with fail
                  go_meet
                  case rel => exact ⟨rfl, rfl⟩
                case rest =>
                  obtain ⟨rfl, rfl⟩ := hcut
                  go_wp2_with fail
                  go_loopw [5, 9] (fun i e w' => ExRel s.data.toList (PF.exD (s.data.toList.drop k1) 0) w3 i e w') (fun i _ _ => s.size - (intOf i).toNat)
                  case atStart => exact ⟨k1, 0, by omega, HALL.out, rfl, by omega, rfl, rfl, rfl⟩
                  case round =>
                    obtain ⟨j, x, hj, ha, hX, hx, rfl, rfl, rfl⟩ := hrel
                    have hjs : j ≤ s.size := by simpa using hj
                    by_cases hjl : j < s.size
                    · have hjl2 : j < s.data.toList.length := by simpa using hjl
                      obtain ⟨z, hz⟩ : ∃ z, s[j] = z := ⟨_, rfl⟩
                      have hzz : s.data.toList[j] = z := hz
                      rw [PF.Rd.cons hjl2, hzz] at ha hX
                      have hzd := ha z (List.mem_cons_self ..)
                      have ha2 : ∀ c ∈ s.data.toList.drop (j + 1), 48 ≤ c.toNat ∧ c.toNat ≤ 57 := fun c hc => ha c (List.mem_cons_of_mem _ hc)
                      have HA := Lib.hid ha2
                      have HXX := Lib.hid hX
                      have z1 : (48 : Int) ≤ (z.toNat : Int) := by omega
                      have z2 : (z.toNat : Int) ≤ 57 := by omega
                      have z3 : ((z.toNat : Int) == 95) = false := by rw [beq_eq_false_iff_ne]; omega
                      have i1 : (j : Int) < (s.size : Int) := by omega
                      clear ha ha2 hX hzz hzd hj
                      by_cases hx4 : x < 10000
                      · have hx5 : (x : Int) < 10000 := by omega
                        go_wp2_with fail
                        go_roundw
                        case rel => exact ⟨j + 1, x * 10 + (z.toNat - 48), hjl2, HA.out, by rw [← HXX.out, exD_cons, if_pos hx4], by omega, by go_num, congrArg (Value.int .i64) (by omega), rfl⟩
                        case measure => simp [intOf]; omega
                      · have hx5 : ¬(x : Int) < 10000 := by omega
                        go_wp2_with fail
                        go_roundw
                        case rel => exact ⟨j + 1, x, hjl2, HA.out, by rw [← HXX.out, exD_cons, if_neg hx4], by omega, by go_num, rfl, rfl⟩
                        case measure => simp [intOf]; omega
                    · have i1 : ¬(j : Int) < (s.size : Int) := by omega
                      rw [List.drop_of_length_le (by simp; omega)] at hX
                      have hX : x = PF.exD (s.data.toList.drop k1) 0 := hX
                      have HXX := Lib.hid hX
                      have hb1 : -100010 ≤ (x : Int) * m := by
                        rcases HM.out with h | h <;> rw [h] <;> omega
                      have hb2 : (x : Int) * m ≤ 100010 := by
                        rcases HM.out with h | h <;> rw [h] <;> omega
                      have HJ : Hid (j = s.size) := Lib.hid (by omega)
                      clear ha hX
                      go_wp2_with fail
                      go_meet
                      case rel => exact ⟨by rw [HJ.out], by rw [HV.out, ← HXX.out, Int.mul_comm m]; exact HD3.out.setDp _, HB3.out.setCell (p := ⟨b, 801, none⟩) (Nat.le_refl _) _⟩
          case rest =>
            obtain ⟨rfl, hd, hb⟩ := hcut
            have HD4 := Lib.hid hd
            have HB4 := Lib.hid hb
            clear hd hb
            go_wp2_with fail
            go_ret
            exact ⟨rfl, f, by rw [← HEE.out, HE.out]; dsimp only; rw [HD.out]; exact HD4.out, by rw [← HEE.out, HE.out]; exact HDG.out, HB4.out⟩
end Go.Proofs.YtigicmnngppipaaGreatDoor
