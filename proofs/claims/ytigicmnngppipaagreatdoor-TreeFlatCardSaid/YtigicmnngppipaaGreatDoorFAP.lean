/- readFloat at a text that is read as a float. No condition but its size. -/
import Derived.Test.YtigicmnngppipaaGreatDoorFAJ
import Derived.Test.YtigicmnngppipaaGreatDoorFAN
import Derived.Deep.Cut
import Derived.Deep.CutRange
import Derived.Deep.CutBlock
import Derived.WalkMore
namespace Go.Proofs.YtigicmnngppipaaGreatDoor
open Go.RowKit
set_option maxRecDepth 100000
set_option maxHeartbeats 4000000
theorem hex_ways (s : ByteArray) (i : Nat) (hall : ∀ c ∈ s.data.toList.drop i, okB c) : (∀ (h : i + 1 < s.size), lowI s[i + 1] ≠ 120) := by
  intro h
  have hm : s[i + 1] ∈ s.data.toList.drop i := by
    rw [List.mem_iff_getElem]
    refine ⟨1, by simp; omega, ?_⟩
    rw [List.getElem_drop]
    rfl
  have := hall _ hm
  unfold okB at this
  exact lowI_x _ (by omega) (by omega)
/-- Where the sign ends. -/
structure Sgn (s : ByteArray) (neg : Bool) (sg : Nat) : Prop where
  lt : sg < s.size
  ok : PF.okM false false (s.data.toList.drop sg) = true
  isneg : neg = true → sg = 1 ∧ s.data.toList[0]? = some 45
  ispos : neg = false → sg = 0
theorem Sgn.head {s : ByteArray} {neg : Bool} {sg : Nat} (h : Sgn s neg sg) : 48 ≤ (s[sg]'h.lt).toNat ∧ (s[sg]'h.lt).toNat ≤ 57 := by
  have hl : sg < s.data.toList.length := by have := h.lt; simpa using this
  have hM := h.ok
  rw [List.drop_eq_getElem_cons hl] at hM
  exact okM_head hM
/-- The state of the loop over the mantissa, in its slots. -/
def RdRel (l : List UInt8) (E : PF.RF × List UInt8) (w : World) (man tr i dot saw nd nm dp : Value) (w' : World) : Prop :=
  ∃ (st : PF.RF) (k : Nat) (sv : Bool), PF.Rd l E st k sv ∧ man = .int .u64 (st.man : Int) ∧ tr = .bool st.tr ∧ i = .int .i64 (k : Int) ∧ dot = .bool st.dot ∧ saw = .bool st.saw ∧ nd = .int .i64 (st.ds.length : Int) ∧ nm = .int .i64 (st.nm : Int) ∧ dp = .int .i64 st.dp ∧ w = w'
/-- Behind the loop. -/
def RdEnd (l : List UInt8) (E : PF.RF × List UInt8) (w : World) (man tr i dot saw nd nm dp : Value) (w' : World) : Prop :=
  ∃ (st : PF.RF) (k : Nat), E = (st, l.drop k) ∧ k ≤ l.length ∧ PF.Rest (l.drop k) ∧ st.Ok k ∧ man = .int .u64 (st.man : Int) ∧ tr = .bool st.tr ∧ i = .int .i64 (k : Int) ∧ dot = .bool st.dot ∧ saw = .bool true ∧ nd = .int .i64 (st.ds.length : Int) ∧ nm = .int .i64 (st.nm : Int) ∧ dp = .int .i64 st.dp ∧ w = w'
theorem man_lt {st : PF.RF} {k : Nat} (h : st.Ok k) : st.man < 10000000000000000000 ∧ (st.nm < 19 → st.man < 1000000000000000000) := by
  have h1 := h.man
  refine ⟨Nat.lt_of_lt_of_le h1 ?_, fun hn => Nat.lt_of_lt_of_le h1 ?_⟩
  · exact Nat.pow_le_pow_right (n := 10) (by omega) h.nm19
  · exact (Nat.pow_le_pow_right (n := 10) (by omega) (show st.nm ≤ 18 by omega))
/-- Behind the e and its sign: the digits begin at i. -/
def ExSg (l : List UInt8) (k : Nat) (w : World) (i sgn : Value) (w' : World) : Prop :=
  ∃ (k1 : Nat) (m : Int), k1 < l.length ∧ PF.okD (l.drop k1) = true ∧ PF.exV (l.drop k) = m * PF.exD (l.drop k1) 0 ∧ (m = 1 ∨ m = -1) ∧ i = .int .i64 (k1 : Int) ∧ sgn = .int .i64 m ∧ w = w'
theorem exV_other {x c : UInt8} {t : List UInt8} (h1 : c ≠ 43) (h2 : c ≠ 45) : PF.exV (x :: c :: t) = PF.exD (c :: t) 0 := by
  unfold PF.exV
  split
  · rename_i h; simp at h; exact absurd h.2.1 h2
  · rename_i h; simp at h; exact absurd h.2.1 h1
  · rename_i h; simp at h; rw [h.2]
  · rename_i h; simp at h
theorem okD_ne {t : List UInt8} (h : PF.okD t = true) : t ≠ [] := by rintro rfl; simp [PF.okD] at h
/-- The loop over an exponent's digits. -/
def ExRel (l : List UInt8) (X : Nat) (w : World) (i e : Value) (w' : World) : Prop :=
  ∃ (j x : Nat), j ≤ l.length ∧ (∀ c ∈ l.drop j, 48 ≤ c.toNat ∧ c.toNat ≤ 57) ∧ PF.exD (l.drop j) x = X ∧ x < 100010 ∧ i = .int .i64 (j : Int) ∧ e = .int .i64 (x : Int) ∧ w = w'
theorem exD_cons (c : UInt8) (r : List UInt8) (e : Nat) : PF.exD (c :: r) e = PF.exD r (if e < 10000 then e * 10 + (c.toNat - 48) else e) := rfl
theorem exV_bd {r : List UInt8} (h : PF.Rest r) : -100010 ≤ PF.exV r ∧ PF.exV r ≤ 100010 := by
  rcases h with rfl | ⟨c, t, rfl, _, h⟩
  · simp [PF.exV]
  · obtain ⟨d, u, rfl, hh⟩ := PF.okX_cases h
    have key : ∀ l, PF.okD l = true → PF.exD l 0 < 100010 := by
      intro l hl
      unfold PF.okD at hl
      simp only [Bool.and_eq_true] at hl
      exact PF.exD_lt l 0 hl.2 (by omega)
    rcases hh with ⟨rfl, h2⟩ | ⟨rfl, h2⟩ | ⟨h3, h4, h2⟩
    · have := key _ h2
      show -100010 ≤ (PF.exD u 0 : Int) ∧ (PF.exD u 0 : Int) ≤ 100010
      omega
    · have := key _ h2
      show -100010 ≤ -(PF.exD u 0 : Int) ∧ -(PF.exD u 0 : Int) ≤ 100010
      omega
    · have := key _ h2
      rw [exV_other h3 h4]
      omega
set_option maxHeartbeats 8000000 in
theorem read205 (s : ByteArray) (hsz : s.size ≤ 400) (neg : Bool) (sg : Nat) (hs : Sgn s neg sg) (E : PF.RF × List UInt8) (hEE : PF.RF.run (s.data.toList.drop sg) PF.rf0 = E) (w : World) :
    Calls Tryz.prog 246 #[.string s] w fun e w' => e = .returned (.tuple #[.int .u64 (E.1.man : Int), .int .i64 (PF.expo E), .bool neg, .bool E.1.tr, .bool false, .int .i64 (s.size : Int), .bool true]) ∧ w = w' := by
  have HEE := Lib.hid hEE
  clear hEE
  have hpos := hs.lt
  have hhead : 48 ≤ s[sg].toNat ∧ s[sg].toNat ≤ 57 := hs.head
  have hx := hex_ways s sg (okM_all hs.ok)
  have h0i : ¬(s.size : Int) ≤ 0 := by omega
  have h0j : (0 : Int) < (s.size : Int) := by omega
  have hemp : s ≠ ByteArray.empty := by rintro rfl; simp at hpos
  have HX := Lib.hid hx
  have HS := Lib.hid hs
  have HH := Lib.hid hhead
  clear hx hs hhead
  go_enter Tryz.func246, Tryz.ntmps246
  go_wp2_with fail
  go_step3
  go_upto_block 0 with (fail)
  go_cut [4, 7] from 28 to 35 (fun n i w' => n = .bool neg ∧ i = .int .i64 (sg : Int) ∧ w = w')
  case first =>
    cases hn : neg with
    | true =>
      obtain ⟨rfl, h45⟩ := HS.out.isneg hn
      obtain ⟨c, hc⟩ : ∃ c, s[0] = c := ⟨_, rfl⟩
      have hc2 : c = 45 := by
        have : s.data.toList[0]? = some s[0] := by
          rw [List.getElem?_eq_getElem (by simpa using h0j)]; rfl
        rw [this, hc] at h45
        exact Option.some.inj h45
      have e1 : ((c.toNat : Int) == 43) = false := by rw [hc2]; rfl
      have e2 : ((c.toNat : Int) == 45) = true := by rw [hc2]; rfl
      clear hc2 h45
      go_wp2_with fail
      go_meet
      case rel => exact ⟨by rw [hn], rfl, rfl⟩
    | false =>
      obtain rfl := HS.out.ispos hn
      obtain ⟨c, hc⟩ : ∃ c, s[0] = c := ⟨_, rfl⟩
      have hh := HH.out
      rw [hc] at hh
      have e1 : ((c.toNat : Int) == 43) = false := by rw [beq_eq_false_iff_ne]; omega
      have e2 : ((c.toNat : Int) == 45) = false := by rw [beq_eq_false_iff_ne]; omega
      clear hh
      go_wp2_with fail
      go_meet
      case rel => exact ⟨by rw [hn], rfl, rfl⟩
  case rest =>
    obtain ⟨rfl, rfl, rfl⟩ := hcut
    go_upto_region 12 with (fail)
    go_cut [54] from 36 to 54 (fun h w' => h = .bool false ∧ w = w')
    case first =>
      by_cases h2 : sg + 2 < s.size
      · have h2i : (sg : Int) + 2 < (s.size : Int) := by omega
        obtain ⟨c, hc⟩ : ∃ c, s[sg] = c := ⟨_, rfl⟩
        by_cases h48 : c.toNat = 48
        · have h48i : ((c.toNat : Int) == 48) = true := by rw [beq_iff_eq]; omega
          have h1i : (sg : Int) + 1 < (s.size : Int) := by omega
          obtain ⟨d, hd⟩ : ∃ d, s[sg + 1] = d := ⟨_, rfl⟩
          have hl : (lowI d == 120) = false := by rw [beq_eq_false_iff_ne, ← hd]; exact HX.out (by omega)
          clear h48
          go_wp2_with ((go_at_call 202; refine (lower200 _ _).mono ?_; rintro e w' ⟨rfl, rfl⟩))
          go_meet
          case rel => exact ⟨rfl, rfl⟩
        · have h48i : ((c.toNat : Int) == 48) = false := by rw [beq_eq_false_iff_ne]; omega
          go_wp2_with (fail)
          go_meet
          case rel => exact ⟨rfl, rfl⟩
      · have h2i : ¬(sg : Int) + 2 < (s.size : Int) := by omega
        go_wp2_with (fail)
        go_meet
        case rel => exact ⟨rfl, rfl⟩
    case rest =>
      obtain ⟨rfl, rfl⟩ := hcut
      go_upto_block 1 with (fail)
      go_step3
      go_upto_block 1 with (fail)
      go_cut [2, 5, 7, 9, 13, 14, 15, 16, 17, 18] from 57 to 138 (fun man tr i us dot saw nd nm dp c w' => us = .bool false ∧ RdEnd s.data.toList (PF.RF.run (s.data.toList.drop sg) PF.rf0) w man tr i dot saw nd nm dp w')
      case first =>
        go_wp2_with fail
        go_loopw [2, 5, 7, 9, 13, 14, 15, 16, 17] (fun man tr i us dot saw nd nm dp w' => us = .bool false ∧ RdRel s.data.toList (PF.RF.run (s.data.toList.drop sg) PF.rf0) w man tr i dot saw nd nm dp w') (fun _ _ i _ _ _ _ _ _ _ => s.size - (intOf i).toNat)
        case atStart => exact ⟨rfl, _, sg, _, PF.Rd.start (by have := HS.out.lt; simp; omega) HS.out.ok, rfl, rfl, rfl, rfl, rfl, rfl, rfl, rfl, rfl⟩
        case round =>
          obtain ⟨rfl, ⟨man, ds, nm, dp, dot, saw, tr⟩, k, sv, hrd, rfl, rfl, rfl, rfl, rfl, rfl, rfl, rfl, rfl⟩ := hrel
          have hok := hrd.ok
          have hm := man_lt hok
          have h1 := hok.nd
          have h2 := hok.nm
          have h3 := hok.dpl
          have h4 := hok.dph
          have hkl := hrd.le
          have hle : s.data.toList.length = s.size := by simp
          rw [hle] at hkl
          simp only at hm h1 h2 h3 h4
          have HR := Lib.hid hrd
          clear hok hrd
          by_cases hk : k < s.size
          · have hki : (k : Int) < (s.size : Int) := by omega
            obtain ⟨c, hc⟩ : ∃ c, s[k] = c := ⟨_, rfl⟩
            have hcl : s.data.toList[k]'(by simpa using hk) = c := hc
            have H0 := HR.out
            by_cases hd : PF.isDig c = true
            · have hd2 := (isDig_iff c).1 hd
              have HD := Lib.hid (H0.digit (by simpa using hk) (by rw [hcl]; exact hd))
              rw [hcl] at HD
              have e95 : ((c.toNat : Int) == 95) = false := by rw [beq_eq_false_iff_ne]; omega
              have e46 : ((c.toNat : Int) == 46) = false := by rw [beq_eq_false_iff_ne]; omega
              have e0 : (48 : Int) ≤ (c.toNat : Int) := by omega
              have e9 : (c.toNat : Int) ≤ 57 := by omega
              clear H0 hcl hle hd
              by_cases hz : c = 48 ∧ ds.length = 0
              · have HN := Lib.hid (HD.out.1 hz)
                have e48 : ((c.toNat : Int) == 48) = true := by rw [beq_iff_eq, hz.1]; rfl
                have en : ((ds.length : Int) == 0) = true := by rw [beq_iff_eq]; omega
                clear HD HR hz
                go_wp2_with fail
                go_roundw
                case rel => exact ⟨rfl, _, k + 1, true, HN.out, rfl, rfl, by go_num, rfl, rfl, rfl, rfl, rfl, rfl⟩
                case measure => simp [intOf]; omega
              · by_cases hn : nm < 19
                · have HN := Lib.hid (HD.out.2.1 hz hn)
                  have hni : (nm : Int) < 19 := by omega
                  have hm18 := hm.2 hn
                  by_cases h48 : c = 48
                  · have e48 : ((c.toNat : Int) == 48) = true := by rw [beq_iff_eq, h48]; rfl
                    have e48n : ((c.toNat : Int) != 48) = false := by rw [h48]; rfl
                    have en : ((ds.length : Int) == 0) = false := by rw [beq_eq_false_iff_ne]; intro h; exact hz ⟨h48, by omega⟩
                    have H48 := Lib.hid h48
                    clear HD HR hz h48 hn hm
                    go_wp2_with fail
                    go_roundw
                    case rel => exact ⟨rfl, _, k + 1, true, HN.out, congrArg (Value.int .u64) (by rw [H48.out]; simp), rfl, by go_num, rfl, rfl, by simp, by go_num, rfl, rfl⟩
                    case measure => simp [intOf]; omega
                  · have e48 : ((c.toNat : Int) == 48) = false := by rw [beq_eq_false_iff_ne]; intro h; exact h48 (UInt8.toNat_inj.1 (by have : (48 : UInt8).toNat = 48 := rfl; omega))
                    have e48n : ((c.toNat : Int) != 48) = true := by rw [bne, e48]; rfl
                    have H48 := Lib.hid h48
                    clear HD HR hz h48 hn hm
                    go_wp2_with fail
                    go_roundw
                    case rel => exact ⟨rfl, _, k + 1, true, HN.out, congrArg (Value.int .u64) (by simp only; omega), rfl, by go_num, rfl, rfl, by simp, by go_num, rfl, rfl⟩
                    case measure => simp [intOf]; omega
                · have HN := Lib.hid (HD.out.2.2 hz hn)
                  have hni : ¬(nm : Int) < 19 := by omega
                  by_cases h48 : c = 48
                  · have e48 : ((c.toNat : Int) == 48) = true := by rw [beq_iff_eq, h48]; rfl
                    have e48n : ((c.toNat : Int) != 48) = false := by rw [h48]; rfl
                    have en : ((ds.length : Int) == 0) = false := by rw [beq_eq_false_iff_ne]; intro h; exact hz ⟨h48, by omega⟩
                    have H48 := Lib.hid h48
                    clear HD HR hz h48 hn hm
                    go_wp2_with fail
                    go_roundw
                    case rel => exact ⟨rfl, _, k + 1, true, HN.out, rfl, congrArg Value.bool (by rw [H48.out]; simp), by go_num, rfl, rfl, by simp, rfl, rfl, rfl⟩
                    case measure => simp [intOf]; omega
                  · have e48 : ((c.toNat : Int) == 48) = false := by rw [beq_eq_false_iff_ne]; intro h; exact h48 (UInt8.toNat_inj.1 (by have : (48 : UInt8).toNat = 48 := rfl; omega))
                    have e48n : ((c.toNat : Int) != 48) = true := by rw [bne, e48]; rfl
                    have H48 := Lib.hid h48
                    clear HD HR hz h48 hn hm
                    go_wp2_with fail
                    go_roundw
                    case rel => exact ⟨rfl, _, k + 1, true, HN.out, rfl, congrArg Value.bool (by simp [H48.out]), by go_num, rfl, rfl, by simp, rfl, rfl, rfl⟩
                    case measure => simp [intOf]; omega
            · have hdf : PF.isDig c = false := by simpa using hd
              by_cases h46 : c = 46
              · obtain ⟨hdot, hnx⟩ := H0.point (by simpa using hk) (by rw [hcl]; exact h46)
                have HN := Lib.hid hnx
                obtain rfl : dot = false := hdot
                have e95 : ((c.toNat : Int) == 95) = false := by rw [h46]; rfl
                have e46 : ((c.toNat : Int) == 46) = true := by rw [h46]; rfl
                clear H0 hnx hcl hle HR h46 hd hdf hm
                go_wp2_with fail
                go_roundw
                case rel => exact ⟨rfl, _, k + 1, true, HN.out, rfl, rfl, by go_num, rfl, rfl, rfl, rfl, rfl, rfl⟩
                case measure => simp [intOf]; omega
              · obtain ⟨hce, hE, hsaw, hX⟩ := H0.exp (by simpa using hk) (by rw [hcl]; exact hdf) (by rw [hcl]; exact h46)
                have HE := Lib.hid hE
                have HO := Lib.hid H0
                rw [hcl] at hce
                have HC := Lib.hid hce
                have HXX := Lib.hid hX
                obtain rfl : saw = true := hsaw
                have hc2 : c.toNat = 101 ∨ c.toNat = 69 := by rcases hce with h | h <;> rw [h] <;> simp
                have e95 : ((c.toNat : Int) == 95) = false := by rw [beq_eq_false_iff_ne]; omega
                have e46 : ((c.toNat : Int) == 46) = false := by rw [beq_eq_false_iff_ne]; omega
                have e0 : (48 : Int) ≤ (c.toNat : Int) := by omega
                have e9 : ¬(c.toNat : Int) ≤ 57 := by omega
                have HCL := Lib.hid hcl
                clear H0 hcl hle HR h46 hd hdf hm hce hX hc2 hE
                go_wp2_with fail
                go_meet
                case rel => exact ⟨rfl, _, k, by rw [PF.Rd.cons (k := k) (by simpa using hk)]; exact HE.out, HO.out.le, .inr ⟨_, _, PF.Rd.cons (k := k) (by simpa using hk), by rw [HCL.out]; exact HC.out, HXX.out⟩, HO.out.ok, rfl, rfl, rfl, rfl, rfl, rfl, rfl, rfl, rfl⟩
          · obtain rfl : k = s.size := by omega
            have H0 := HR.out
            rw [← hle] at H0
            obtain ⟨hE, hsaw⟩ := H0.fin
            have HE := Lib.hid hE
            have HO := Lib.hid H0
            obtain rfl : saw = true := hsaw
            have HL := Lib.hid hle
            clear H0 HR hm hE hle
            go_wp2_with fail
            go_meet
            case rel => exact ⟨rfl, _, s.data.toList.length, by rw [List.drop_length]; exact HE.out, Nat.le_refl _, .inl (List.drop_length), HO.out.ok, rfl, rfl, by rw [HL.out], rfl, rfl, rfl, rfl, rfl, rfl⟩
      case rest =>
        obtain ⟨rfl, ⟨man, ds, nm, dp, dot, saw, tr⟩, k, hE, hkl, hR, hO, rfl, rfl, rfl, rfl, rfl, rfl, rfl, rfl, rfl⟩ := hcut
        go_upto_if 142 with (fail)
        go_cut [17] from 143 to 143 (fun d w' => d = .int .i64 (if dot then dp else (ds.length : Int)) ∧ w = w')
        case first =>
          cases dot <;>
          · go_wp2_with fail
            go_meet
            case rel => exact ⟨rfl, rfl⟩
        case rest =>
          obtain ⟨rfl, rfl⟩ := hcut
          have hks : k ≤ s.size := by simpa using hkl
          have hDl : -400 ≤ (if dot then dp else (ds.length : Int)) := by
            have := hO.dpl
            split
            · simp only at this; omega
            · omega
          have hDh : (if dot then dp else (ds.length : Int)) ≤ 400 := by
            have := hO.dph
            have := hO.nd
            simp only at *
            split <;> omega
          have HE := Lib.hid hE
          have HR := Lib.hid hR
          have HO := Lib.hid hO
          have nmh : nm ≤ 19 := hO.nm19
          obtain ⟨D, hD⟩ : ∃ D, (if dot then dp else (ds.length : Int)) = D := ⟨_, rfl⟩
          have HD := Lib.hid hD
          rw [hD] at hDl hDh ⊢
          have hkl2 : k = s.size ∨ ∃ (h : k < s.size), lowI s[k] = 101 ∧ PF.okX (s.data.toList.drop (k + 1)) = true := by
            rcases hR with h | ⟨c, r, h, h2, h3⟩
            · left
              have := congrArg List.length h
              simp at this
              omega
            · right
              have hlt : k < s.data.toList.length := by
                rcases Nat.lt_or_ge k s.data.toList.length with h' | h'
                · exact h'
                · rw [List.drop_of_length_le h'] at h; cases h
              rw [PF.Rd.cons hlt] at h
              injection h with e1 e2
              have e1 : s[k]'(by simpa using hlt) = c := e1
              refine ⟨by simpa using hlt, ?_, by rw [e2]; exact h3⟩
              rw [e1]
              exact lowI_e c (by rcases h2 with h | h <;> rw [h] <;> simp)
          obtain ⟨b, hb⟩ : ∃ b : Bool, b = decide (k < s.size) := ⟨_, rfl⟩
          have HB := Lib.hid hb
          have HK := Lib.hid hkl2
          clear hE hR hO hD hkl hkl2 hb
          go_upto_region 57 with (fail)
          go_cut [161] from 150 to 161 (fun t w' => t = .bool b ∧ w = w')
          case first =>
            rcases HK.out with h | ⟨h, h1, h2⟩
            · have hi : ¬(k : Int) < (s.size : Int) := by omega
              have hd : decide (k < s.size) = false := by simp; omega
              clear h
              go_wp2_with fail
              go_meet
              case rel => exact ⟨by rw [HB.out, hd], rfl⟩
            · have hi : (k : Int) < (s.size : Int) := by omega
              have hd : decide (k < s.size) = true := by simp; omega
              obtain ⟨c, hc⟩ : ∃ c, s[k] = c := ⟨_, rfl⟩
              rw [hc] at h1
              have h1b : (lowI c == 101) = true := by rw [h1]; rfl
              clear h1 h2
              go_wp2_with ((go_at_call 202; refine (lower200 _ _).mono ?_; rintro e w' ⟨rfl, rfl⟩))
              go_meet
              case rel => exact ⟨by rw [HB.out, hd], rfl⟩
          case rest =>
            obtain ⟨rfl, rfl⟩ := hcut
            go_upto_if 161 with (fail)
            go_cut [7, 9, 17, 19, 20] from 162 to 239 (fun i us d a b w' => us = .bool false ∧ i = .int .i64 (s.size : Int) ∧ d = .int .i64 (D + PF.exV (s.data.toList.drop k)) ∧ w = w')
            case first =>
              rcases HK.out with h | ⟨h, h1, h2⟩
              · obtain rfl : b = false := by rw [HB.out]; simp; omega
                have HKS := Lib.hid h
                clear h
                go_wp2_with fail
                go_meet
                case rel => exact ⟨rfl, congrArg (fun n : Nat => Value.int .i64 (n : Int)) HKS.out, congrArg (Value.int .i64) (by rw [HKS.out, List.drop_of_length_le (by simp)]; simp [PF.exV]), rfl⟩
              · obtain rfl : b = true := by rw [HB.out]; simp; omega
                obtain ⟨c, t, hct, hcs⟩ := PF.okX_cases h2
                have hk1 : k + 1 < s.data.toList.length := by
                  rcases Nat.lt_or_ge (k + 1) s.data.toList.length with h' | h'
                  · exact h'
                  · rw [List.drop_of_length_le h'] at hct; cases hct
                have hk0 : k < s.data.toList.length := by omega
                have hk1s : k + 1 < s.size := by simpa using hk1
                rw [PF.Rd.cons hk1] at hct
                injection hct with hc ht
                have hc : s[k + 1] = c := hc
                have hkk : (k : Int) + 1 < (s.size : Int) := by omega
                have hkk2 : ¬(s.size : Int) ≤ (k : Int) + 1 := by omega
                have h43 : (43 : UInt8).toNat = 43 := rfl
                have h45 : (45 : UInt8).toNat = 45 := rfl
                have HT := Lib.hid ht
                have HCS := Lib.hid hcs
                have HCC := Lib.hid hc
                clear ht hcs h1 h2 hc
                go_upto_block 4 with (fail)
                go_cut [7, 19] from 171 to 178 (fun i sgn w' => ExSg s.data.toList k w i sgn w')
                case first =>
                  rcases HCS.out with ⟨rfl, hD2⟩ | ⟨rfl, hD2⟩ | ⟨n43, n45, hD2⟩
                  · have e43 : ((s[k + 1].toNat : Int) == 43) = true := by rw [HCC.out]; rfl
                    have HD2 := Lib.hid hD2
                    clear hD2
                    go_wp2_with fail
                    go_meet
                    case rel =>
                      have hne := okD_ne HD2.out
                      rw [← HT.out] at hne
                      have hlt : k + 1 + 1 < s.data.toList.length := by
                        rcases Nat.lt_or_ge (k + 1 + 1) s.data.toList.length with h' | h'
                        · exact h'
                        · exact absurd (List.drop_of_length_le h') hne
                      exact ⟨k + 1 + 1, 1, hlt, by rw [HT.out]; exact HD2.out, by rw [PF.Rd.cons hk0, PF.Rd.cons hk1, HT.out, show s.data.toList[k + 1] = 43 from HCC.out, Int.one_mul]; rfl, .inl rfl, by go_num, rfl, rfl⟩
                  · have e43 : ((s[k + 1].toNat : Int) == 43) = false := by rw [HCC.out]; rfl
                    have e45 : ((s[k + 1].toNat : Int) == 45) = true := by rw [HCC.out]; rfl
                    have HD2 := Lib.hid hD2
                    clear hD2
                    go_wp2_with fail
                    go_meet
                    case rel =>
                      have hne := okD_ne HD2.out
                      rw [← HT.out] at hne
                      have hlt : k + 1 + 1 < s.data.toList.length := by
                        rcases Nat.lt_or_ge (k + 1 + 1) s.data.toList.length with h' | h'
                        · exact h'
                        · exact absurd (List.drop_of_length_le h') hne
                      exact ⟨k + 1 + 1, -1, hlt, by rw [HT.out]; exact HD2.out, by rw [PF.Rd.cons hk0, PF.Rd.cons hk1, HT.out, show s.data.toList[k + 1] = 45 from HCC.out, Int.neg_one_mul]; rfl, .inr rfl, by go_num, rfl, rfl⟩
                  · have e43 : ((s[k + 1].toNat : Int) == 43) = false := by rw [HCC.out, beq_eq_false_iff_ne]; intro h; exact n43 (UInt8.toNat_inj.1 (by omega))
                    have e45 : ((s[k + 1].toNat : Int) == 45) = false := by rw [HCC.out, beq_eq_false_iff_ne]; intro h; exact n45 (UInt8.toNat_inj.1 (by omega))
                    have HD2 := Lib.hid hD2
                    have N43 := Lib.hid n43
                    have N45 := Lib.hid n45
                    clear hD2 n43 n45
                    go_wp2_with fail
                    go_meet
                    case rel => exact ⟨k + 1, 1, hk1, by rw [PF.Rd.cons hk1, HT.out, show s.data.toList[k + 1] = c from HCC.out]; exact HD2.out, by rw [PF.Rd.cons hk0, PF.Rd.cons hk1, HT.out, show s.data.toList[k + 1] = c from HCC.out, Int.one_mul]; exact exV_other N43.out N45.out, .inl rfl, by go_num, rfl, rfl⟩
                case rest =>
                  obtain ⟨k1, m, hk1l, hDD, hV, hm1, rfl, rfl, rfl⟩ := hcut
                  have hk1z : k1 < s.size := by simpa using hk1l
                  have hall := (okD_all hDD).2
                  have hdk : 48 ≤ s[k1].toNat ∧ s[k1].toNat ≤ 57 := by
                    rw [PF.Rd.cons hk1l] at hall
                    exact hall _ (List.mem_cons_self ..)
                  have HALL := Lib.hid hall
                  have HV := Lib.hid hV
                  have HM := Lib.hid hm1
                  have mb : -1 ≤ m ∧ m ≤ 1 := by omega
                  obtain ⟨mb1, mb2⟩ := mb
                  clear hDD hall hV HCC HT HCS hm1
                  go_upto_region 67 with (fail)
                  go_cut [194] from 179 to 194 (fun t w' => t = .bool false ∧ w = w')
                  case first =>
                    have i1 : (k1 : Int) < (s.size : Int) := by omega
                    have i2 : ¬(s.size : Int) ≤ (k1 : Int) := by omega
                    obtain ⟨z, hz⟩ : ∃ z, s[k1] = z := ⟨_, rfl⟩
                    rw [hz] at hdk
                    have z1 : ¬(z.toNat : Int) < 48 := by omega
                    have z2 : ¬(57 : Int) < (z.toNat : Int) := by omega
                    clear hdk
                    go_wp2_with fail
                    go_meet
                    case rel => exact ⟨rfl, rfl⟩
                  case rest =>
                    obtain ⟨rfl, rfl⟩ := hcut
                    go_wp2_with fail
                    go_loopw [7, 9, 20] (fun i us e w' => us = .bool false ∧ ExRel s.data.toList (PF.exD (s.data.toList.drop k1) 0) w i e w') (fun i _ _ _ => s.size - (intOf i).toNat)
                    case atStart => exact ⟨rfl, k1, 0, by omega, HALL.out, rfl, by omega, rfl, rfl, rfl⟩
                    case round =>
                      obtain ⟨rfl, j, x, hj, ha, hX, hx, rfl, rfl, rfl⟩ := hrel
                      have hjs : j ≤ s.size := by simpa using hj
                      by_cases hjl : j < s.size
                      · have hjl2 : j < s.data.toList.length := by simpa using hjl
                        obtain ⟨z, hz⟩ : ∃ z, s[j] = z := ⟨_, rfl⟩
                        have hzz : s.data.toList[j] = z := hz
                        rw [PF.Rd.cons hjl2, hzz] at ha hX
                        have hzd := ha z (List.mem_cons_self ..)
                        have ha2 : ∀ c ∈ s.data.toList.drop (j + 1), 48 ≤ c.toNat ∧ c.toNat ≤ 57 := fun c hc => ha c (List.mem_cons_of_mem _ hc)
                        have HA := Lib.hid ha2
                        have HXX := Lib.hid hX
                        have z1 : (48 : Int) ≤ (z.toNat : Int) := by omega
                        have z2 : (z.toNat : Int) ≤ 57 := by omega
                        have z3 : ((z.toNat : Int) == 95) = false := by rw [beq_eq_false_iff_ne]; omega
                        have i1 : (j : Int) < (s.size : Int) := by omega
                        clear ha ha2 hX hzz hzd hj
                        by_cases hx4 : x < 10000
                        · have hx5 : (x : Int) < 10000 := by omega
                          go_wp2_with fail
                          go_roundw
                          case rel => exact ⟨rfl, j + 1, x * 10 + (z.toNat - 48), hjl2, HA.out, by rw [← HXX.out, exD_cons, if_pos hx4], by omega, by go_num, congrArg (Value.int .i64) (by omega), rfl⟩
                          case measure => simp [intOf]; omega
                        · have hx5 : ¬(x : Int) < 10000 := by omega
                          go_wp2_with fail
                          go_roundw
                          case rel => exact ⟨rfl, j + 1, x, hjl2, HA.out, by rw [← HXX.out, exD_cons, if_neg hx4], by omega, by go_num, rfl, rfl⟩
                          case measure => simp [intOf]; omega
                      · have i1 : ¬(j : Int) < (s.size : Int) := by omega
                        rw [List.drop_of_length_le (by simp; omega)] at hX
                        have hX : x = PF.exD (s.data.toList.drop k1) 0 := hX
                        have HXX := Lib.hid hX
                        have hb1 : -100010 ≤ (x : Int) * m := by
                          rcases HM.out with h | h <;> rw [h] <;> omega
                        have hb2 : (x : Int) * m ≤ 100010 := by
                          rcases HM.out with h | h <;> rw [h] <;> omega
                        have HJ : Hid (j = s.size) := Lib.hid (by omega)
                        clear ha hX
                        go_wp2_with fail
                        go_meet
                        case rel => exact ⟨rfl, by rw [HJ.out], congrArg (Value.int .i64) (by rw [HV.out, ← HXX.out, Int.mul_comm]), rfl⟩
            case rest =>
              obtain ⟨rfl, rfl, rfl, rfl⟩ := hcut
              obtain ⟨V, hV⟩ : ∃ V, PF.exV (s.data.toList.drop k) = V := ⟨_, rfl⟩
              have hVb := exV_bd HR.out
              rw [hV] at hVb ⊢
              obtain ⟨hv1, hv2⟩ := hVb
              have HV := Lib.hid hV
              clear hV
              by_cases hman : man = 0
              · have hmi : ((man : Int) != 0) = false := by rw [hman]; rfl
                have HMN := Lib.hid hman
                clear hman
                go_wp2_with fail
                rw [Exit.noGoto_ret]
                refine bodyPost_ret (v := .tuple #[.int .u64 (man : Int), .int .i64 0, .bool neg, .bool tr, .bool false, .int .i64 (s.size : Int), .bool true]) (by simp [results, Tryz.results246, go_sem]) rfl ⟨?_, rfl⟩
                rw [← HEE.out, HE.out]
                unfold PF.expo
                simp only
                rw [if_pos HMN.out]
              · have hmi : ((man : Int) != 0) = true := by simp; omega
                have HMN := Lib.hid hman
                clear hman
                go_wp2_with fail
                rw [Exit.noGoto_ret]
                refine bodyPost_ret (v := .tuple #[.int .u64 (man : Int), .int .i64 (D + V - nm), .bool neg, .bool tr, .bool false, .int .i64 (s.size : Int), .bool true]) (by simp [results, Tryz.results246, go_sem]) rfl ⟨?_, rfl⟩
                rw [← HEE.out, HE.out]
                unfold PF.expo PF.RF.nd
                simp only
                rw [if_neg HMN.out, HV.out, HD.out]
end Go.Proofs.YtigicmnngppipaaGreatDoor
