/- Several texts of this proof, laid together. Conditions: as each says. -/
import Derived.Test.YtigicmnngppipaaGreatDoorFAL
import Derived.Test.YtigicmnngppipaaGreatDoorFAJ
import Derived.Deep.CutBlock
import Derived.Outline
/- A decimal shifted to the right. Condition: the decimal's block. -/
namespace Go.Proofs.YtigicmnngppipaaGreatDoor
open Go.RowKit Go.Dcm
set_option maxRecDepth 100000
abbrev RsP := List Nat × Nat × Nat
def R1 (ds : List Nat) (k : Nat) (P : RsP) (w : World) (g : Nat) (r n : Value) (wr : World) : Prop :=
  ∃ rr nn : Nat, g + rr = ds.length ∧ PF.rs1 k (ds.drop rr) nn rr = P ∧ nn < 10 * 2 ^ k ∧ (rr = 0 → nn = 0) ∧ (1 ≤ rr → 1 ≤ nn) ∧ r = .int .i64 (rr : Int) ∧ n = .int .u64 (nn : Int) ∧ w = wr
def R2 (k : Nat) (P : RsP) (w : World) (g : Nat) (r n : Value) (wr : World) : Prop :=
  ∃ rr nn : Nat, PF.rsz k g nn rr = P.2 ∧ 2 ^ k ≤ nn * 10 ^ g ∧ nn < 10 * 2 ^ k ∧ rr + g ≤ 900 ∧ r = .int .i64 (rr : Int) ∧ n = .int .u64 (nn : Int) ∧ w = wr
def R3 (b : Nat) (f : Nat → Nat) (ds : List Nat) (k r0 : Nat) (Q : List Nat × Nat) (dp : Int) (neg tr : Bool) (w : World) (g : Nat) (r wv n : Value) (wr : World) : Prop :=
  ∃ (rr nn : Nat) (o : List Nat) (f' : Nat → Nat), g = ds.length - rr ∧ rr = r0 + o.length ∧ (rr ≤ ds.length ∨ o = []) ∧ o ++ (PF.rs2 k (ds.drop rr) nn).1 = Q.1 ∧ (PF.rs2 k (ds.drop rr) nn).2 = Q.2 ∧ nn < 10 * 2 ^ k ∧ r = .int .i64 (rr : Int) ∧ wv = .int .i64 (o.length : Int) ∧ n = .int .u64 (nn : Int) ∧ DAt 242 wr b f' ds.length dp neg tr ∧ Digs f' o ∧ (∀ p, o.length ≤ p → f' p = f p) ∧ Below b w wr
def R4 (b L k : Nat) (O : List Nat) (TR : Bool) (dp : Int) (neg : Bool) (w : World) (g : Nat) (wv n : Value) (wr : World) : Prop :=
  ∃ (nn : Nat) (o : List Nat) (f' : Nat → Nat) (tr' : Bool), o.length ≤ 800 ∧ o ++ (PF.rs3 k g nn o.length).1 = O ∧ (tr' || (PF.rs3 k g nn o.length).2) = TR ∧ PF.Fu k g nn ∧ nn < 10 * 2 ^ k ∧ wv = .int .i64 (o.length : Int) ∧ n = .int .u64 (nn : Int) ∧ DAt 242 wr b f' L dp neg tr' ∧ Digs f' o ∧ Below b w wr
theorem rs2_cons (k c : Nat) (t : List Nat) (n : Nat) : PF.rs2 k (c :: t) n = (n / 2 ^ k :: (PF.rs2 k t (n % 2 ^ k * 10 + c)).1, (PF.rs2 k t (n % 2 ^ k * 10 + c)).2) := rfl
theorem rs3_succ (k g n w : Nat) : PF.rs3 k (g + 1) n w = if n = 0 then ([], false) else if w < 800 then (n / 2 ^ k :: (PF.rs3 k g (n % 2 ^ k * 10) (w + 1)).1, (PF.rs3 k g (n % 2 ^ k * 10) (w + 1)).2) else ((PF.rs3 k g (n % 2 ^ k * 10) w).1, decide (0 < n / 2 ^ k) || (PF.rs3 k g (n % 2 ^ k * 10) w).2) := rfl
theorem rs3_zero (k g w : Nat) : PF.rs3 k g 0 w = ([], false) := by
  cases g with
  | zero => rfl
  | succ g => rw [rs3_succ, if_pos rfl]
theorem rs1_nil (k n r : Nat) : PF.rs1 k [] n r = ([], (PF.rsz k (k + 1) n r).1, (PF.rsz k (k + 1) n r).2) := rfl
theorem rs1_cons (k d : Nat) (t : List Nat) (n r : Nat) : PF.rs1 k (d :: t) n r = if n / 2 ^ k = 0 then PF.rs1 k t (n * 10 + d) (r + 1) else (d :: t, n, r) := rfl
theorem rsz_succ (k g n r : Nat) : PF.rsz k (g + 1) n r = if n / 2 ^ k = 0 then PF.rsz k g (n * 10) (r + 1) else (n, r) := rfl
theorem rsz_stop {k n : Nat} (g r : Nat) (h : n / 2 ^ k ≠ 0) : PF.rsz k g n r = (n, r) := by
  cases g with
  | zero => rfl
  | succ g => rw [rsz_succ, if_neg h]
theorem rs1_stop {k n : Nat} (t : List Nat) (r : Nat) (h : n / 2 ^ k ≠ 0) : PF.rs1 k t n r = (t, n, r) := by
  cases t with
  | nil => rw [rs1_nil, rsz_stop _ _ h]
  | cons d t => rw [rs1_cons, if_neg h]
theorem and_mask {n k : Nat} (hn : n < 18446744073709551616) (hk : k ≤ 60) : bits BinOp.and IntKind.u64 (n : Int) ((2 : Int) ^ k - 1) = ((n % 2 ^ k : Nat) : Int) := by
  have p2 := Nat.two_pow_pos k
  have h2 : 2 ^ k ≤ 1152921504606846976 := Nat.pow_le_pow_right (n := 2) (by omega) (show k ≤ 60 from hk)
  have h := bits_and_u64_nat n (2 ^ k - 1) hn (by omega)
  rw [Nat.and_two_pow_sub_one_eq_mod] at h
  rw [← h]
  congr 1
  rw [Int.natCast_sub p2]
  norm_cast
set_option maxHeartbeats 4000000 in
theorem right258 (b : Nat) (f : Nat → Nat) (a : PF.Dec) (neg : Bool) (w : World) (hD : DAt 242 w b f a.ds.length a.dp neg a.tr) (hg : Digs f a.ds) (ha : a.Ok) (hp1 : -1000000 ≤ a.dp) (hp2 : a.dp ≤ 1000000) (k : Nat) (hk60 : k ≤ 60) :
    Calls Tryz.prog 221 #[.pointer (some ⟨b, 0, none⟩), .int .u64 (k : Int)] w (APost b w (a.rsh k) neg) := by
  obtain ⟨p, _, hdrop⟩ := PF.rs1_ok ha k
  obtain ⟨P, hP⟩ : ∃ P, PF.rs1 k a.ds 0 0 = P := ⟨_, rfl⟩
  rw [hP] at p hdrop
  have hle := ha.len
  have hk2 : 2 ^ k ≤ 1152921504606846976 := Nat.pow_le_pow_right (n := 2) (by omega) (show k ≤ 60 from hk60)
  obtain ⟨M, hM⟩ : ∃ M, 2 ^ k = M := ⟨_, rfl⟩
  have hM1 : 1 ≤ M := by rw [← hM]; exact Nat.two_pow_pos k
  have cn := hD.cnd
  have cp := hD.cdp
  have HP := Lib.hid hP
  have HPP := Lib.hid p
  have HDR := Lib.hid hdrop
  have HD := Lib.hid hD
  have HG := Lib.hid hg
  have HA := Lib.hid ha
  have HM := Lib.hid hM
  rw [hM] at hk2
  obtain ⟨L, hLL⟩ : ∃ L, a.ds.length = L := ⟨_, rfl⟩
  have HLL := Lib.hid hLL
  rw [hLL] at hle cn
  clear hP p hdrop hD hg ha hM hLL
  go_enter Tryz.func221, Tryz.ntmps221
  go_upto_block 0 with (fail)
  go_cut [4, 6, 7] from 12 to 48 (fun r n c w' => r = .int .i64 (P.2.2 : Int) ∧ n = .int .u64 (P.2.1 : Int) ∧ w = w')
  case first =>
    go_wp2_with fail
    go_loopg [4, 6] L (fun g r n wr => R1 a.ds k P w g r n wr)
    case atStart => exact ⟨0, 0, HLL.out.symm, by rw [List.drop_zero]; exact HP.out, by rw [HM.out]; omega, fun _ => rfl, fun h => by omega, rfl, rfl, rfl⟩
    case round =>
      obtain ⟨rr, nn, hg, hr, hn, hz1, hz2, rfl, rfl, rfl⟩ := hrel
      rw [HLL.out] at hg
      rw [HM.out] at hn
      have hn64 : nn < 18446744073709551616 := by omega
      obtain ⟨q, hq⟩ : ∃ q, nn / 2 ^ k = q := ⟨_, rfl⟩
      have qi : (nn : Int) / 2 ^ k = (q : Int) := by rw [← hq]; norm_cast
      have HQ := Lib.hid hq
      by_cases hq0 : q = 0
      · have q1 : ((q : Int) == 0) = true := by rw [hq0]; rfl
        have hnM : nn < M := by
          have := HQ.out
          rw [hq0, HM.out] at this
          rcases Nat.div_eq_zero_iff.1 this with h | h
          · omega
          · exact h
        by_cases hrl : rr < L
        · obtain ⟨gq, rfl⟩ : ∃ x, gk = x + 1 := ⟨gk - 1, by omega⟩
          have r1 : ¬(L : Int) ≤ (rr : Int) := by omega
          have r8 : (rr : Int) < 800 := by omega
          have cd := HD.out.dig (i := rr) (by omega)
          obtain ⟨c, hc⟩ : ∃ c, f rr = c := ⟨_, rfl⟩
          obtain ⟨d, hd⟩ : ∃ d, a.ds.getD rr 0 = d := ⟨_, rfl⟩
          have hfc := HG.out rr (by rw [HLL.out]; exact hrl)
          have hd9 : d ≤ 9 := by
            rw [← hd, List.getD_eq_getElem?_getD, List.getElem?_eq_getElem (by rw [HLL.out]; exact hrl), Option.getD_some]
            exact HA.out.dig _ (List.getElem_mem _)
          have hd1 : rr = 0 → d ≠ 0 := by
            intro h
            have h1 := HA.out.one
            subst h
            rw [← hd]
            revert h1
            cases a.ds <;> simp
          rw [hc, hd] at hfc
          rw [hc] at cd
          have hc1 : 48 ≤ c := by omega
          have hc2 : c ≤ 57 := by omega
          have hr2 : PF.rs1 k (a.ds.drop (rr + 1)) (nn * 10 + d) (rr + 1) = P := by
            rw [← hr, drop_cons (ds := a.ds) (m := rr) (by rw [HLL.out]; exact hrl), hd, rs1_cons, hq, hq0, if_pos rfl]
          have HST : Hid (R1 a.ds k P w gq (.int .i64 ((rr : Int) + 1)) (.int .u64 ((nn : Int) * 10 + (c : Int) - 48)) w) := Lib.hid ⟨rr + 1, nn * 10 + d, by rw [HLL.out]; omega, hr2, by rw [HM.out]; omega, fun h => by omega, fun _ => by
            by_cases h0 : rr = 0
            · have := hd1 h0; omega
            · have := hz2 (by omega); omega, by go_num, congrArg (Value.int .u64) (by omega), rfl⟩
          clear hr hr2 hg hz1 hz2 hd1 hd hc hfc hq hq0
          go_wp2_with fail
          go_roundg gq
          case measure => omega
          case rel => exact HST.out
        · obtain rfl : L = rr := by omega
          have hL1 := HA.out.val.2.2.1
          rw [HLL.out] at hL1
          have r1 : (L : Int) ≤ (L : Int) := by omega
          have hn1 : 1 ≤ nn := hz2 hL1
          have n0 : ((nn : Int) == 0) = false := by rw [beq_eq_false_iff_ne]; omega
          have hPP : P = ([], (PF.rsz k (k + 1) nn L).1, (PF.rsz k (k + 1) nn L).2) := by rw [← hr, List.drop_of_length_le (by rw [HLL.out]; exact Nat.le_refl _), rs1_nil]
          have h4 : 2 ^ k ≤ nn * 10 ^ (k + 1) := by
            have a1 := PF.two_le_ten k
            have b1 : 1 * 10 ^ (k + 1) ≤ nn * 10 ^ (k + 1) := Nat.mul_le_mul_right _ hn1
            rw [Nat.pow_succ] at b1 ⊢
            omega
          have HST : Hid (R2 k P w (k + 1) (.int .i64 (L : Int)) (.int .u64 (nn : Int)) w) := Lib.hid ⟨L, nn, by rw [hPP], h4, by rw [HM.out]; omega, by omega, rfl, rfl, rfl⟩
          clear hr hg hz1 hz2 hq hq0 hPP h4
          go_wp2_with fail
          go_loopg [4, 6] (k + 1) (fun g r n wr => R2 k P w g r n wr)
          case atStart => exact HST.out
          case round =>
            obtain ⟨rr, mm, hr, h4, hm, hb, rfl, rfl, rfl⟩ := hrel
            rw [HM.out] at hm
            have hm64 : mm < 18446744073709551616 := by omega
            obtain ⟨q2, hq2⟩ : ∃ q, mm / 2 ^ k = q := ⟨_, rfl⟩
            have qi2 : (mm : Int) / 2 ^ k = (q2 : Int) := by rw [← hq2]; norm_cast
            by_cases hq0 : q2 = 0
            · have q3 : ((q2 : Int) == 0) = true := by rw [hq0]; rfl
              have hmM : mm < M := by
                rw [hq0, HM.out] at hq2
                rcases Nat.div_eq_zero_iff.1 hq2 with h | h
                · omega
                · exact h
              cases gk with
              | zero => 
                rw [HM.out] at h4
                simp at h4
                omega
              | succ g =>
                have HST2 : Hid (R2 k P w g (.int .i64 ((rr : Int) + 1)) (.int .u64 ((mm : Int) * 10)) w) := Lib.hid ⟨rr + 1, mm * 10, by rw [← hr, rsz_succ, hq2, hq0, if_pos rfl], by rw [Nat.mul_assoc, ← Nat.pow_succ']; exact h4, by rw [HM.out]; omega, by omega, by go_num, by go_num, rfl⟩
                clear hr h4 hq2 hq0
                go_wp2_with fail
                go_roundg g
                case measure => omega
                case rel => exact HST2.out
            · have q3 : ((q2 : Int) == 0) = false := by rw [beq_eq_false_iff_ne]; omega
              have hP2 : P.2 = (mm, rr) := by rw [← hr, rsz_stop _ _ (by rw [hq2]; exact hq0)]
              have HPE := Lib.hid hP2
              clear hr h4 hq2 hq0 hP2
              go_wp2_with fail
              go_meet
              case rel => exact ⟨by rw [HPE.out], by rw [HPE.out], rfl⟩
      · have q1 : ((q : Int) == 0) = false := by rw [beq_eq_false_iff_ne]; omega
        have hPP : P = (a.ds.drop rr, nn, rr) := by rw [← hr, rs1_stop _ _ (by rw [hq]; exact hq0)]
        have HPE := Lib.hid hPP
        clear hr hg hz1 hz2 hq hq0 hPP
        go_wp2_with fail
        go_meet
        case rel => exact ⟨by rw [HPE.out], by rw [HPE.out], rfl⟩
  case rest =>
    obtain ⟨rfl, rfl, rfl⟩ := hcut
    obtain ⟨r0, hr0⟩ : ∃ r0, P.2.2 = r0 := ⟨_, rfl⟩
    obtain ⟨n0, hn0⟩ : ∃ n0, P.2.1 = n0 := ⟨_, rfl⟩
    have hpp := HPP.out
    rw [hr0, hn0] at hpp
    have r1 := hpp.r1
    have nhi := hpp.hi
    rw [HM.out] at nhi
    have r21 : r0 ≤ 100 := by
      rcases hpp.few with h | h
      · omega
      · have h2 : 2 ^ k ≤ 2 ^ 60 := Nat.pow_le_pow_right (by omega) hk60
        have h3 : (2 : Nat) ^ 60 < 10 ^ 60 := by decide
        have := (Nat.pow_lt_pow_iff_right (show 1 < 10 by omega)).1 (Nat.lt_of_lt_of_le h (Nat.le_of_lt (Nat.lt_of_le_of_lt h2 h3)))
        omega
    have hdr := HDR.out
    rw [hr0] at hdr
    obtain ⟨Q, hQ⟩ : ∃ Q, PF.rs2 k (a.ds.drop r0) n0 = Q := ⟨_, rfl⟩
    have hq1 := (PF.rs2_spec k (a.ds.drop r0) n0 (fun d hd => HA.out.dig d (List.mem_of_mem_drop hd)) hpp.hi).2.1
    rw [hQ] at hq1
    have hql : Q.1.length ≤ 800 := by rw [hq1, List.length_drop]; have := HA.out.len; omega
    obtain ⟨O, hO⟩ : ∃ O, Q.1 ++ (PF.rs3 k (k + 2) Q.2 Q.1.length).1 = O := ⟨_, rfl⟩
    obtain ⟨TR, hTR⟩ : ∃ TR, (a.tr || (PF.rs3 k (k + 2) Q.2 Q.1.length).2) = TR := ⟨_, rfl⟩
    obtain ⟨dq, hdq⟩ : ∃ dq, a.dp - ((r0 : Int) - 1) = dq := ⟨_, rfl⟩
    have hfin : a.rsh k = PF.Dec.trim ⟨O, dq, TR⟩ := by
      rw [PF.rsh_eq]
      unfold PF.Dec.rsh0
      dsimp only
      rw [HP.out, hr0, hn0, hdr, hQ, hO, hTR, hdq]
    have HFIN := Lib.hid hfin
    have HQ := Lib.hid hQ
    have HO := Lib.hid hO
    have HTR := Lib.hid hTR
    have HPP2 := Lib.hid hpp
    have HQL := Lib.hid hql
    have wM1 : IntKind.u64.wrap ((1 : Int) * 2 ^ k) = (M : Int) := by
      have e : (1 : Int) * 2 ^ k = (M : Int) := by rw [Int.one_mul, ← HM.out]; norm_cast
      rw [e, IntKind.wrap_u64]; omega
    have wM2 : IntKind.u64.wrap ((2 : Int) ^ k) = (M : Int) := by rw [← wM1, Int.one_mul]
    have fr := HD.out.free 801
    have HST : Hid (R3 b f a.ds k r0 Q dq neg a.tr w (L - r0) (.int .i64 (r0 : Int)) (.int .i64 0) (.int .u64 (n0 : Int)) (w.setCell ⟨b, 801, none⟩ (.int .i64 dq))) := Lib.hid ⟨r0, n0, [], f, by rw [HLL.out], rfl, .inr rfl, by rw [hQ]; rfl, by rw [hQ], hpp.hi, rfl, rfl, rfl, HD.out.setDp dq, fun i hi => by simp at hi, fun _ _ => rfl, (Below.refl _ _).setCell (p := ⟨b, 801, none⟩) (Nat.le_refl _) _⟩
    rw [hr0, hn0]
    clear hpp hdr hQ hq1 hql hO hTR hfin hr0 hn0
    go_wp2_with fail
    go_loopg [4, 5, 6] (L - r0) (fun g r wv n wr => R3 b f a.ds k r0 Q dq neg a.tr w g r wv n wr)
    case atStart => exact HST.out
    case round =>
      obtain ⟨rr, nn, o, f', hg, hr, hor, h1, h2, hn, rfl, rfl, rfl, hd, hdg, hold, hbl⟩ := hrel
      rw [HLL.out] at hg hor hd
      rw [HM.out] at hn
      have cn3 := hd.cnd
      obtain ⟨ww, hww⟩ : ∃ ww, o.length = ww := ⟨_, rfl⟩
      rw [hww] at hr hold ⊢
      have HWW := Lib.hid hww
      have hn64 : nn < 18446744073709551616 := by omega
      by_cases hrl : rr < L
      · obtain ⟨gq, rfl⟩ : ∃ x, gk = x + 1 := ⟨gk - 1, by omega⟩
        have ri : (rr : Int) < (L : Int) := by omega
        have r8 : (rr : Int) < 800 := by omega
        have w8 : ww < 800 := by omega
        have w8i : (ww : Int) < 800 := by omega
        have cd := hd.dig (i := rr) (by omega)
        have cw := hd.dig (i := ww) w8
        have fw := hd.free ww
        rw [hold rr (by omega)] at cd
        obtain ⟨c, hc⟩ : ∃ c, f rr = c := ⟨_, rfl⟩
        obtain ⟨d, hdd⟩ : ∃ d, a.ds.getD rr 0 = d := ⟨_, rfl⟩
        have hfc := HG.out rr (by rw [HLL.out]; exact hrl)
        have hd9 : d ≤ 9 := by
          rw [← hdd, List.getD_eq_getElem?_getD, List.getElem?_eq_getElem (by rw [HLL.out]; exact hrl), Option.getD_some]
          exact HA.out.dig _ (List.getElem_mem _)
        rw [hc, hdd] at hfc
        rw [hc] at cd
        have hc1 : 48 ≤ c := by omega
        have hc2 : c ≤ 57 := by omega
        obtain ⟨q, hq⟩ : ∃ q, nn / 2 ^ k = q := ⟨_, rfl⟩
        have qi : (nn : Int) / 2 ^ k = (q : Int) := by rw [← hq]; norm_cast
        have q9 : q ≤ 9 := by rw [← hq]; exact PF.dig_le9 (by rw [HM.out]; exact hn)
        obtain ⟨m, hm⟩ : ∃ m, nn % 2 ^ k = m := ⟨_, rfl⟩
        have hmM : m < M := by rw [← hm, HM.out]; exact Nat.mod_lt _ (by omega)
        have am : bits BinOp.and IntKind.u64 (nn : Int) ((M : Int) - 1) = (m : Int) := by
          have h := and_mask hn64 hk60
          have e : (2 : Int) ^ k = (M : Int) := by rw [← HM.out]; norm_cast
          rw [e, hm] at h
          exact h
        rw [drop_cons (ds := a.ds) (m := rr) (by rw [HLL.out]; exact hrl), hdd, rs2_cons, hq, hm] at h1 h2
        have hdf : Digs (upd f' ww (q + 48)) (o ++ [q]) := by
          have := hdg.snoc q
          rw [hww, Nat.add_comm 48 q] at this
          exact this
        have HST2 : Hid (R3 b f a.ds k r0 Q dq neg a.tr w gq (.int .i64 ((rr : Int) + 1)) (.int .i64 ((ww : Int) + 1)) (.int .u64 ((m : Int) * 10 + (c : Int) - 48)) (wr.setCell ⟨b, ww, none⟩ (.int .u8 ((q : Int) + 48)))) := Lib.hid ⟨rr + 1, m * 10 + d, o ++ [q], upd f' ww (q + 48), by rw [HLL.out]; omega, by rw [List.length_append, List.length_singleton, hww]; omega, .inl (by rw [HLL.out]; omega), by rw [List.append_assoc]; exact h1, h2, by rw [HM.out]; omega, by go_num, congrArg (Value.int .i64) (by rw [List.length_append, List.length_singleton, hww]; omega), congrArg (Value.int .u64) (by omega), by have := hd.setDig (i := ww) w8 (q + 48); rw [← HLL.out] at this; simpa using this, hdf, fun i hi => by rw [List.length_append, List.length_singleton, hww] at hi; rw [upd_ne _ _ (by omega), hold i (by omega)], hbl.setCell (p := ⟨b, ww, none⟩) (Nat.le_refl _) _⟩
        clear hg hr hor h1 h2 hd hdg hold hbl hww hc hdd hfc hq hm hdf hd9
        go_wp2_with fail
        go_roundg gq
        case measure => omega
        case rel => exact HST2.out
      · have ri : ¬(rr : Int) < (L : Int) := by omega
        rw [List.drop_of_length_le (by rw [HLL.out]; omega)] at h1 h2
        have h1' : o = Q.1 := by
          have e : (PF.rs2 k [] nn).1 = [] := rfl
          rw [e, List.append_nil] at h1
          exact h1
        have h2' : nn = Q.2 := h2
        have HST4 : Hid (R4 b L k O TR dq neg w (k + 2) (.int .i64 (ww : Int)) (.int .u64 (nn : Int)) wr) := Lib.hid ⟨nn, o, f', a.tr, by rw [h1']; exact HQL.out, by rw [h1', h2']; exact HO.out, by rw [h1', h2']; exact HTR.out, PF.Fu.start k nn, by rw [HM.out]; exact hn, by rw [hww], rfl, hd, hdg, hbl⟩
        clear hg hr hor h1 h2 hd hdg hold hbl hww h1' h2'
        go_wp2_with fail
        go_loopg [5, 6] (k + 2) (fun g wv n wr => R4 b L k O TR dq neg w g wv n wr)
        case atStart => exact HST4.out
        case round =>
          obtain ⟨nn, o, f', tr', hol, h1, h2, hfu, hn, rfl, rfl, hd, hdg, hbl⟩ := hrel
          rw [HM.out] at hn
          have hn64 : nn < 18446744073709551616 := by omega
          obtain ⟨ww, hww⟩ : ∃ ww, o.length = ww := ⟨_, rfl⟩
          rw [hww] at h1 h2 hol ⊢
          by_cases hn0 : nn = 0
          · subst hn0
            rw [rs3_zero] at h1 h2
            have h1' : o = O := by simpa using h1
            have h2' : tr' = TR := by simpa using h2
            subst h1' h2'
            have f8 := hd.free 800
            have c8 := hd.cnd
            have HD3 := Lib.hid hd
            have HDG := Lib.hid hdg
            have HBL := Lib.hid hbl
            have HWW := Lib.hid hww
            have HOL := Lib.hid hol
            clear h1 h2 hfu hd hdg hbl hww hn hol
            go_wp2_with fail
            refine (trim256 b f' o dq neg tr' _ (by rw [HWW.out]; exact HD3.out.setNd _) HDG.out (by rw [HWW.out]; exact HOL.out)).mono ?_
            rintro e w2 h2
            have he := h2.1
            subst he
            have H2 := Lib.hid h2
            clear h2
            go_wp2_with fail
            go_end0
            rw [HFIN.out]
            exact apost_of_trim H2.out HDG.out (HBL.out.setCell (p := ⟨b, 800, none⟩) (Nat.le_refl _) _)
          · obtain ⟨g, rfl, hfu2⟩ := hfu.pos hn0
            have n1 : (0 : Int) < (nn : Int) := by omega
            obtain ⟨q, hq⟩ : ∃ q, nn / 2 ^ k = q := ⟨_, rfl⟩
            have qi : (nn : Int) / 2 ^ k = (q : Int) := by rw [← hq]; norm_cast
            have q9 : q ≤ 9 := by rw [← hq]; exact PF.dig_le9 (by rw [HM.out]; exact hn)
            obtain ⟨m, hm⟩ : ∃ m, nn % 2 ^ k = m := ⟨_, rfl⟩
            have hmM : m < M := by rw [← hm, HM.out]; exact Nat.mod_lt _ (by omega)
            have am : bits BinOp.and IntKind.u64 (nn : Int) ((M : Int) - 1) = (m : Int) := by
              have h := and_mask hn64 hk60
              have e : (2 : Int) ^ k = (M : Int) := by rw [← HM.out]; norm_cast
              rw [e, hm] at h
              exact h
            rw [rs3_succ, if_neg hn0, hq, hm] at h1 h2
            rw [hm] at hfu2
            by_cases hw8 : ww < 800
            · have w8i : (ww : Int) < 800 := by omega
              have cw := hd.dig (i := ww) hw8
              have fw := hd.free ww
              rw [if_pos hw8] at h1 h2
              have hdf : Digs (upd f' ww (q + 48)) (o ++ [q]) := by
                have := hdg.snoc q
                rw [hww, Nat.add_comm 48 q] at this
                exact this
              have HST2 : Hid (R4 b L k O TR dq neg w g (.int .i64 ((ww : Int) + 1)) (.int .u64 ((m : Int) * 10)) (wr.setCell ⟨b, ww, none⟩ (.int .u8 ((q : Int) + 48)))) := Lib.hid ⟨m * 10, o ++ [q], upd f' ww (q + 48), tr', by rw [List.length_append, List.length_singleton, hww]; omega, by rw [List.length_append, List.length_singleton, hww, List.append_assoc]; exact h1, by rw [List.length_append, List.length_singleton, hww]; exact h2, hfu2, by rw [HM.out]; omega, congrArg (Value.int .i64) (by rw [List.length_append, List.length_singleton, hww]; omega), by go_num, by have := hd.setDig (i := ww) hw8 (q + 48); simpa using this, hdf, hbl.setCell (p := ⟨b, ww, none⟩) (Nat.le_refl _) _⟩
              clear h1 h2 hfu hfu2 hd hdg hbl hww hdf hq hm hol hn0
              go_wp2_with fail
              go_roundg g
              case measure => omega
              case rel => exact HST2.out
            · have w8i : ¬(ww : Int) < 800 := by omega
              have ct := hd.ctr
              have ft := hd.free 803
              rw [if_neg hw8] at h1 h2
              by_cases hq0 : q = 0
              · have q1 : ¬(0 : Int) < (q : Int) := by omega
                rw [hq0] at h2
                have h2b : (tr' || (PF.rs3 k g (m * 10) ww).2) = TR := by rw [← h2]; rfl
                have HST2 : Hid (R4 b L k O TR dq neg w g (.int .i64 (ww : Int)) (.int .u64 ((m : Int) * 10)) wr) := Lib.hid ⟨m * 10, o, f', tr', by rw [hww]; omega, by rw [hww]; exact h1, by rw [hww]; exact h2b, hfu2, by rw [HM.out]; omega, by rw [hww], by go_num, hd, hdg, hbl⟩
                clear h1 h2 hfu hfu2 hd hdg hbl hww hq hm hol hn0 hq0 h2b
                go_wp2_with fail
                go_roundg g
                case measure => omega
                case rel => exact HST2.out
              · have q1 : (0 : Int) < (q : Int) := by omega
                have h2b : (true || (PF.rs3 k g (m * 10) ww).2) = TR := by rw [← h2, decide_eq_true (show 0 < q by omega)]; simp
                have HST2 : Hid (R4 b L k O TR dq neg w g (.int .i64 (ww : Int)) (.int .u64 ((m : Int) * 10)) (wr.setCell ⟨b, 803, none⟩ (.bool true))) := Lib.hid ⟨m * 10, o, f', true, by rw [hww]; omega, by rw [hww]; exact h1, by rw [hww]; exact h2b, hfu2, by rw [HM.out]; omega, by rw [hww], by go_num, hd.setTr true, hdg, hbl.setCell (p := ⟨b, 803, none⟩) (Nat.le_refl _) _⟩
                clear h1 h2 hfu hfu2 hd hdg hbl hww hq hm hol hn0 hq0 h2b
                go_wp2_with fail
                go_roundg g
                case measure => omega
                case rel => exact HST2.out
end Go.Proofs.YtigicmnngppipaaGreatDoor
/- A decimal shifted either way. Condition: the decimal's block, the table of how many digits a shift brings. -/
namespace Go.Proofs.YtigicmnngppipaaGreatDoor
open Go.RowKit Go.Dcm
set_option maxRecDepth 100000
theorem rsh_dp {a : PF.Dec} (h : a.Ok) (k : Nat) : a.dp - k ≤ (a.rsh k).dp ∧ (a.rsh k).dp ≤ a.dp := by
  obtain ⟨p, _, _⟩ := PF.rs1_ok h k
  obtain ⟨_, _, e⟩ := PF.rsh_ok h k
  have r1 := p.r1
  have rf : (PF.rs1 k a.ds 0 0).2.2 ≤ k + 1 := by
    rcases p.few with h | h
    · omega
    · have := (Nat.pow_lt_pow_iff_right (show 1 < 10 by omega)).1 (Nat.lt_of_lt_of_le h (PF.two_le_ten k))
      omega
  rw [e]
  omega
theorem lsh_dp {a : PF.Dec} (h : a.Ok) {k : Nat} (hk : 1 ≤ k) : a.dp ≤ (a.lsh k).dp ∧ (a.lsh k).dp ≤ a.dp + k := by
  obtain ⟨_, _, e⟩ := PF.lsh_ok h k
  have hl := PF.lsh_len h hk
  obtain ⟨c1, c2, _, _⟩ := PF.cN_spec hk
  rw [e, hl]
  split <;> omega
theorem APost.ends {b : Nat} {w : World} {a : PF.Dec} {neg : Bool} {e : Ending} {w' : World} (h : APost b w a neg e w') : e = .returned (.tuple #[]) := h.1
theorem Cheat.below {B o : Nat} {S : Nat → ByteArray} {w w' : World} {b : Nat} (h : Cheat B o S w) (hb : Below b w w') (h16 : 14 < b) (hB : B < b) : Cheat B o S w' :=
  ⟨(hb.cell (p := ⟨14, 0, none⟩) h16).trans h.v, fun k h1 h2 => (hb.cell (p := ⟨B, _, none⟩) hB).trans (h.d k h1 h2), fun k h1 h2 => ⟨(hb.cell (p := ⟨B, _, none⟩) hB).trans (h.s k h1 h2).1, (h.s k h1 h2).2⟩⟩
theorem shiftL227 (b : Nat) (f : Nat → Nat) (a : PF.Dec) (neg : Bool) (w : World) (hD : DAt 242 w b f a.ds.length a.dp neg a.tr) (hg : Digs f a.ds) (ha : a.Ok) (hp1 : -1000000 ≤ a.dp) (hp2 : a.dp ≤ 1000000) (k : Nat) (hk : 1 ≤ k) (hk60 : k ≤ 60) {B o : Nat} {S : Nat → ByteArray} (hc : Cheat B o S w) :
    Calls Tryz.prog 188 #[.pointer (some ⟨b, 0, none⟩), .int .i64 (k : Int)] w (APost b w (a.lsh k) neg) := by
  have cn := hD.cnd
  have hl1 := ha.val.2.2.1
  have L0 : ((a.ds.length : Int) == 0) = false := by rw [beq_eq_false_iff_ne]; omega
  have k0 : (0 : Int) < (k : Int) := by omega
  have k6 : ¬(60 : Int) < (k : Int) := by omega
  have M := Lib.hid (left257 b f a neg w hD hg ha hp1 hp2 k hk hk60 hc)
  clear hD hg ha hc hl1
  go_enter Tryz.func188, Tryz.ntmps188
  go_wp2_with fail
  go_loopg [1] 0 (fun _ s wr => s = .int .i64 (k : Int) ∧ w = wr)
  case atStart => exact ⟨rfl, rfl⟩
  case round =>
    obtain ⟨rfl, rfl⟩ := hrel
    go_wp2_with fail
    refine M.out.mono ?_
    rintro e w2 h2
    have he := h2.ends
    subst he
    have H2 := Lib.hid h2
    clear h2
    go_wp2_with fail
    go_end0
    exact H2.out
def ShR (b : Nat) (a : PF.Dec) (neg : Bool) (n0 : Nat) (w : World) (g : Nat) (s : Value) (wr : World) : Prop :=
  ∃ (a' : PF.Dec) (f' : Nat → Nat) (R : Int), 1 ≤ g ∧ g ≤ n0 ∧ a'.rshN g = a.rshN n0 ∧ a'.Ok ∧ a.dp - ((n0 : Int) - g) ≤ a'.dp ∧ a'.dp ≤ a.dp ∧ R = -(g : Int) ∧ s = .int .i64 R ∧ DAt 242 wr b f' a'.ds.length a'.dp neg a'.tr ∧ Digs f' a'.ds ∧ Below b w wr
theorem rshN_big {a : PF.Dec} {k : Nat} (h : 60 < k) : a.rshN k = (a.rsh 60).rshN (k - 60) := by rw [PF.Dec.rshN, if_pos h]
theorem rshN_small {a : PF.Dec} {k : Nat} (h : ¬60 < k) : a.rshN k = a.rsh k := by rw [PF.Dec.rshN, if_neg h]
theorem shiftR227 (b : Nat) (f : Nat → Nat) (a : PF.Dec) (neg : Bool) (w : World) (hD : DAt 242 w b f a.ds.length a.dp neg a.tr) (hg : Digs f a.ds) (ha : a.Ok) (hp1 : -500000 ≤ a.dp) (hp2 : a.dp ≤ 500000) (n : Nat) (hn : 1 ≤ n) (hn5 : n ≤ 400000) :
    Calls Tryz.prog 188 #[.pointer (some ⟨b, 0, none⟩), .int .i64 (-(n : Int))] w (APost b w (a.rshN n) neg) := by
  have cn := hD.cnd
  have hl1 := ha.val.2.2.1
  have L0 : ((a.ds.length : Int) == 0) = false := by rw [beq_eq_false_iff_ne]; omega
  obtain ⟨R, hR⟩ : ∃ R : Int, -(n : Int) = R := ⟨_, rfl⟩
  have k0 : ¬(0 : Int) < R := by omega
  have k1 : R < 0 := by omega
  have HST : Hid (ShR b a neg n w n (.int .i64 R) w) := Lib.hid ⟨a, f, R, hn, Nat.le_refl _, rfl, ha, by omega, by omega, hR.symm, rfl, hD, hg, Below.refl _ _⟩
  rw [hR]
  clear hD hg ha hl1 hR
  go_enter Tryz.func188, Tryz.ntmps188
  go_wp2_with fail
  go_loopg [1] n (fun g s wr => ShR b a neg n w g s wr)
  case atStart => exact HST.out
  case round =>
    obtain ⟨a', f', R, h1, hgn, hr, hok, hd1, hd2, hR, rfl, hd, hdg, hbl⟩ := hrel
    by_cases h60 : 60 < gk
    · have r6 : R < -60 := by omega
      rw [rshN_big h60] at hr
      have hdp := rsh_dp hok 60
      have M := Lib.hid (right258 b f' a' neg wr hd hdg hok (by omega) (by omega) 60 (by omega))
      have HR := Lib.hid hr
      have HOK := Lib.hid (PF.rsh_ok hok 60).1
      have HBL := Lib.hid hbl
      have HRR := Lib.hid hR
      have R1 : -500000 ≤ R := by omega
      have HD1 := Lib.hid hd1
      have HD2 := Lib.hid hd2
      have HDP := Lib.hid hdp
      clear hr hok hd1 hd2 hR hd hdg hbl hdp
      go_wp2_with fail
      refine M.out.mono ?_
      rintro e w2 h2
      have he := h2.ends
      subst he
      have H2 := Lib.hid h2
      clear h2
      go_wp2_with fail
      go_roundg (gk - 60)
      case measure => omega
      case rel =>
        obtain ⟨_, f2, hx, hy, hz⟩ := H2.out
        have e1 := HRR.out
        have e2 := HD1.out
        have e3 := HD2.out
        have e4 := HDP.out
        exact ⟨a'.rsh 60, f2, R + 60, by omega, by omega, HR.out, HOK.out, by omega, by omega, by omega, rfl, hx, hy, HBL.out.trans hz⟩
    · have r6 : ¬R < -60 := by omega
      rw [rshN_small h60] at hr
      have M := Lib.hid (right258 b f' a' neg wr hd hdg hok (by omega) (by omega) gk (by omega))
      have HR := Lib.hid hr
      have HBL := Lib.hid hbl
      have hRn : -R = (gk : Int) := by omega
      have R1 : -500000 ≤ R := by omega
      have R2 : R ≤ 0 := by omega
      clear hr hok hd1 hd2 hR hd hdg hbl
      go_wp2_with fail
      refine M.out.mono ?_
      rintro e w2 h2
      have he := h2.ends
      subst he
      have H2 := Lib.hid h2
      clear h2
      go_wp2_with fail
      go_end0
      obtain ⟨_, f2, hx, hy, hz⟩ := H2.out
      rw [← HR.out]
      exact ⟨rfl, f2, hx, hy, HBL.out.trans hz⟩
end Go.Proofs.YtigicmnngppipaaGreatDoor
