/- Several texts of this proof, laid together. Conditions: as each says. -/
import Derived.Test.YtagiddbfhlokcaaGreatDoorLAC
import Derived.Deep.CutBlock
import Derived.Outline
import Derived.ScopeJumps
import Derived.WalkMore
import Derived.Test.YtagiddbfhlokcaaGreatDoorLAB
/- A decimal shifted to the right. Condition: the decimal's block. -/
namespace Go.Proofs.YtagiddbfhlokcaaGreatDoor
open Go.RowKit Go.Dcm
set_option maxRecDepth 100000
abbrev RsP := List Nat × Nat × Nat
def R1 (ds : List Nat) (k : Nat) (P : RsP) (w : World) (g : Nat) (r n : Value) (wr : World) : Prop :=
  ∃ rr nn : Nat, g + rr = ds.length ∧ PF.rs1 k (ds.drop rr) nn rr = P ∧ nn < 10 * 2 ^ k ∧ (rr = 0 → nn = 0) ∧ (1 ≤ rr → 1 ≤ nn) ∧ r = .int .i64 (rr : Int) ∧ n = .int .u64 (nn : Int) ∧ w = wr
def R2 (k : Nat) (P : RsP) (w : World) (g : Nat) (r n : Value) (wr : World) : Prop :=
  ∃ rr nn : Nat, PF.rsz k g nn rr = P.2 ∧ 2 ^ k ≤ nn * 10 ^ g ∧ nn < 10 * 2 ^ k ∧ rr + g ≤ 900 ∧ r = .int .i64 (rr : Int) ∧ n = .int .u64 (nn : Int) ∧ w = wr
def R3 (b : Nat) (f : Nat → Nat) (ds : List Nat) (k r0 : Nat) (Q : List Nat × Nat) (dp : Int) (neg tr : Bool) (w : World) (g : Nat) (r wv n : Value) (wr : World) : Prop :=
  ∃ (rr nn : Nat) (o : List Nat) (f' : Nat → Nat), g = ds.length - rr ∧ rr = r0 + o.length ∧ (rr ≤ ds.length ∨ o = []) ∧ o ++ (PF.rs2 k (ds.drop rr) nn).1 = Q.1 ∧ (PF.rs2 k (ds.drop rr) nn).2 = Q.2 ∧ nn < 10 * 2 ^ k ∧ r = .int .i64 (rr : Int) ∧ wv = .int .i64 (o.length : Int) ∧ n = .int .u64 (nn : Int) ∧ DAt 267 wr b f' ds.length dp neg tr ∧ Digs f' o ∧ (∀ p, o.length ≤ p → f' p = f p) ∧ Below b w wr
def R4 (b L k : Nat) (O : List Nat) (TR : Bool) (dp : Int) (neg : Bool) (w : World) (g : Nat) (wv n : Value) (wr : World) : Prop :=
  ∃ (nn : Nat) (o : List Nat) (f' : Nat → Nat) (tr' : Bool), o.length ≤ 800 ∧ o ++ (PF.rs3 k g nn o.length).1 = O ∧ (tr' || (PF.rs3 k g nn o.length).2) = TR ∧ PF.Fu k g nn ∧ nn < 10 * 2 ^ k ∧ wv = .int .i64 (o.length : Int) ∧ n = .int .u64 (nn : Int) ∧ DAt 267 wr b f' L dp neg tr' ∧ Digs f' o ∧ Below b w wr
theorem rs2_cons (k c : Nat) (t : List Nat) (n : Nat) : PF.rs2 k (c :: t) n = (n / 2 ^ k :: (PF.rs2 k t (n % 2 ^ k * 10 + c)).1, (PF.rs2 k t (n % 2 ^ k * 10 + c)).2) := rfl
theorem rs3_succ (k g n w : Nat) : PF.rs3 k (g + 1) n w = if n = 0 then ([], false) else if w < 800 then (n / 2 ^ k :: (PF.rs3 k g (n % 2 ^ k * 10) (w + 1)).1, (PF.rs3 k g (n % 2 ^ k * 10) (w + 1)).2) else ((PF.rs3 k g (n % 2 ^ k * 10) w).1, decide (0 < n / 2 ^ k) || (PF.rs3 k g (n % 2 ^ k * 10) w).2) := rfl
theorem rs3_zero (k g w : Nat) : PF.rs3 k g 0 w = ([], false) := by
  cases g with
  | zero => rfl
  | succ g => rw [rs3_succ, if_pos rfl]
theorem rs1_nil (k n r : Nat) : PF.rs1 k [] n r = ([], (PF.rsz k (k + 1) n r).1, (PF.rsz k (k + 1) n r).2) := rfl
theorem rs1_cons (k d : Nat) (t : List Nat) (n r : Nat) : PF.rs1 k (d :: t) n r = if n / 2 ^ k = 0 then PF.rs1 k t (n * 10 + d) (r + 1) else (d :: t, n, r) := rfl
theorem rsz_succ (k g n r : Nat) : PF.rsz k (g + 1) n r = if n / 2 ^ k = 0 then PF.rsz k g (n * 10) (r + 1) else (n, r) := rfl
theorem rsz_stop {k n : Nat} (g r : Nat) (h : n / 2 ^ k ≠ 0) : PF.rsz k g n r = (n, r) := by
  cases g with
  | zero => rfl
  | succ g => rw [rsz_succ, if_neg h]
theorem rs1_stop {k n : Nat} (t : List Nat) (r : Nat) (h : n / 2 ^ k ≠ 0) : PF.rs1 k t n r = (t, n, r) := by
  cases t with
  | nil => rw [rs1_nil, rsz_stop _ _ h]
  | cons d t => rw [rs1_cons, if_neg h]
theorem and_mask {n k : Nat} (hn : n < 18446744073709551616) (hk : k ≤ 60) : bits BinOp.and IntKind.u64 (n : Int) ((2 : Int) ^ k - 1) = ((n % 2 ^ k : Nat) : Int) := by
  have p2 := Nat.two_pow_pos k
  have h2 : 2 ^ k ≤ 1152921504606846976 := Nat.pow_le_pow_right (n := 2) (by omega) (show k ≤ 60 from hk)
  have h := bits_and_u64_nat n (2 ^ k - 1) hn (by omega)
  rw [Nat.and_two_pow_sub_one_eq_mod] at h
  rw [← h]
  congr 1
  rw [Int.natCast_sub p2]
  norm_cast
set_option maxHeartbeats 4000000 in
theorem right258 (b : Nat) (f : Nat → Nat) (a : PF.Dec) (neg : Bool) (w : World) (hD : DAt 267 w b f a.ds.length a.dp neg a.tr) (hg : Digs f a.ds) (ha : a.Ok) (hp1 : -1000000 ≤ a.dp) (hp2 : a.dp ≤ 1000000) (k : Nat) (hk60 : k ≤ 60) :
    Calls Tryz.prog 258 #[.pointer (some ⟨b, 0, none⟩), .int .u64 (k : Int)] w (APost b w (a.rsh k) neg) := by
  obtain ⟨p, _, hdrop⟩ := PF.rs1_ok ha k
  obtain ⟨P, hP⟩ : ∃ P, PF.rs1 k a.ds 0 0 = P := ⟨_, rfl⟩
  rw [hP] at p hdrop
  have hle := ha.len
  have hk2 : 2 ^ k ≤ 1152921504606846976 := Nat.pow_le_pow_right (n := 2) (by omega) (show k ≤ 60 from hk60)
  obtain ⟨M, hM⟩ : ∃ M, 2 ^ k = M := ⟨_, rfl⟩
  have hM1 : 1 ≤ M := by rw [← hM]; exact Nat.two_pow_pos k
  have cn := hD.cnd
  have cp := hD.cdp
  have HP := Lib.hid hP
  have HPP := Lib.hid p
  have HDR := Lib.hid hdrop
  have HD := Lib.hid hD
  have HG := Lib.hid hg
  have HA := Lib.hid ha
  have HM := Lib.hid hM
  rw [hM] at hk2
  obtain ⟨L, hLL⟩ : ∃ L, a.ds.length = L := ⟨_, rfl⟩
  have HLL := Lib.hid hLL
  rw [hLL] at hle cn
  clear hP p hdrop hD hg ha hM hLL
  go_enter Tryz.func258, Tryz.ntmps258
  go_upto_block 0 with (fail)
  go_cut [4, 6, 7] from 12 to 48 (fun r n c w' => r = .int .i64 (P.2.2 : Int) ∧ n = .int .u64 (P.2.1 : Int) ∧ w = w')
  case first =>
    go_wp2_with fail
    go_loopg [4, 6] L (fun g r n wr => R1 a.ds k P w g r n wr)
    case atStart => exact ⟨0, 0, HLL.out.symm, by rw [List.drop_zero]; exact HP.out, by rw [HM.out]; omega, fun _ => rfl, fun h => by omega, rfl, rfl, rfl⟩
    case round =>
      obtain ⟨rr, nn, hg, hr, hn, hz1, hz2, rfl, rfl, rfl⟩ := hrel
      rw [HLL.out] at hg
      rw [HM.out] at hn
      have hn64 : nn < 18446744073709551616 := by omega
      obtain ⟨q, hq⟩ : ∃ q, nn / 2 ^ k = q := ⟨_, rfl⟩
      have qi : (nn : Int) / 2 ^ k = (q : Int) := by rw [← hq]; norm_cast
      have HQ := Lib.hid hq
      by_cases hq0 : q = 0
      · have q1 : ((q : Int) == 0) = true := by rw [hq0]; rfl
        have hnM : nn < M := by
          have := HQ.out
          rw [hq0, HM.out] at this
          rcases Nat.div_eq_zero_iff.1 this with h | h
          · omega
          · exact h
        by_cases hrl : rr < L
        · obtain ⟨gq, rfl⟩ : ∃ x, gk = x + 1 := ⟨gk - 1, by omega⟩
          have r1 : ¬(L : Int) ≤ (rr : Int) := by omega
          have r8 : (rr : Int) < 800 := by omega
          have cd := HD.out.dig (i := rr) (by omega)
          obtain ⟨c, hc⟩ : ∃ c, f rr = c := ⟨_, rfl⟩
          obtain ⟨d, hd⟩ : ∃ d, a.ds.getD rr 0 = d := ⟨_, rfl⟩
          have hfc := HG.out rr (by rw [HLL.out]; exact hrl)
          have hd9 : d ≤ 9 := by
            rw [← hd, List.getD_eq_getElem?_getD, List.getElem?_eq_getElem (by rw [HLL.out]; exact hrl), Option.getD_some]
            exact HA.out.dig _ (List.getElem_mem _)
          have hd1 : rr = 0 → d ≠ 0 := by
            intro h
            have h1 := HA.out.one
            subst h
            rw [← hd]
            revert h1
            cases a.ds <;> simp
          rw [hc, hd] at hfc
          rw [hc] at cd
          have hc1 : 48 ≤ c := by omega
          have hc2 : c ≤ 57 := by omega
          have hr2 : PF.rs1 k (a.ds.drop (rr + 1)) (nn * 10 + d) (rr + 1) = P := by
            rw [← hr, drop_cons (ds := a.ds) (m := rr) (by rw [HLL.out]; exact hrl), hd, rs1_cons, hq, hq0, if_pos rfl]
          have HST : Hid (R1 a.ds k P w gq (.int .i64 ((rr : Int) + 1)) (.int .u64 ((nn : Int) * 10 + (c : Int) - 48)) w) := Lib.hid ⟨rr + 1, nn * 10 + d, by rw [HLL.out]; omega, hr2, by rw [HM.out]; omega, fun h => by omega, fun _ => by
            by_cases h0 : rr = 0
            · have := hd1 h0; omega
            · have := hz2 (by omega); omega, by go_num, congrArg (Value.int .u64) (by omega), rfl⟩
          clear hr hr2 hg hz1 hz2 hd1 hd hc hfc hq hq0
          go_wp2_with fail
          go_roundg gq
          case measure => omega
          case rel => exact HST.out
        · obtain rfl : L = rr := by omega
          have hL1 := HA.out.val.2.2.1
          rw [HLL.out] at hL1
          have r1 : (L : Int) ≤ (L : Int) := by omega
          have hn1 : 1 ≤ nn := hz2 hL1
          have n0 : ((nn : Int) == 0) = false := by rw [beq_eq_false_iff_ne]; omega
          have hPP : P = ([], (PF.rsz k (k + 1) nn L).1, (PF.rsz k (k + 1) nn L).2) := by rw [← hr, List.drop_of_length_le (by rw [HLL.out]; exact Nat.le_refl _), rs1_nil]
          have h4 : 2 ^ k ≤ nn * 10 ^ (k + 1) := by
            have a1 := PF.two_le_ten k
            have b1 : 1 * 10 ^ (k + 1) ≤ nn * 10 ^ (k + 1) := Nat.mul_le_mul_right _ hn1
            rw [Nat.pow_succ] at b1 ⊢
            omega
          have HST : Hid (R2 k P w (k + 1) (.int .i64 (L : Int)) (.int .u64 (nn : Int)) w) := Lib.hid ⟨L, nn, by rw [hPP], h4, by rw [HM.out]; omega, by omega, rfl, rfl, rfl⟩
          clear hr hg hz1 hz2 hq hq0 hPP h4
          go_wp2_with fail
          go_loopg [4, 6] (k + 1) (fun g r n wr => R2 k P w g r n wr)
          case atStart => exact HST.out
          case round =>
            obtain ⟨rr, mm, hr, h4, hm, hb, rfl, rfl, rfl⟩ := hrel
            rw [HM.out] at hm
            have hm64 : mm < 18446744073709551616 := by omega
            obtain ⟨q2, hq2⟩ : ∃ q, mm / 2 ^ k = q := ⟨_, rfl⟩
            have qi2 : (mm : Int) / 2 ^ k = (q2 : Int) := by rw [← hq2]; norm_cast
            by_cases hq0 : q2 = 0
            · have q3 : ((q2 : Int) == 0) = true := by rw [hq0]; rfl
              have hmM : mm < M := by
                rw [hq0, HM.out] at hq2
                rcases Nat.div_eq_zero_iff.1 hq2 with h | h
                · omega
                · exact h
              cases gk with
              | zero => 
                rw [HM.out] at h4
                simp at h4
                omega
              | succ g =>
                have HST2 : Hid (R2 k P w g (.int .i64 ((rr : Int) + 1)) (.int .u64 ((mm : Int) * 10)) w) := Lib.hid ⟨rr + 1, mm * 10, by rw [← hr, rsz_succ, hq2, hq0, if_pos rfl], by rw [Nat.mul_assoc, ← Nat.pow_succ']; exact h4, by rw [HM.out]; omega, by omega, by go_num, by go_num, rfl⟩
                clear hr h4 hq2 hq0
                go_wp2_with fail
                go_roundg g
                case measure => omega
                case rel => exact HST2.out
            · have q3 : ((q2 : Int) == 0) = false := by rw [beq_eq_false_iff_ne]; omega
              have hP2 : P.2 = (mm, rr) := by rw [← hr, rsz_stop _ _ (by rw [hq2]; exact hq0)]
              have HPE := Lib.hid hP2
              clear hr h4 hq2 hq0 hP2
              go_wp2_with fail
              go_meet
              case rel => exact ⟨by rw [HPE.out], by rw [HPE.out], rfl⟩
      · have q1 : ((q : Int) == 0) = false := by rw [beq_eq_false_iff_ne]; omega
        have hPP : P = (a.ds.drop rr, nn, rr) := by rw [← hr, rs1_stop _ _ (by rw [hq]; exact hq0)]
        have HPE := Lib.hid hPP
        clear hr hg hz1 hz2 hq hq0 hPP
        go_wp2_with fail
        go_meet
        case rel => exact ⟨by rw [HPE.out], by rw [HPE.out], rfl⟩
  case rest =>
    obtain ⟨rfl, rfl, rfl⟩ := hcut
    obtain ⟨r0, hr0⟩ : ∃ r0, P.2.2 = r0 := ⟨_, rfl⟩
    obtain ⟨n0, hn0⟩ : ∃ n0, P.2.1 = n0 := ⟨_, rfl⟩
    have hpp := HPP.out
    rw [hr0, hn0] at hpp
    have r1 := hpp.r1
    have nhi := hpp.hi
    rw [HM.out] at nhi
    have r21 : r0 ≤ 100 := by
      rcases hpp.few with h | h
      · omega
      · have h2 : 2 ^ k ≤ 2 ^ 60 := Nat.pow_le_pow_right (by omega) hk60
        have h3 : (2 : Nat) ^ 60 < 10 ^ 60 := by decide
        have := (Nat.pow_lt_pow_iff_right (show 1 < 10 by omega)).1 (Nat.lt_of_lt_of_le h (Nat.le_of_lt (Nat.lt_of_le_of_lt h2 h3)))
        omega
    have hdr := HDR.out
    rw [hr0] at hdr
    obtain ⟨Q, hQ⟩ : ∃ Q, PF.rs2 k (a.ds.drop r0) n0 = Q := ⟨_, rfl⟩
    have hq1 := (PF.rs2_spec k (a.ds.drop r0) n0 (fun d hd => HA.out.dig d (List.mem_of_mem_drop hd)) hpp.hi).2.1
    rw [hQ] at hq1
    have hql : Q.1.length ≤ 800 := by rw [hq1, List.length_drop]; have := HA.out.len; omega
    obtain ⟨O, hO⟩ : ∃ O, Q.1 ++ (PF.rs3 k (k + 2) Q.2 Q.1.length).1 = O := ⟨_, rfl⟩
    obtain ⟨TR, hTR⟩ : ∃ TR, (a.tr || (PF.rs3 k (k + 2) Q.2 Q.1.length).2) = TR := ⟨_, rfl⟩
    obtain ⟨dq, hdq⟩ : ∃ dq, a.dp - ((r0 : Int) - 1) = dq := ⟨_, rfl⟩
    have hfin : a.rsh k = PF.Dec.trim ⟨O, dq, TR⟩ := by
      rw [PF.rsh_eq]
      unfold PF.Dec.rsh0
      dsimp only
      rw [HP.out, hr0, hn0, hdr, hQ, hO, hTR, hdq]
    have HFIN := Lib.hid hfin
    have HQ := Lib.hid hQ
    have HO := Lib.hid hO
    have HTR := Lib.hid hTR
    have HPP2 := Lib.hid hpp
    have HQL := Lib.hid hql
    have wM1 : IntKind.u64.wrap ((1 : Int) * 2 ^ k) = (M : Int) := by
      have e : (1 : Int) * 2 ^ k = (M : Int) := by rw [Int.one_mul, ← HM.out]; norm_cast
      rw [e, IntKind.wrap_u64]; omega
    have wM2 : IntKind.u64.wrap ((2 : Int) ^ k) = (M : Int) := by rw [← wM1, Int.one_mul]
    have fr := HD.out.free 801
    have HST : Hid (R3 b f a.ds k r0 Q dq neg a.tr w (L - r0) (.int .i64 (r0 : Int)) (.int .i64 0) (.int .u64 (n0 : Int)) (w.setCell ⟨b, 801, none⟩ (.int .i64 dq))) := Lib.hid ⟨r0, n0, [], f, by rw [HLL.out], rfl, .inr rfl, by rw [hQ]; rfl, by rw [hQ], hpp.hi, rfl, rfl, rfl, HD.out.setDp dq, fun i hi => by simp at hi, fun _ _ => rfl, (Below.refl _ _).setCell (p := ⟨b, 801, none⟩) (Nat.le_refl _) _⟩
    rw [hr0, hn0]
    clear hpp hdr hQ hq1 hql hO hTR hfin hr0 hn0
    go_wp2_with fail
    go_loopg [4, 5, 6] (L - r0) (fun g r wv n wr => R3 b f a.ds k r0 Q dq neg a.tr w g r wv n wr)
    case atStart => exact HST.out
    case round =>
      obtain ⟨rr, nn, o, f', hg, hr, hor, h1, h2, hn, rfl, rfl, rfl, hd, hdg, hold, hbl⟩ := hrel
      rw [HLL.out] at hg hor hd
      rw [HM.out] at hn
      have cn3 := hd.cnd
      obtain ⟨ww, hww⟩ : ∃ ww, o.length = ww := ⟨_, rfl⟩
      rw [hww] at hr hold ⊢
      have HWW := Lib.hid hww
      have hn64 : nn < 18446744073709551616 := by omega
      by_cases hrl : rr < L
      · obtain ⟨gq, rfl⟩ : ∃ x, gk = x + 1 := ⟨gk - 1, by omega⟩
        have ri : (rr : Int) < (L : Int) := by omega
        have r8 : (rr : Int) < 800 := by omega
        have w8 : ww < 800 := by omega
        have w8i : (ww : Int) < 800 := by omega
        have cd := hd.dig (i := rr) (by omega)
        have cw := hd.dig (i := ww) w8
        have fw := hd.free ww
        rw [hold rr (by omega)] at cd
        obtain ⟨c, hc⟩ : ∃ c, f rr = c := ⟨_, rfl⟩
        obtain ⟨d, hdd⟩ : ∃ d, a.ds.getD rr 0 = d := ⟨_, rfl⟩
        have hfc := HG.out rr (by rw [HLL.out]; exact hrl)
        have hd9 : d ≤ 9 := by
          rw [← hdd, List.getD_eq_getElem?_getD, List.getElem?_eq_getElem (by rw [HLL.out]; exact hrl), Option.getD_some]
          exact HA.out.dig _ (List.getElem_mem _)
        rw [hc, hdd] at hfc
        rw [hc] at cd
        have hc1 : 48 ≤ c := by omega
        have hc2 : c ≤ 57 := by omega
        obtain ⟨q, hq⟩ : ∃ q, nn / 2 ^ k = q := ⟨_, rfl⟩
        have qi : (nn : Int) / 2 ^ k = (q : Int) := by rw [← hq]; norm_cast
        have q9 : q ≤ 9 := by rw [← hq]; exact PF.dig_le9 (by rw [HM.out]; exact hn)
        obtain ⟨m, hm⟩ : ∃ m, nn % 2 ^ k = m := ⟨_, rfl⟩
        have hmM : m < M := by rw [← hm, HM.out]; exact Nat.mod_lt _ (by omega)
        have am : bits BinOp.and IntKind.u64 (nn : Int) ((M : Int) - 1) = (m : Int) := by
          have h := and_mask hn64 hk60
          have e : (2 : Int) ^ k = (M : Int) := by rw [← HM.out]; norm_cast
          rw [e, hm] at h
          exact h
        rw [drop_cons (ds := a.ds) (m := rr) (by rw [HLL.out]; exact hrl), hdd, rs2_cons, hq, hm] at h1 h2
        have hdf : Digs (upd f' ww (q + 48)) (o ++ [q]) := by
          have := hdg.snoc q
          rw [hww, Nat.add_comm 48 q] at this
          exact this
        have HST2 : Hid (R3 b f a.ds k r0 Q dq neg a.tr w gq (.int .i64 ((rr : Int) + 1)) (.int .i64 ((ww : Int) + 1)) (.int .u64 ((m : Int) * 10 + (c : Int) - 48)) (wr.setCell ⟨b, ww, none⟩ (.int .u8 ((q : Int) + 48)))) := Lib.hid ⟨rr + 1, m * 10 + d, o ++ [q], upd f' ww (q + 48), by rw [HLL.out]; omega, by rw [List.length_append, List.length_singleton, hww]; omega, .inl (by rw [HLL.out]; omega), by rw [List.append_assoc]; exact h1, h2, by rw [HM.out]; omega, by go_num, congrArg (Value.int .i64) (by rw [List.length_append, List.length_singleton, hww]; omega), congrArg (Value.int .u64) (by omega), by have := hd.setDig (i := ww) w8 (q + 48); rw [← HLL.out] at this; simpa using this, hdf, fun i hi => by rw [List.length_append, List.length_singleton, hww] at hi; rw [upd_ne _ _ (by omega), hold i (by omega)], hbl.setCell (p := ⟨b, ww, none⟩) (Nat.le_refl _) _⟩
        clear hg hr hor h1 h2 hd hdg hold hbl hww hc hdd hfc hq hm hdf hd9
        go_wp2_with fail
        go_roundg gq
        case measure => omega
        case rel => exact HST2.out
      · have ri : ¬(rr : Int) < (L : Int) := by omega
        rw [List.drop_of_length_le (by rw [HLL.out]; omega)] at h1 h2
        have h1' : o = Q.1 := by
          have e : (PF.rs2 k [] nn).1 = [] := rfl
          rw [e, List.append_nil] at h1
          exact h1
        have h2' : nn = Q.2 := h2
        have HST4 : Hid (R4 b L k O TR dq neg w (k + 2) (.int .i64 (ww : Int)) (.int .u64 (nn : Int)) wr) := Lib.hid ⟨nn, o, f', a.tr, by rw [h1']; exact HQL.out, by rw [h1', h2']; exact HO.out, by rw [h1', h2']; exact HTR.out, PF.Fu.start k nn, by rw [HM.out]; exact hn, by rw [hww], rfl, hd, hdg, hbl⟩
        clear hg hr hor h1 h2 hd hdg hold hbl hww h1' h2'
        go_wp2_with fail
        go_loopg [5, 6] (k + 2) (fun g wv n wr => R4 b L k O TR dq neg w g wv n wr)
        case atStart => exact HST4.out
        case round =>
          obtain ⟨nn, o, f', tr', hol, h1, h2, hfu, hn, rfl, rfl, hd, hdg, hbl⟩ := hrel
          rw [HM.out] at hn
          have hn64 : nn < 18446744073709551616 := by omega
          obtain ⟨ww, hww⟩ : ∃ ww, o.length = ww := ⟨_, rfl⟩
          rw [hww] at h1 h2 hol ⊢
          by_cases hn0 : nn = 0
          · subst hn0
            rw [rs3_zero] at h1 h2
            have h1' : o = O := by simpa using h1
            have h2' : tr' = TR := by simpa using h2
            subst h1' h2'
            have f8 := hd.free 800
            have c8 := hd.cnd
            have HD3 := Lib.hid hd
            have HDG := Lib.hid hdg
            have HBL := Lib.hid hbl
            have HWW := Lib.hid hww
            have HOL := Lib.hid hol
            clear h1 h2 hfu hd hdg hbl hww hn hol
            go_wp2_with fail
            refine (trim256 b f' o dq neg tr' _ (by rw [HWW.out]; exact HD3.out.setNd _) HDG.out (by rw [HWW.out]; exact HOL.out)).mono ?_
            rintro e w2 h2
            have he := h2.1
            subst he
            have H2 := Lib.hid h2
            clear h2
            go_wp2_with fail
            go_end0
            rw [HFIN.out]
            exact apost_of_trim H2.out HDG.out (HBL.out.setCell (p := ⟨b, 800, none⟩) (Nat.le_refl _) _)
          · obtain ⟨g, rfl, hfu2⟩ := hfu.pos hn0
            have n1 : (0 : Int) < (nn : Int) := by omega
            obtain ⟨q, hq⟩ : ∃ q, nn / 2 ^ k = q := ⟨_, rfl⟩
            have qi : (nn : Int) / 2 ^ k = (q : Int) := by rw [← hq]; norm_cast
            have q9 : q ≤ 9 := by rw [← hq]; exact PF.dig_le9 (by rw [HM.out]; exact hn)
            obtain ⟨m, hm⟩ : ∃ m, nn % 2 ^ k = m := ⟨_, rfl⟩
            have hmM : m < M := by rw [← hm, HM.out]; exact Nat.mod_lt _ (by omega)
            have am : bits BinOp.and IntKind.u64 (nn : Int) ((M : Int) - 1) = (m : Int) := by
              have h := and_mask hn64 hk60
              have e : (2 : Int) ^ k = (M : Int) := by rw [← HM.out]; norm_cast
              rw [e, hm] at h
              exact h
            rw [rs3_succ, if_neg hn0, hq, hm] at h1 h2
            rw [hm] at hfu2
            by_cases hw8 : ww < 800
            · have w8i : (ww : Int) < 800 := by omega
              have cw := hd.dig (i := ww) hw8
              have fw := hd.free ww
              rw [if_pos hw8] at h1 h2
              have hdf : Digs (upd f' ww (q + 48)) (o ++ [q]) := by
                have := hdg.snoc q
                rw [hww, Nat.add_comm 48 q] at this
                exact this
              have HST2 : Hid (R4 b L k O TR dq neg w g (.int .i64 ((ww : Int) + 1)) (.int .u64 ((m : Int) * 10)) (wr.setCell ⟨b, ww, none⟩ (.int .u8 ((q : Int) + 48)))) := Lib.hid ⟨m * 10, o ++ [q], upd f' ww (q + 48), tr', by rw [List.length_append, List.length_singleton, hww]; omega, by rw [List.length_append, List.length_singleton, hww, List.append_assoc]; exact h1, by rw [List.length_append, List.length_singleton, hww]; exact h2, hfu2, by rw [HM.out]; omega, congrArg (Value.int .i64) (by rw [List.length_append, List.length_singleton, hww]; omega), by go_num, by have := hd.setDig (i := ww) hw8 (q + 48); simpa using this, hdf, hbl.setCell (p := ⟨b, ww, none⟩) (Nat.le_refl _) _⟩
              clear h1 h2 hfu hfu2 hd hdg hbl hww hdf hq hm hol hn0
              go_wp2_with fail
              go_roundg g
              case measure => omega
              case rel => exact HST2.out
            · have w8i : ¬(ww : Int) < 800 := by omega
              have ct := hd.ctr
              have ft := hd.free 803
              rw [if_neg hw8] at h1 h2
              by_cases hq0 : q = 0
              · have q1 : ¬(0 : Int) < (q : Int) := by omega
                rw [hq0] at h2
                have h2b : (tr' || (PF.rs3 k g (m * 10) ww).2) = TR := by rw [← h2]; rfl
                have HST2 : Hid (R4 b L k O TR dq neg w g (.int .i64 (ww : Int)) (.int .u64 ((m : Int) * 10)) wr) := Lib.hid ⟨m * 10, o, f', tr', by rw [hww]; omega, by rw [hww]; exact h1, by rw [hww]; exact h2b, hfu2, by rw [HM.out]; omega, by rw [hww], by go_num, hd, hdg, hbl⟩
                clear h1 h2 hfu hfu2 hd hdg hbl hww hq hm hol hn0 hq0 h2b
                go_wp2_with fail
                go_roundg g
                case measure => omega
                case rel => exact HST2.out
              · have q1 : (0 : Int) < (q : Int) := by omega
                have h2b : (true || (PF.rs3 k g (m * 10) ww).2) = TR := by rw [← h2, decide_eq_true (show 0 < q by omega)]; simp
                have HST2 : Hid (R4 b L k O TR dq neg w g (.int .i64 (ww : Int)) (.int .u64 ((m : Int) * 10)) (wr.setCell ⟨b, 803, none⟩ (.bool true))) := Lib.hid ⟨m * 10, o, f', true, by rw [hww]; omega, by rw [hww]; exact h1, by rw [hww]; exact h2b, hfu2, by rw [HM.out]; omega, by rw [hww], by go_num, hd.setTr true, hdg, hbl.setCell (p := ⟨b, 803, none⟩) (Nat.le_refl _) _⟩
                clear h1 h2 hfu hfu2 hd hdg hbl hww hq hm hol hn0 hq0 h2b
                go_wp2_with fail
                go_roundg g
                case measure => omega
                case rel => exact HST2.out
end Go.Proofs.YtagiddbfhlokcaaGreatDoor
/- A decimal shifted either way. Condition: the decimal's block, the table of how many digits a shift brings. -/
namespace Go.Proofs.YtagiddbfhlokcaaGreatDoor
open Go.RowKit Go.Dcm
set_option maxRecDepth 100000
theorem rsh_dp {a : PF.Dec} (h : a.Ok) (k : Nat) : a.dp - k ≤ (a.rsh k).dp ∧ (a.rsh k).dp ≤ a.dp := by
  obtain ⟨p, _, _⟩ := PF.rs1_ok h k
  obtain ⟨_, _, e⟩ := PF.rsh_ok h k
  have r1 := p.r1
  have rf : (PF.rs1 k a.ds 0 0).2.2 ≤ k + 1 := by
    rcases p.few with h | h
    · omega
    · have := (Nat.pow_lt_pow_iff_right (show 1 < 10 by omega)).1 (Nat.lt_of_lt_of_le h (PF.two_le_ten k))
      omega
  rw [e]
  omega
theorem lsh_dp {a : PF.Dec} (h : a.Ok) {k : Nat} (hk : 1 ≤ k) : a.dp ≤ (a.lsh k).dp ∧ (a.lsh k).dp ≤ a.dp + k := by
  obtain ⟨_, _, e⟩ := PF.lsh_ok h k
  have hl := PF.lsh_len h hk
  obtain ⟨c1, c2, _, _⟩ := PF.cN_spec hk
  rw [e, hl]
  split <;> omega
theorem APost.ends {b : Nat} {w : World} {a : PF.Dec} {neg : Bool} {e : Ending} {w' : World} (h : APost b w a neg e w') : e = .returned (.tuple #[]) := h.1
theorem Cheat.below {B o : Nat} {S : Nat → ByteArray} {w w' : World} {b : Nat} (h : Cheat B o S w) (hb : Below b w w') (h16 : 16 < b) (hB : B < b) : Cheat B o S w' :=
  ⟨(hb.cell (p := ⟨16, 0, none⟩) h16).trans h.v, fun k h1 h2 => (hb.cell (p := ⟨B, _, none⟩) hB).trans (h.d k h1 h2), fun k h1 h2 => ⟨(hb.cell (p := ⟨B, _, none⟩) hB).trans (h.s k h1 h2).1, (h.s k h1 h2).2⟩⟩
theorem shiftL227 (b : Nat) (f : Nat → Nat) (a : PF.Dec) (neg : Bool) (w : World) (hD : DAt 267 w b f a.ds.length a.dp neg a.tr) (hg : Digs f a.ds) (ha : a.Ok) (hp1 : -1000000 ≤ a.dp) (hp2 : a.dp ≤ 1000000) (k : Nat) (hk : 1 ≤ k) (hk60 : k ≤ 60) {B o : Nat} {S : Nat → ByteArray} (hc : Cheat B o S w) :
    Calls Tryz.prog 227 #[.pointer (some ⟨b, 0, none⟩), .int .i64 (k : Int)] w (APost b w (a.lsh k) neg) := by
  have cn := hD.cnd
  have hl1 := ha.val.2.2.1
  have L0 : ((a.ds.length : Int) == 0) = false := by rw [beq_eq_false_iff_ne]; omega
  have k0 : (0 : Int) < (k : Int) := by omega
  have k6 : ¬(60 : Int) < (k : Int) := by omega
  have M := Lib.hid (left257 b f a neg w hD hg ha hp1 hp2 k hk hk60 hc)
  clear hD hg ha hc hl1
  go_enter Tryz.func227, Tryz.ntmps227
  go_wp2_with fail
  go_loopg [1] 0 (fun _ s wr => s = .int .i64 (k : Int) ∧ w = wr)
  case atStart => exact ⟨rfl, rfl⟩
  case round =>
    obtain ⟨rfl, rfl⟩ := hrel
    go_wp2_with fail
    refine M.out.mono ?_
    rintro e w2 h2
    have he := h2.ends
    subst he
    have H2 := Lib.hid h2
    clear h2
    go_wp2_with fail
    go_end0
    exact H2.out
def ShR (b : Nat) (a : PF.Dec) (neg : Bool) (n0 : Nat) (w : World) (g : Nat) (s : Value) (wr : World) : Prop :=
  ∃ (a' : PF.Dec) (f' : Nat → Nat) (R : Int), 1 ≤ g ∧ g ≤ n0 ∧ a'.rshN g = a.rshN n0 ∧ a'.Ok ∧ a.dp - ((n0 : Int) - g) ≤ a'.dp ∧ a'.dp ≤ a.dp ∧ R = -(g : Int) ∧ s = .int .i64 R ∧ DAt 267 wr b f' a'.ds.length a'.dp neg a'.tr ∧ Digs f' a'.ds ∧ Below b w wr
theorem rshN_big {a : PF.Dec} {k : Nat} (h : 60 < k) : a.rshN k = (a.rsh 60).rshN (k - 60) := by rw [PF.Dec.rshN, if_pos h]
theorem rshN_small {a : PF.Dec} {k : Nat} (h : ¬60 < k) : a.rshN k = a.rsh k := by rw [PF.Dec.rshN, if_neg h]
theorem shiftR227 (b : Nat) (f : Nat → Nat) (a : PF.Dec) (neg : Bool) (w : World) (hD : DAt 267 w b f a.ds.length a.dp neg a.tr) (hg : Digs f a.ds) (ha : a.Ok) (hp1 : -500000 ≤ a.dp) (hp2 : a.dp ≤ 500000) (n : Nat) (hn : 1 ≤ n) (hn5 : n ≤ 400000) :
    Calls Tryz.prog 227 #[.pointer (some ⟨b, 0, none⟩), .int .i64 (-(n : Int))] w (APost b w (a.rshN n) neg) := by
  have cn := hD.cnd
  have hl1 := ha.val.2.2.1
  have L0 : ((a.ds.length : Int) == 0) = false := by rw [beq_eq_false_iff_ne]; omega
  obtain ⟨R, hR⟩ : ∃ R : Int, -(n : Int) = R := ⟨_, rfl⟩
  have k0 : ¬(0 : Int) < R := by omega
  have k1 : R < 0 := by omega
  have HST : Hid (ShR b a neg n w n (.int .i64 R) w) := Lib.hid ⟨a, f, R, hn, Nat.le_refl _, rfl, ha, by omega, by omega, hR.symm, rfl, hD, hg, Below.refl _ _⟩
  rw [hR]
  clear hD hg ha hl1 hR
  go_enter Tryz.func227, Tryz.ntmps227
  go_wp2_with fail
  go_loopg [1] n (fun g s wr => ShR b a neg n w g s wr)
  case atStart => exact HST.out
  case round =>
    obtain ⟨a', f', R, h1, hgn, hr, hok, hd1, hd2, hR, rfl, hd, hdg, hbl⟩ := hrel
    by_cases h60 : 60 < gk
    · have r6 : R < -60 := by omega
      rw [rshN_big h60] at hr
      have hdp := rsh_dp hok 60
      have M := Lib.hid (right258 b f' a' neg wr hd hdg hok (by omega) (by omega) 60 (by omega))
      have HR := Lib.hid hr
      have HOK := Lib.hid (PF.rsh_ok hok 60).1
      have HBL := Lib.hid hbl
      have HRR := Lib.hid hR
      have R1 : -500000 ≤ R := by omega
      have HD1 := Lib.hid hd1
      have HD2 := Lib.hid hd2
      have HDP := Lib.hid hdp
      clear hr hok hd1 hd2 hR hd hdg hbl hdp
      go_wp2_with fail
      refine M.out.mono ?_
      rintro e w2 h2
      have he := h2.ends
      subst he
      have H2 := Lib.hid h2
      clear h2
      go_wp2_with fail
      go_roundg (gk - 60)
      case measure => omega
      case rel =>
        obtain ⟨_, f2, hx, hy, hz⟩ := H2.out
        have e1 := HRR.out
        have e2 := HD1.out
        have e3 := HD2.out
        have e4 := HDP.out
        exact ⟨a'.rsh 60, f2, R + 60, by omega, by omega, HR.out, HOK.out, by omega, by omega, by omega, rfl, hx, hy, HBL.out.trans hz⟩
    · have r6 : ¬R < -60 := by omega
      rw [rshN_small h60] at hr
      have M := Lib.hid (right258 b f' a' neg wr hd hdg hok (by omega) (by omega) gk (by omega))
      have HR := Lib.hid hr
      have HBL := Lib.hid hbl
      have hRn : -R = (gk : Int) := by omega
      have R1 : -500000 ≤ R := by omega
      have R2 : R ≤ 0 := by omega
      clear hr hok hd1 hd2 hR hd hdg hbl
      go_wp2_with fail
      refine M.out.mono ?_
      rintro e w2 h2
      have he := h2.ends
      subst he
      have H2 := Lib.hid h2
      clear h2
      go_wp2_with fail
      go_end0
      obtain ⟨_, f2, hx, hy, hz⟩ := H2.out
      rw [← HR.out]
      exact ⟨rfl, f2, hx, hy, HBL.out.trans hz⟩
end Go.Proofs.YtagiddbfhlokcaaGreatDoor
/- Is a decimal to be rounded up; its whole part, rounded. Condition: the decimal's block. -/
namespace Go.Proofs.YtagiddbfhlokcaaGreatDoor
open Go.RowKit Go.Dcm
set_option maxRecDepth 100000
theorem up259 (b : Nat) (f : Nat → Nat) (a : PF.Dec) (neg : Bool) (w : World) (hD : DAt 267 w b f a.ds.length a.dp neg a.tr) (hg : Digs f a.ds) (ha : a.Ok) (n : Int) (hn : n ≤ 1000000) (hn2 : -1000000 ≤ n) :
    Calls Tryz.prog 259 #[.pointer (some ⟨b, 0, none⟩), .int .i64 n] w fun e w' => e = .returned (.bool (PF.upB a n)) ∧ w = w' := by
  obtain ⟨R, hR⟩ : ∃ R, PF.upB a n = R := ⟨_, rfl⟩
  rw [hR]
  have cn := hD.cnd
  have ct := hD.ctr
  have hle := ha.len
  obtain ⟨L, hL⟩ : ∃ L, a.ds.length = L := ⟨_, rfl⟩
  rw [hL] at cn hle
  unfold PF.upB at hR
  by_cases h1 : n < 0
  · have h1b : decide (n < 0) = true := by simpa using h1
    rw [if_pos (.inl h1)] at hR
    subst hR
    clear hD hg ha hL
    go_enter Tryz.func259, Tryz.ntmps259
    go_wp2_with fail
    go_ret
    exact ⟨rfl, rfl⟩
  · have h1b : decide (n < 0) = false := by simpa using h1
    have h10 : 0 ≤ n := by omega
    by_cases h2 : (L : Int) ≤ n
    · rw [if_pos (.inr (by rw [hL]; exact h2))] at hR
      subst hR
      clear hD hg ha hL
      go_enter Tryz.func259, Tryz.ntmps259
      go_wp2_with fail
      go_ret
      exact ⟨rfl, rfl⟩
    · obtain ⟨i, rfl⟩ : ∃ i : Nat, n = (i : Int) := ⟨n.toNat, by omega⟩
      rw [if_neg (by rw [hL]; omega)] at hR
      simp only [Int.toNat_natCast] at hR
      have i8 : (i : Int) < 800 := by omega
      have i8n : i < 800 := by omega
      have cd := hD.dig (i := i) i8n
      obtain ⟨d, hd⟩ : ∃ d, a.ds.getD i 0 = d := ⟨_, rfl⟩
      have hfc := hg i (by rw [hL]; omega)
      obtain ⟨c, hc⟩ : ∃ c, f i = c := ⟨_, rfl⟩
      rw [hc, hd] at hfc
      rw [hc] at cd
      simp only [hd, hL] at hR
      have hd9 : d ≤ 9 := by
        rw [← hd, List.getD_eq_getElem?_getD, List.getElem?_eq_getElem (by rw [hL]; omega), Option.getD_some]
        exact ha.dig _ (List.getElem_mem _)
      by_cases h5 : d = 5
      · have c53 : ((c : Int) == 53) = true := by rw [beq_iff_eq]; omega
        by_cases h6 : i + 1 = L
        · have e6 : ((i : Int) + 1 == (L : Int)) = true := by rw [beq_iff_eq]; omega
          rw [if_pos ⟨h5, h6⟩] at hR
          cases ht : a.tr with
          | true =>
            rw [ht] at ct hR
            have hR2 : true = R := by rw [← hR]; rfl
            subst hR2
            clear hD hg ha hL hR hc hd hfc h5 ht h6
            go_enter Tryz.func259, Tryz.ntmps259
            go_wp2_with fail
            go_ret
            exact ⟨rfl, rfl⟩
          | false =>
            rw [ht] at ct hR
            rw [Bool.false_or] at hR
            cases i with
            | zero =>
              have hR2 : false = R := by rw [← hR]; rfl
              subst hR2
              obtain rfl : L = 1 := by omega
              clear hD hg ha hL hR hc hd hfc h5 ht h6
              go_enter Tryz.func259, Tryz.ntmps259
              go_wp2_with fail
              go_ret
              exact ⟨rfl, rfl⟩
            | succ j =>
              have cj := hD.dig (i := j) (by omega)
              obtain ⟨x, hx⟩ : ∃ x, a.ds.getD j 0 = x := ⟨_, rfl⟩
              have hfx := hg j (by rw [hL]; omega)
              obtain ⟨y, hy⟩ : ∃ y, f j = y := ⟨_, rfl⟩
              rw [hy, hx] at hfx
              rw [hy] at cj
              have hx9 : x ≤ 9 := by
                rw [← hx, List.getD_eq_getElem?_getD, List.getElem?_eq_getElem (by rw [hL]; omega), Option.getD_some]
                exact ha.dig _ (List.getElem_mem _)
              obtain ⟨m, hm⟩ : ∃ m, x % 2 = m := ⟨_, rfl⟩
              have j1 : j + 1 - 1 = j := by omega
              have j0 : decide (0 < j + 1) = true := decide_eq_true (by omega)
              simp only [j1, hx, hm, j0, Bool.true_and] at hR
              clear j0 j1
              have ym : ((y : Int) - 48) % 2 = (m : Int) := by omega
              have y1 : 48 ≤ y := by omega
              have y2 : y ≤ 57 := by omega
              have mR : ((m : Int) != 0) = R := by rw [← hR]; rcases (show m = 0 ∨ m = 1 by omega) with h | h <;> rw [h] <;> rfl
              have j8 : (j : Int) < 800 := by omega
              obtain ⟨I, hI⟩ : ∃ I : Int, (((j + 1 : Nat)) : Int) = I := ⟨_, rfl⟩
              have hIj : I - 1 = (j : Int) := by omega
              have hI0 : 0 < I := by omega
              have hI8 : I < 800 := by omega
              have cI : w.cell? ⟨b, I.toNat, none⟩ = some (.int .u8 (c : Int)) := by rw [← hI]; exact cd
              rw [hI] at e6 h10 h1b h1 h2 ⊢
              clear hD hg ha hL hR hc hd hfc h5 ht h6 hx hfx hy hm hx9 hI cd i8
              go_enter Tryz.func259, Tryz.ntmps259
              go_wp2_with fail
              go_ret
              exact ⟨rfl, rfl⟩
        · have e6 : ((i : Int) + 1 == (L : Int)) = false := by rw [beq_eq_false_iff_ne]; omega
          rw [if_neg (fun h => h6 h.2)] at hR
          have hR2 : true = R := by rw [← hR, h5]; rfl
          subst hR2
          have c5 : (53 : Int) ≤ (c : Int) := by omega
          clear hD hg ha hL hR hc hd hfc h5 h6
          go_enter Tryz.func259, Tryz.ntmps259
          go_wp2_with fail
          go_ret
          exact ⟨rfl, rfl⟩
      · have c53 : ((c : Int) == 53) = false := by rw [beq_eq_false_iff_ne]; omega
        rw [if_neg (fun h => h5 h.1)] at hR
        by_cases h7 : 5 ≤ d
        · have c5 : (53 : Int) ≤ (c : Int) := by omega
          have hR2 : true = R := by rw [← hR, decide_eq_true h7]
          subst hR2
          clear hD hg ha hL hR hc hd hfc h5 h7
          go_enter Tryz.func259, Tryz.ntmps259
          go_wp2_with fail
          go_ret
          exact ⟨rfl, rfl⟩
        · have c5 : ¬(53 : Int) ≤ (c : Int) := by omega
          have hR2 : false = R := by rw [← hR, decide_eq_false h7]
          subst hR2
          clear hD hg ha hL hR hc hd hfc h5 h7
          go_enter Tryz.func259, Tryz.ntmps259
          go_wp2_with fail
          go_ret
          exact ⟨rfl, rfl⟩
def RI1 (ds : List Nat) (m : Nat) (w : World) (g : Nat) (i n : Value) (wr : World) : Prop :=
  ∃ k x : Nat, g + k = min m ds.length ∧ x = PF.val (ds.take k) % 18446744073709551616 ∧ i = .int .i64 (k : Int) ∧ n = .int .u64 (x : Int) ∧ w = wr
def RI2 (ds : List Nat) (m : Nat) (w : World) (g : Nat) (i n : Value) (wr : World) : Prop :=
  ∃ k x : Nat, g = m - k ∧ k ≤ m ∧ min m ds.length ≤ k ∧ x = PF.val (ds.take m) * 10 ^ (k - ds.length) % 18446744073709551616 ∧ i = .int .i64 (k : Int) ∧ n = .int .u64 (x : Int) ∧ w = wr
theorem val_take_succ {ds : List Nat} {k : Nat} (h : k < ds.length) : PF.val (ds.take (k + 1)) = PF.val (ds.take k) * 10 + ds.getD k 0 := by
  rw [take_snoc h, PF.val_append]
  simp [PF.val]
set_option maxHeartbeats 1000000 in
theorem rint246 (b : Nat) (f : Nat → Nat) (a : PF.Dec) (neg : Bool) (w : World) (hD : DAt 267 w b f a.ds.length a.dp neg a.tr) (hg : Digs f a.ds) (ha : a.Ok) (hp1 : -1000000 ≤ a.dp) (hp2 : a.dp ≤ 1000000) :
    Calls Tryz.prog 246 #[.pointer (some ⟨b, 0, none⟩)] w fun e w' => e = .returned (.int .u64 (PF.rint a : Int)) ∧ w = w' := by
  obtain ⟨R, hR⟩ : ∃ R, PF.rint a = R := ⟨_, rfl⟩
  rw [hR]
  have cn := hD.cnd
  have cp := hD.cdp
  have hle := ha.len
  have hdig := ha.dig
  have M := Lib.hid (up259 b f a neg w hD hg ha a.dp hp2 hp1)
  obtain ⟨L, hL⟩ : ∃ L, a.ds.length = L := ⟨_, rfl⟩
  obtain ⟨p, hp⟩ : ∃ p, a.dp = p := ⟨_, rfl⟩
  obtain ⟨U, hU⟩ : ∃ U, PF.upB a a.dp = U := ⟨_, rfl⟩
  unfold PF.rint at hR
  rw [hU, hp] at M
  rw [hU, hp] at hR
  rw [hL] at cn hle
  rw [hp] at cp hp1 hp2
  have HD := Lib.hid hD
  have HG := Lib.hid hg
  have HL := Lib.hid hL
  have HDIG := Lib.hid hdig
  clear hD hg ha hL hp hU hdig
  by_cases h20 : 20 < p
  · rw [if_pos h20] at hR
    subst hR
    clear hle
    go_enter Tryz.func246, Tryz.ntmps246
    go_wp2_with fail
    go_ret
    exact ⟨rfl, rfl⟩
  · rw [if_neg h20] at hR
    obtain ⟨m, hm⟩ : ∃ m, p.toNat = m := ⟨_, rfl⟩
    have hmp : ∀ k : Nat, ((k : Int) < p ↔ k < m) := fun k => by omega
    rw [hm, HL.out] at hR
    have HR := Lib.hid hR
    have HMP := Lib.hid hmp
    have hm20 : m ≤ 20 := by omega
    clear hR hmp hm
    go_enter Tryz.func246, Tryz.ntmps246
    go_upto_block 0 with (fail)
    go_cut [3, 4] from 10 to 36 (fun i n w' => ∃ g, RI2 a.ds m w g i n w')
    case first =>
      go_wp2_with fail
      go_loopg [3, 4] (min m L) (fun g i n wr => RI1 a.ds m w g i n wr)
      case atStart => exact ⟨0, 0, by rw [HL.out]; rfl, by simp [PF.val], rfl, rfl, rfl⟩
      case round =>
        obtain ⟨k, x, hg, hx, rfl, rfl, rfl⟩ := hrel
        rw [HL.out] at hg
        cases gk with
        | succ q =>
          have k1 : (k : Int) < p := (HMP.out k).2 (by omega)
          have k2 : (k : Int) < (L : Int) := by omega
          have k8 : (k : Int) < 800 := by omega
          have cd := HD.out.dig (i := k) (by omega)
          obtain ⟨d, hd⟩ : ∃ d, a.ds.getD k 0 = d := ⟨_, rfl⟩
          have hfc := HG.out k (by rw [HL.out]; omega)
          obtain ⟨c, hc⟩ : ∃ c, f k = c := ⟨_, rfl⟩
          rw [hc, hd] at hfc
          rw [hc] at cd
          have hd9 : d ≤ 9 := by
            rw [← hd, List.getD_eq_getElem?_getD, List.getElem?_eq_getElem (by rw [HL.out]; omega), Option.getD_some]
            exact HDIG.out _ (List.getElem_mem _)
          have hv := val_take_succ (ds := a.ds) (k := k) (by rw [HL.out]; omega)
          rw [hd] at hv
          have c1 : 48 ≤ c := by omega
          have c2 : c ≤ 57 := by omega
          obtain ⟨y, hy⟩ : ∃ y, x * 10 % 18446744073709551616 = y := ⟨_, rfl⟩
          obtain ⟨z, hz⟩ : ∃ z, (y + d) % 18446744073709551616 = z := ⟨_, rfl⟩
          have wy : IntKind.u64.wrap ((x : Int) * 10) = (y : Int) := by rw [IntKind.wrap_u64]; omega
          have wz : IntKind.u64.wrap ((y : Int) + ((c : Int) - 48)) = (z : Int) := by rw [IntKind.wrap_u64]; omega
          have hzz : z = PF.val (a.ds.take (k + 1)) % 18446744073709551616 := by rw [hv]; omega
          have hz8 : z < 18446744073709551616 := by omega
          have hx8 : x < 18446744073709551616 := by omega
          have hy8 : y < 18446744073709551616 := by omega
          have HST : Hid (RI1 a.ds m w q (.int .i64 ((k : Int) + 1)) (.int .u64 (z : Int)) w) := Lib.hid ⟨k + 1, z, by rw [HL.out]; omega, hzz, by go_num, rfl, rfl⟩
          clear hg hx hd hfc hc hd9 hv hy hz hzz
          go_wp2_with fail
          go_roundg q
          case measure => omega
          case rel => exact HST.out
        | zero =>
          have hx8 : x < 18446744073709551616 := by omega
          have hkm : k = min m L := by omega
          have HST : Hid (RI2 a.ds m w (m - k) (.int .i64 (k : Int)) (.int .u64 (x : Int)) w) := Lib.hid ⟨k, x, rfl, by omega, by rw [HL.out]; omega, by
            rw [hx]
            by_cases h : m ≤ L
            · rw [show k = m by omega, show m - a.ds.length = 0 by rw [HL.out]; omega, Nat.pow_zero, Nat.mul_one]
            · rw [show k - a.ds.length = 0 by rw [HL.out]; omega, Nat.pow_zero, Nat.mul_one, List.take_of_length_le (by rw [HL.out]; omega), List.take_of_length_le (by rw [HL.out]; omega)], rfl, rfl, rfl⟩
          have HKM := Lib.hid hkm
          by_cases hkm2 : k < m
          · have k1 : (k : Int) < p := (HMP.out k).2 hkm2
            have k2 : ¬(k : Int) < (L : Int) := by omega
            clear hg hx hkm hkm2
            go_wp2_with fail
            go_meet
            case rel => exact ⟨_, HST.out⟩
          · have k1 : ¬(k : Int) < p := fun h => hkm2 ((HMP.out k).1 h)
            clear hg hx hkm hkm2
            go_wp2_with fail
            go_meet
            case rel => exact ⟨_, HST.out⟩
    case rest =>
      obtain ⟨g, hst⟩ := hcut
      have HST := Lib.hid hst
      clear hst
      go_wp2_with fail
      go_loopg [3, 4] g (fun g i n wr => RI2 a.ds m w g i n wr)
      case atStart => exact HST.out
      case round =>
        obtain ⟨k, x, hg, hkm, hmk, hx, rfl, rfl, rfl⟩ := hrel
        rw [HL.out] at hmk hx
        by_cases hlt : k < m
        · have k1 : (k : Int) < p := (HMP.out k).2 hlt
          obtain ⟨y, hy⟩ : ∃ y, x * 10 % 18446744073709551616 = y := ⟨_, rfl⟩
          have wy : IntKind.u64.wrap ((x : Int) * 10) = (y : Int) := by rw [IntKind.wrap_u64]; omega
          have hyy : y = PF.val (a.ds.take m) * 10 ^ (k + 1 - L) % 18446744073709551616 := by
            rw [show k + 1 - L = k - L + 1 by omega, Nat.pow_succ, ← Nat.mul_assoc]
            omega
          have hy8 : y < 18446744073709551616 := by omega
          have hx8 : x < 18446744073709551616 := by omega
          have HST2 : Hid (RI2 a.ds m w (gk - 1) (.int .i64 ((k : Int) + 1)) (.int .u64 (y : Int)) w) := Lib.hid ⟨k + 1, y, by omega, by omega, by rw [HL.out]; omega, by rw [HL.out]; exact hyy, by go_num, rfl, rfl⟩
          have HG1 : Hid (0 < gk) := Lib.hid (by omega)
          clear hg hkm hmk hx hlt hy hyy
          go_wp2_with fail
          go_roundg (gk - 1)
          case measure => have := HG1.out; omega
          case rel => exact HST2.out
        · have k1 : ¬(k : Int) < p := fun h => hlt ((HMP.out k).1 h)
          have hkm2 : k = m := by omega
          rw [hkm2] at hx
          have hR := HR.out
          have hx8 : x < 18446744073709551616 := by omega
          cases U with
          | true =>
            have wx : IntKind.u64.wrap ((x : Int) + 1) = (R : Int) := by
              rw [IntKind.wrap_u64, ← hR]
              simp only [Bool.toNat_true]
              omega
            clear hg hkm hmk hx hlt hkm2 hR
            go_wp2_with fail
            refine M.out.mono ?_
            rintro e w' ⟨rfl, rfl⟩
            go_wp2_with fail
            go_ret
            exact ⟨rfl, rfl⟩
          | false =>
            have hxR : R = x := by
              rw [← hR]
              simp only [Bool.toNat_false]
              omega
            subst hxR
            clear hg hkm hmk hx hlt hkm2 hR
            go_wp2_with fail
            refine M.out.mono ?_
            rintro e w' ⟨rfl, rfl⟩
            go_wp2_with fail
            go_ret
            exact ⟨rfl, rfl⟩
end Go.Proofs.YtagiddbfhlokcaaGreatDoor
/- A scope with several labels; a frame whose slots are read one by one. No condition. -/
namespace Go.Proofs.YtagiddbfhlokcaaGreatDoor
open Go.RowKit
/-- As Q; by a goto to label l: J l. -/
def Jumps (J : Nat → Act → World → Prop) (Q : Exit → Act → World → Prop) : Exit → Act → World → Prop
  | .goto l, a, w => J l a w
  | e, a, w => Q e a w
theorem wp_scope_labels {P : Program} {a : Act} {w : World} {Q : Exit → Act → World → Prop} {c : Code} (J : Nat → Act → World → Prop) (μ : Nat → Act → World → Nat)
    (first : c.wp P (Jumps J Q) a w)
    (pass : ∀ l a w, J l a w → ∃ rest, findLabel c l = some rest ∧ rest.wp P (Jumps (fun l' a' w' => J l' a' w' ∧ μ l' a' w' < μ l a w) Q) a w) : (Code.scope c).wp P Q a w := by
  intro b k cs
  have key : ∀ n l a w, μ l a w = n → J l a w → ∃ rest, findLabel c l = some rest ∧ ∃ e a' w', Q e a' w' ∧ Arrives P (lone (b.at a (.code rest :: .inScope c :: k)) cs w) b k cs e a' w' := by
    intro n
    induction n using Nat.strongRecOn with
    | _ n ih =>
      intro l a w hn hJ
      obtain ⟨rest, hf, hp⟩ := pass l a w hJ
      refine ⟨rest, hf, ?_⟩
      obtain ⟨e, a₁, w₁, hq, harr⟩ := hp b (.inScope c :: k) cs
      cases e with
      | normal => exact ⟨.normal, a₁, w₁, hq, Steps.trans harr (.one step_inScope)⟩
      | exit id => exact ⟨.exit id, a₁, w₁, hq, fun k' hk => harr k' (by simp [exitTo, hk])⟩
      | goto l' =>
        obtain ⟨hJ', hlt⟩ := hq
        obtain ⟨rest', hf', e₂, a₂, w₂, hq₂, harr₂⟩ := ih _ (by omega) l' a₁ w₁ rfl hJ'
        exact ⟨e₂, a₂, w₂, hq₂, .of_steps (harr _ (by simp [gotoIn, hf'])) harr₂⟩
      | ret => exact ⟨_, a₁, w₁, hq, harr⟩
      | panic ch => exact ⟨_, a₁, w₁, hq, harr⟩
      | outgrown => exact ⟨_, a₁, w₁, hq, harr⟩
  obtain ⟨e, a₁, w₁, hq, harr⟩ := first b (.inScope c :: k) cs
  cases e with
  | normal => exact ⟨.normal, a₁, w₁, hq, .head step_scope (Steps.trans harr (.one step_inScope))⟩
  | exit id => exact ⟨.exit id, a₁, w₁, hq, fun k' hk => .head step_scope (harr k' (by simp [exitTo, hk]))⟩
  | goto l' =>
    obtain ⟨rest, hf, e₂, a₂, w₂, hq₂, harr₂⟩ := key _ l' a₁ w₁ rfl hq
    exact ⟨e₂, a₂, w₂, hq₂, .of_steps (.head step_scope (harr _ (by simp [gotoIn, hf]))) harr₂⟩
  | ret => exact ⟨_, a₁, w₁, hq, .of_steps (.one step_scope) harr⟩
  | panic ch => exact ⟨_, a₁, w₁, hq, .of_steps (.one step_scope) harr⟩
  | outgrown => exact ⟨_, a₁, w₁, hq, .of_steps (.one step_scope) harr⟩
def firstScope : Code → Option Code
  | .scope c => some c
  | .seq a b => match firstScope a with
    | some c => some c
    | none => firstScope b
  | .block _ c => firstScope c
  | _ => none
theorem all_slots (xs : Array Value) (n : Nat) (h : xs.size = n) : xs = ((List.range n).map fun i => xs.getD i undef).toArray := by
  subst h
  apply Array.ext
  · simp
  · intro i h1 h2
    simp [Array.getD, h1]
set_option maxRecDepth 100000 in
theorem slots243 (xs : Array Value) (h : xs.size = 243) : xs = #[xs.getD 0 undef, xs.getD 1 undef, xs.getD 2 undef, xs.getD 3 undef, xs.getD 4 undef, xs.getD 5 undef, xs.getD 6 undef, xs.getD 7 undef, xs.getD 8 undef, xs.getD 9 undef, xs.getD 10 undef, xs.getD 11 undef, xs.getD 12 undef, xs.getD 13 undef, xs.getD 14 undef, xs.getD 15 undef, xs.getD 16 undef, xs.getD 17 undef, xs.getD 18 undef, xs.getD 19 undef, xs.getD 20 undef, xs.getD 21 undef, xs.getD 22 undef, xs.getD 23 undef, xs.getD 24 undef, xs.getD 25 undef, xs.getD 26 undef, xs.getD 27 undef, xs.getD 28 undef, xs.getD 29 undef, xs.getD 30 undef, xs.getD 31 undef, xs.getD 32 undef, xs.getD 33 undef, xs.getD 34 undef, xs.getD 35 undef, xs.getD 36 undef, xs.getD 37 undef, xs.getD 38 undef, xs.getD 39 undef, xs.getD 40 undef, xs.getD 41 undef, xs.getD 42 undef, xs.getD 43 undef, xs.getD 44 undef, xs.getD 45 undef, xs.getD 46 undef, xs.getD 47 undef, xs.getD 48 undef, xs.getD 49 undef, xs.getD 50 undef, xs.getD 51 undef, xs.getD 52 undef, xs.getD 53 undef, xs.getD 54 undef, xs.getD 55 undef, xs.getD 56 undef, xs.getD 57 undef, xs.getD 58 undef, xs.getD 59 undef, xs.getD 60 undef, xs.getD 61 undef, xs.getD 62 undef, xs.getD 63 undef, xs.getD 64 undef, xs.getD 65 undef, xs.getD 66 undef, xs.getD 67 undef, xs.getD 68 undef, xs.getD 69 undef, xs.getD 70 undef, xs.getD 71 undef, xs.getD 72 undef, xs.getD 73 undef, xs.getD 74 undef, xs.getD 75 undef, xs.getD 76 undef, xs.getD 77 undef, xs.getD 78 undef, xs.getD 79 undef, xs.getD 80 undef, xs.getD 81 undef, xs.getD 82 undef, xs.getD 83 undef, xs.getD 84 undef, xs.getD 85 undef, xs.getD 86 undef, xs.getD 87 undef, xs.getD 88 undef, xs.getD 89 undef, xs.getD 90 undef, xs.getD 91 undef, xs.getD 92 undef, xs.getD 93 undef, xs.getD 94 undef, xs.getD 95 undef, xs.getD 96 undef, xs.getD 97 undef, xs.getD 98 undef, xs.getD 99 undef, xs.getD 100 undef, xs.getD 101 undef, xs.getD 102 undef, xs.getD 103 undef, xs.getD 104 undef, xs.getD 105 undef, xs.getD 106 undef, xs.getD 107 undef, xs.getD 108 undef, xs.getD 109 undef, xs.getD 110 undef, xs.getD 111 undef, xs.getD 112 undef, xs.getD 113 undef, xs.getD 114 undef, xs.getD 115 undef, xs.getD 116 undef, xs.getD 117 undef, xs.getD 118 undef, xs.getD 119 undef, xs.getD 120 undef, xs.getD 121 undef, xs.getD 122 undef, xs.getD 123 undef, xs.getD 124 undef, xs.getD 125 undef, xs.getD 126 undef, xs.getD 127 undef, xs.getD 128 undef, xs.getD 129 undef, xs.getD 130 undef, xs.getD 131 undef, xs.getD 132 undef, xs.getD 133 undef, xs.getD 134 undef, xs.getD 135 undef, xs.getD 136 undef, xs.getD 137 undef, xs.getD 138 undef, xs.getD 139 undef, xs.getD 140 undef, xs.getD 141 undef, xs.getD 142 undef, xs.getD 143 undef, xs.getD 144 undef, xs.getD 145 undef, xs.getD 146 undef, xs.getD 147 undef, xs.getD 148 undef, xs.getD 149 undef, xs.getD 150 undef, xs.getD 151 undef, xs.getD 152 undef, xs.getD 153 undef, xs.getD 154 undef, xs.getD 155 undef, xs.getD 156 undef, xs.getD 157 undef, xs.getD 158 undef, xs.getD 159 undef, xs.getD 160 undef, xs.getD 161 undef, xs.getD 162 undef, xs.getD 163 undef, xs.getD 164 undef, xs.getD 165 undef, xs.getD 166 undef, xs.getD 167 undef, xs.getD 168 undef, xs.getD 169 undef, xs.getD 170 undef, xs.getD 171 undef, xs.getD 172 undef, xs.getD 173 undef, xs.getD 174 undef, xs.getD 175 undef, xs.getD 176 undef, xs.getD 177 undef, xs.getD 178 undef, xs.getD 179 undef, xs.getD 180 undef, xs.getD 181 undef, xs.getD 182 undef, xs.getD 183 undef, xs.getD 184 undef, xs.getD 185 undef, xs.getD 186 undef, xs.getD 187 undef, xs.getD 188 undef, xs.getD 189 undef, xs.getD 190 undef, xs.getD 191 undef, xs.getD 192 undef, xs.getD 193 undef, xs.getD 194 undef, xs.getD 195 undef, xs.getD 196 undef, xs.getD 197 undef, xs.getD 198 undef, xs.getD 199 undef, xs.getD 200 undef, xs.getD 201 undef, xs.getD 202 undef, xs.getD 203 undef, xs.getD 204 undef, xs.getD 205 undef, xs.getD 206 undef, xs.getD 207 undef, xs.getD 208 undef, xs.getD 209 undef, xs.getD 210 undef, xs.getD 211 undef, xs.getD 212 undef, xs.getD 213 undef, xs.getD 214 undef, xs.getD 215 undef, xs.getD 216 undef, xs.getD 217 undef, xs.getD 218 undef, xs.getD 219 undef, xs.getD 220 undef, xs.getD 221 undef, xs.getD 222 undef, xs.getD 223 undef, xs.getD 224 undef, xs.getD 225 undef, xs.getD 226 undef, xs.getD 227 undef, xs.getD 228 undef, xs.getD 229 undef, xs.getD 230 undef, xs.getD 231 undef, xs.getD 232 undef, xs.getD 233 undef, xs.getD 234 undef, xs.getD 235 undef, xs.getD 236 undef, xs.getD 237 undef, xs.getD 238 undef, xs.getD 239 undef, xs.getD 240 undef, xs.getD 241 undef, xs.getD 242 undef] := all_slots xs 243 h
set_option maxRecDepth 100000 in
theorem frame_of243 (a : Act) (hs : a.tmps.size = 243) (hd : a.defers = []) : ∃ f : Nat → Value, a = ⟨#[f 0, f 1, f 2, f 3, f 4, f 5, f 6, f 7, f 8, f 9, f 10, f 11, f 12, f 13, f 14, f 15, f 16, f 17, f 18, f 19, f 20, f 21, f 22, f 23, f 24, f 25, f 26, f 27, f 28, f 29, f 30, f 31, f 32, f 33, f 34, f 35, f 36, f 37, f 38, f 39, f 40, f 41, f 42, f 43, f 44, f 45, f 46, f 47, f 48, f 49, f 50, f 51, f 52, f 53, f 54, f 55, f 56, f 57, f 58, f 59, f 60, f 61, f 62, f 63, f 64, f 65, f 66, f 67, f 68, f 69, f 70, f 71, f 72, f 73, f 74, f 75, f 76, f 77, f 78, f 79, f 80, f 81, f 82, f 83, f 84, f 85, f 86, f 87, f 88, f 89, f 90, f 91, f 92, f 93, f 94, f 95, f 96, f 97, f 98, f 99, f 100, f 101, f 102, f 103, f 104, f 105, f 106, f 107, f 108, f 109, f 110, f 111, f 112, f 113, f 114, f 115, f 116, f 117, f 118, f 119, f 120, f 121, f 122, f 123, f 124, f 125, f 126, f 127, f 128, f 129, f 130, f 131, f 132, f 133, f 134, f 135, f 136, f 137, f 138, f 139, f 140, f 141, f 142, f 143, f 144, f 145, f 146, f 147, f 148, f 149, f 150, f 151, f 152, f 153, f 154, f 155, f 156, f 157, f 158, f 159, f 160, f 161, f 162, f 163, f 164, f 165, f 166, f 167, f 168, f 169, f 170, f 171, f 172, f 173, f 174, f 175, f 176, f 177, f 178, f 179, f 180, f 181, f 182, f 183, f 184, f 185, f 186, f 187, f 188, f 189, f 190, f 191, f 192, f 193, f 194, f 195, f 196, f 197, f 198, f 199, f 200, f 201, f 202, f 203, f 204, f 205, f 206, f 207, f 208, f 209, f 210, f 211, f 212, f 213, f 214, f 215, f 216, f 217, f 218, f 219, f 220, f 221, f 222, f 223, f 224, f 225, f 226, f 227, f 228, f 229, f 230, f 231, f 232, f 233, f 234, f 235, f 236, f 237, f 238, f 239, f 240, f 241, f 242], []⟩ ∧ ∀ i, a.tmps.getD i undef = f i := by
  obtain ⟨xs, ds⟩ := a
  simp only at hs hd
  subst hd
  exact ⟨fun i => xs.getD i undef, by rw [← slots243 xs hs], fun _ => rfl⟩
end Go.Proofs.YtagiddbfhlokcaaGreatDoor
/- The loop of readFloat, place by place. No condition. -/
namespace PF
/-- The exponent that comes of a text. -/
def expo (E : RF × List UInt8) : Int := if E.1.man = 0 then 0 else (if E.1.dot then E.1.dp else (E.1.nd : Int)) + exV E.2 - E.1.nm
theorem readF_eq (l : List UInt8) : readF l = ((RF.run (body l) rf0).1.man, expo (RF.run (body l) rf0), (RF.run (body l) rf0).1.tr) := rfl
/-- At place k the state is st; E comes of it. -/
structure Rd (l : List UInt8) (E : RF × List UInt8) (st : RF) (k : Nat) (sv : Bool) : Prop where
  le : k ≤ l.length
  run : RF.run (l.drop k) st = E
  ok : st.Ok k
  okm : okM st.dot sv (l.drop k) = true
  saw : sv = true → st.saw = true
theorem rf0_okk (k : Nat) : rf0.Ok k := ⟨by simp [rf0], by simp [rf0], by simp [rf0], by simp [rf0], by simp [rf0], by simp [rf0], (fun _ h => by cases h), by simp [rf0]⟩
theorem Rd.start {l : List UInt8} {k : Nat} (hk : k ≤ l.length) (hm : okM false false (l.drop k) = true) : Rd l (RF.run (l.drop k) rf0) rf0 k false := ⟨hk, rfl, rf0_okk k, hm, fun h => by cases h⟩
theorem Rd.cons {l : List UInt8} {k : Nat} (hk : k < l.length) : l.drop k = l[k] :: l.drop (k + 1) := List.drop_eq_getElem_cons hk
theorem Rd.step {l : List UInt8} {E : RF × List UInt8} {st st' : RF} {k : Nat} {sv sv' : Bool} (h : Rd l E st k sv) (hk : k < l.length) (hs : st.step l[k] = some st') (hm : okM st'.dot sv' (l.drop (k + 1)) = true) (hv : sv' = true → st'.saw = true) : Rd l E st' (k + 1) sv' :=
  ⟨hk, by rw [← RF.run_some hs, ← Rd.cons hk]; exact h.run, h.ok.step hs, hm, hv⟩
theorem Rd.digit {l : List UInt8} {E : RF × List UInt8} {st : RF} {k : Nat} {sv : Bool} (h : Rd l E st k sv) (hk : k < l.length) (hd : isDig l[k] = true) :
    (l[k] = 48 ∧ st.nd = 0 → Rd l E { st with saw := true, dp := st.dp - 1 } (k + 1) true) ∧
    (¬(l[k] = 48 ∧ st.nd = 0) → st.nm < 19 → Rd l E { st with saw := true, ds := st.ds ++ [l[k].toNat - 48], man := st.man * 10 + (l[k].toNat - 48), nm := st.nm + 1 } (k + 1) true) ∧
    (¬(l[k] = 48 ∧ st.nd = 0) → ¬st.nm < 19 → Rd l E { st with saw := true, ds := st.ds ++ [l[k].toNat - 48], tr := st.tr || decide (l[k] ≠ 48) } (k + 1) true) := by
  have h46 : ¬l[k] = 46 := by intro e; rw [e] at hd; revert hd; decide
  have hm := h.okm
  rw [Rd.cons hk] at hm
  unfold okM at hm
  rw [if_pos hd] at hm
  refine ⟨fun hz => h.step hk ?_ hm fun _ => rfl, fun hz hn => h.step hk ?_ hm fun _ => rfl, fun hz hn => h.step hk ?_ hm fun _ => rfl⟩
  · unfold RF.step; rw [if_neg h46, if_pos hd, if_pos hz]
  · unfold RF.step; rw [if_neg h46, if_pos hd, if_neg hz, if_pos hn]
  · unfold RF.step; rw [if_neg h46, if_pos hd, if_neg hz, if_neg hn]
theorem Rd.point {l : List UInt8} {E : RF × List UInt8} {st : RF} {k : Nat} {sv : Bool} (h : Rd l E st k sv) (hk : k < l.length) (hd : l[k] = 46) : st.dot = false ∧ Rd l E { st with dot := true, dp := st.nd } (k + 1) true := by
  have hm := h.okm
  rw [Rd.cons hk] at hm
  unfold okM at hm
  rw [if_neg (by rw [hd]; decide), if_pos hd] at hm
  simp only [Bool.and_eq_true, Bool.not_eq_true'] at hm
  refine ⟨hm.1.1, h.step hk ?_ (okM_saw _ hm.2) fun _ => h.saw hm.1.2⟩
  unfold RF.step
  rw [if_pos hd, hm.1.1]
  rfl
theorem Rd.exp {l : List UInt8} {E : RF × List UInt8} {st : RF} {k : Nat} {sv : Bool} (h : Rd l E st k sv) (hk : k < l.length) (hd : isDig l[k] = false) (hp : ¬l[k] = 46) : (l[k] = 101 ∨ l[k] = 69) ∧ E = (st, l[k] :: l.drop (k + 1)) ∧ st.saw = true ∧ okX (l.drop (k + 1)) = true := by
  have hm := h.okm
  rw [Rd.cons hk] at hm
  unfold okM at hm
  rw [if_neg (by rw [hd]; decide), if_neg hp] at hm
  simp only [Bool.and_eq_true, Bool.or_eq_true, decide_eq_true_eq] at hm
  refine ⟨hm.1, ?_, h.saw hm.2.1, hm.2.2⟩
  rw [← h.run, Rd.cons hk, RF.run_none]
  unfold RF.step
  rw [if_neg hp, if_neg (by rw [hd]; decide)]
theorem Rd.fin {l : List UInt8} {E : RF × List UInt8} {st : RF} {sv : Bool} (h : Rd l E st l.length sv) : E = (st, []) ∧ st.saw = true := by
  have hm := h.okm
  have hr := h.run
  rw [List.drop_length] at hm hr
  exact ⟨hr.symm, h.saw (by simpa [okM] using hm)⟩
/-- Behind the e: perhaps a sign, then digits. -/
theorem okX_cases {r : List UInt8} (h : okX r = true) : ∃ c t, r = c :: t ∧ ((c = 43 ∧ okD t = true) ∨ (c = 45 ∧ okD t = true) ∨ (c ≠ 43 ∧ c ≠ 45 ∧ okD (c :: t) = true)) := by
  cases r with
  | nil => simp [okX] at h
  | cons c t =>
    refine ⟨c, t, rfl, ?_⟩
    have h : (if c = 43 ∨ c = 45 then okD t else okD (c :: t)) = true := h
    by_cases h1 : c = 43
    · rw [if_pos (.inl h1)] at h; exact .inl ⟨h1, h⟩
    · by_cases h2 : c = 45
      · rw [if_pos (.inr h2)] at h; exact .inr (.inl ⟨h2, h⟩)
      · rw [if_neg (by simp [h1, h2])] at h; exact .inr (.inr ⟨h1, h2, h⟩)
end PF
/- What ParseFloat answers, in plain Lean: the bits, and whether they are said to be too great. No condition. -/
namespace PF
theorem fbits_fin (neg : Bool) (a : Dec) : ((fbits neg a).2 = false → Fin (fbits neg a).1) ∧ ((fbits neg a).2 = true → Inf (fbits neg a).1) ∧ (fbits neg a).1 < 18446744073709551616 := by
  have hs : ∀ n : Bool, (if n then 2 ^ 63 else 0 : Nat) = 0 ∨ (if n then 2 ^ 63 else 0 : Nat) = 9223372036854775808 := by intro n; cases n <;> simp
  have h52 : (2 : Nat) ^ 52 = 4503599627370496 := by decide
  have h63 : (2 : Nat) ^ 63 = 9223372036854775808 := by decide
  have inf : ∀ n : Bool, Inf (2047 * 2 ^ 52 + (if n then 2 ^ 63 else 0)) ∧ 2047 * 2 ^ 52 + (if n then 2 ^ 63 else 0) < 18446744073709551616 := by
    intro n; cases n <;> unfold Inf <;> decide
  have zer : ∀ n : Bool, Fin (if n then 2 ^ 63 else 0) ∧ (if n then 2 ^ 63 else 0) < 18446744073709551616 := by
    intro n; cases n <;> unfold Fin <;> decide
  unfold fbits
  dsimp only
  split
  · exact ⟨fun _ => (zer neg).1, (fun h => by cases h), (zer neg).2⟩
  split
  · exact ⟨(fun h => by cases h), fun _ => (inf neg).1, (inf neg).2⟩
  split
  · exact ⟨fun _ => (zer neg).1, (fun h => by cases h), (zer neg).2⟩
  generalize fb2 5000 (fb1 5000 a 0).1 (fb1 5000 a 0).2 = q
  generalize (if q.2 - 1 < -1022 then (q.1.rshN (-1022 - (q.2 - 1)).toNat, (-1022 : Int)) else (q.1, q.2 - 1)) = b
  split
  · exact ⟨(fun h => by cases h), fun _ => (inf neg).1, (inf neg).2⟩
  generalize rint (b.1.lsh 53) = m
  split
  · exact ⟨(fun h => by cases h), fun _ => (inf neg).1, (inf neg).2⟩
  rename_i h1 h2
  have key : ∀ (c : Nat × Int), c.2 + 1023 < 2047 → Fin (c.1 % 2 ^ 52 + (((if c.1 / 2 ^ 52 % 2 = 0 then -1023 else c.2) + 1023).toNat % 2048) * 2 ^ 52 + (if neg then 2 ^ 63 else 0)) ∧ c.1 % 2 ^ 52 + (((if c.1 / 2 ^ 52 % 2 = 0 then -1023 else c.2) + 1023).toNat % 2048) * 2 ^ 52 + (if neg then 2 ^ 63 else 0) < 18446744073709551616 := by
    intro c hc
    have hm : c.1 % 2 ^ 52 < 2 ^ 52 := Nat.mod_lt _ (by decide)
    have hx : ((if c.1 / 2 ^ 52 % 2 = 0 then -1023 else c.2) + 1023).toNat ≤ 2046 := by split <;> omega
    generalize ((if c.1 / 2 ^ 52 % 2 = 0 then -1023 else c.2) + 1023).toNat = x at *
    generalize c.1 % 2 ^ 52 = y at *
    rw [Nat.mod_eq_of_lt (by omega : x < 2048), h52] at *
    unfold Fin
    rcases hs neg with h | h <;> rw [h] <;> constructor <;> omega
  have k := key (if m = 2 ^ 53 then (2 ^ 52, b.2 + 1) else (m, b.2)) (by split <;> simp only <;> omega)
  exact ⟨fun _ => k.1, (fun h => by cases h), k.2⟩
/-- Are two floats alike? -/
def eqF (x y : Nat) : Bool := Ieee.double.order x y == some .eq
/-- The decimal of a text. -/
def decOf (l : List UInt8) : Dec :=
  let (st, rest) := RF.run (body l) rf0
  ⟨st.ds, (if st.dot then st.dp else st.nd) + exV rest, false⟩
def atof (T : Int → Nat × Nat) (F : Nat → Nat) (l : List UInt8) : Nat × Bool :=
  let n := isNeg l
  let r := readF l
  if r.1 = 0 then (sgn n, false)
  else if 310 < r.2.1 then (sgn n + 9218868437227405312, true)
  else if r.2.1 < -345 then (sgn n, false)
  else match (if r.2.2 then none else exact64 F r.1 r.2.1 n) with
    | some f => (f, false)
    | none =>
      if r.2.2 then (if eqF (par64 T r.1 r.2.1 n).1 (par64 T (r.1 + 1) r.2.1 n).1 then par64 T r.1 r.2.1 n else fbits n (decOf l))
      else par64 T r.1 r.2.1 n
theorem sgn_fin (n : Bool) : Fin (sgn n) ∧ sgn n < 18446744073709551616 ∧ Inf (sgn n + 9218868437227405312) ∧ sgn n + 9218868437227405312 < 18446744073709551616 := by
  cases n <;> unfold Fin Inf <;> decide
theorem atof_fin {T : Int → Nat × Nat} (hT : ∀ p, (T p).1 < two64) {F : Nat → Nat} (hF : TabOk F) (l : List UInt8) : ((atof T F l).2 = false → Fin (atof T F l).1) ∧ ((atof T F l).2 = true → Inf (atof T F l).1) ∧ (atof T F l).1 < 18446744073709551616 := by
  have s := sgn_fin (isNeg l)
  unfold atof
  dsimp only
  split
  · exact ⟨fun _ => s.1, (fun h => by cases h), s.2.1⟩
  split
  · exact ⟨(fun h => by cases h), fun _ => s.2.2.1, s.2.2.2⟩
  split
  · exact ⟨fun _ => s.1, (fun h => by cases h), s.2.1⟩
  split
  · rename_i f hf
    split at hf
    · cases hf
    · obtain ⟨a, b⟩ := exact64_fin hF hf
      exact ⟨fun _ => a, (fun h => by cases h), b⟩
  · split
    · split
      · exact par64_fin T hT _ _ _
      · exact fbits_fin _ _
    · exact par64_fin T hT _ _ _
end PF
/- The bits of a decimal. Condition: the decimal's block, the tables. -/
namespace Go.Proofs.YtagiddbfhlokcaaGreatDoor
open Go.RowKit Go.Dcm
set_option maxRecDepth 100000
/-- The tables that the bits hang on. -/
structure FB (G B2 o2 B o : Nat) (S : Nat → ByteArray) (w : World) : Prop where
  m : w.cell? ⟨G, 0, none⟩ = some (.int .u64 52)
  x : w.cell? ⟨G, 1, none⟩ = some (.int .u64 11)
  bi : w.cell? ⟨G, 2, none⟩ = some (.int .i64 (-1023))
  p : w.cell? ⟨11, 0, none⟩ = some (.slice (some ⟨B2, o2, none⟩) 9 9)
  pt : ∀ i, i < 9 → w.cell? ⟨B2, o2 + i, none⟩ = some (.int .i64 (PF.powtab i : Int))
  ch : Cheat B o S w
theorem FB.below {G B2 o2 B o b : Nat} {S : Nat → ByteArray} {w w' : World} (h : FB G B2 o2 B o S w) (hb : Below b w w') (h16 : 16 < b) (hG : G < b) (hB2 : B2 < b) (hB : B < b) : FB G B2 o2 B o S w' :=
  ⟨(hb.cell (p := ⟨G, 0, none⟩) hG).trans h.m, (hb.cell (p := ⟨G, 1, none⟩) hG).trans h.x, (hb.cell (p := ⟨G, 2, none⟩) hG).trans h.bi, (hb.cell (p := ⟨11, 0, none⟩) (by omega : 11 < b)).trans h.p, fun i hi => (hb.cell (p := ⟨B2, _, none⟩) hB2).trans (h.pt i hi), h.ch.below hb h16 hB⟩
def Fr0 (b G : Nat) (a : Act) : Prop := a.defers = [] ∧ a.tmps.size = 243 ∧ a.tmps.getD 0 undef = .pointer (some ⟨b, 0, none⟩) ∧ a.tmps.getD 1 undef = .pointer (some ⟨G, 0, none⟩)
def JOut (b : Nat) (neg : Bool) (G B2 o2 B o : Nat) (S : Nat → ByteArray) (R : Nat × Bool) (w : World) (a : Act) (wr : World) : Prop :=
  Fr0 b G a ∧ ∃ (m X : Nat) (ov : Bool) (f : Nat → Nat) (nd dp : Int) (tr : Bool), a.tmps.getD 5 undef = .bool ov ∧ a.tmps.getD 6 undef = .int .i64 ((X : Int) - 1023) ∧ a.tmps.getD 7 undef = .int .u64 (m : Int) ∧ DAt 267 wr b f nd dp neg tr ∧ FB G B2 o2 B o S wr ∧ Below b w wr ∧ X ≤ 2047 ∧ m < 18446744073709551616 ∧ (m % 4503599627370496 + X * 4503599627370496 + PF.sgn neg, ov) = R
def JOvf (b : Nat) (neg : Bool) (G B2 o2 B o : Nat) (S : Nat → ByteArray) (R : Nat × Bool) (w : World) (a : Act) (wr : World) : Prop :=
  Fr0 b G a ∧ ∃ (f : Nat → Nat) (nd dp : Int) (tr : Bool), DAt 267 wr b f nd dp neg tr ∧ FB G B2 o2 B o S wr ∧ Below b w wr ∧ (2047 * 4503599627370496 + PF.sgn neg, true) = R
def JB (b : Nat) (neg : Bool) (G B2 o2 B o : Nat) (S : Nat → ByteArray) (R : Nat × Bool) (w : World) : Nat → Act → World → Prop
  | 0 => JOut b neg G B2 o2 B o S R w
  | 1 => JOvf b neg G B2 o2 B o S R w
  | _ => fun _ _ => False
theorem and2047 : ∀ s : Fin 2048, bits BinOp.and IntKind.i64 (s.val : Int) 2047 = (s.val : Int) := by decide +kernel
def RetB (b : Nat) (R : Nat × Bool) (w : World) (a : Act) (wr : World) : Prop :=
  a.defers = [] ∧ a.tmps.getD 4 undef = .int .u64 (R.1 : Int) ∧ a.tmps.getD 5 undef = .bool R.2 ∧ Below b w wr
set_option maxHeartbeats 1000000 in
theorem pass_out (b : Nat) (neg : Bool) (G B2 o2 B o : Nat) (S : Nat → ByteArray) (R : Nat × Bool) (w : World) (Q : Exit → Act → World → Prop) (hret : ∀ a' w', RetB b R w a' w' → Q .ret a' w') (rest : Code) (hr : (Tryz.f212.body.bind firstScope).bind (findLabel · 0) = some rest)
    (a : Act) (wr : World) (hJ : JOut b neg G B2 o2 B o S R w a wr) : rest.wp Tryz.prog Q a wr := by
  change some _ = some rest at hr
  cases hr
  obtain ⟨⟨hd0, hsz, g0, g1⟩, m, X, ov, f, nd, dp, tr, g5, g6, g7, hd, hfb, hbl, hX, hm, hR⟩ := hJ
  obtain ⟨fr, rfl, hf⟩ := frame_of243 a hsz hd0
  rw [hf] at g0 g1 g5 g6 g7
  rw [g0, g1, g5, g6, g7]
  have k1 := hfb.m
  have k2 := hfb.x
  have k3 := hfb.bi
  have cng := hd.cneg
  obtain ⟨lo, hlo⟩ : ∃ lo, m % 4503599627370496 = lo := ⟨_, rfl⟩
  have am : bits BinOp.and IntKind.u64 (m : Int) 4503599627370495 = (lo : Int) := by
    have h := bits_and_u64_nat m 4503599627370495 hm (by omega)
    rw [show (4503599627370495 : Nat) = 2 ^ 52 - 1 from rfl, Nat.and_two_pow_sub_one_eq_mod, show (2 : Nat) ^ 52 = 4503599627370496 from rfl, hlo] at h
    exact h
  have ax := and2047 ⟨X, by omega⟩
  simp only at ax
  obtain ⟨y, hy⟩ : ∃ y, X * 4503599627370496 = y := ⟨_, rfl⟩
  obtain ⟨z, hz⟩ : ∃ z, lo + y = z := ⟨_, rfl⟩
  have wy : IntKind.u64.wrap ((X : Int) * 4503599627370496) = (y : Int) := by rw [IntKind.wrap_u64]; omega
  have wx : IntKind.i64.wrap ((X : Int) - 1023 - -1023) = (X : Int) := by rw [IntWalk.i64_in _ (by omega)]; omega
  have oz : bits BinOp.or IntKind.u64 (lo : Int) (y : Int) = (z : Int) := by
    have h := bits_or_u64_nat lo y (by omega) (by omega)
    rw [h, ← hz]
    congr 1
    rw [Nat.or_comm, ← hy, Nat.mul_comm, Nat.add_comm lo, Nat.mul_comm, Nat.mul_comm X]
    exact (Nat.two_pow_add_eq_or_of_lt (i := 52) (by omega) X).symm
  have on : bits BinOp.or IntKind.u64 (z : Int) 9223372036854775808 = ((z + 9223372036854775808 : Nat) : Int) := by
    have h := bits_or_u64_nat z 9223372036854775808 (by omega) (by omega)
    refine (show bits BinOp.or IntKind.u64 (z : Int) 9223372036854775808 = ((z ||| 9223372036854775808 : Nat) : Int) from h).trans ?_
    congr 1
    rw [Nat.or_comm, Nat.add_comm]
    exact (Nat.two_pow_add_eq_or_of_lt (i := 63) (by omega) 1).symm
  have HR := Lib.hid hR
  have HRET := Lib.hid hret
  have HBL := Lib.hid hbl
  have z63 : z < 9223372036854775808 := by omega
  have X0 : (0 : Int) ≤ (X : Int) := by omega
  have HZ : Hid (m % 4503599627370496 + X * 4503599627370496 = z) := Lib.hid (by omega)
  clear hf hsz hd0 hR hret hbl hd hfb hlo hy hz hm
  cases neg with
  | false =>
    go_wp2_with fail
    go_quiet (fail)
    go_wp2_with fail
    refine HRET.out _ _ ⟨rfl, ?_, ?_, below_drewN HBL.out _⟩
    · rw [← HR.out, HZ.out]; rfl
    · rw [← HR.out]; rfl
  | true =>
    go_wp2_with fail
    go_quiet (fail)
    go_wp2_with fail
    go_quiet (fail)
    go_wp2_with fail
    refine HRET.out _ _ ⟨rfl, ?_, ?_, by rw [World.drewN_drewN]; exact below_drewN HBL.out _⟩
    · rw [← HR.out, HZ.out]; rfl
    · rw [← HR.out]; rfl
set_option maxHeartbeats 1000000 in
theorem pass_ovf (b : Nat) (neg : Bool) (G B2 o2 B o : Nat) (S : Nat → ByteArray) (R : Nat × Bool) (w : World) (Q : Exit → Act → World → Prop) (hret : ∀ a' w', RetB b R w a' w' → Q .ret a' w') (rest : Code) (hr : (Tryz.f212.body.bind firstScope).bind (findLabel · 1) = some rest)
    (a : Act) (wr : World) (hJ : JOvf b neg G B2 o2 B o S R w a wr) : rest.wp Tryz.prog Q a wr := by
  change some _ = some rest at hr
  cases hr
  obtain ⟨⟨hd0, hsz, g0, g1⟩, f, nd, dp, tr, hd, hfb, hbl, hR⟩ := hJ
  obtain ⟨fr, rfl, hf⟩ := frame_of243 a hsz hd0
  rw [hf] at g0 g1
  rw [g0, g1]
  have k1 := hfb.m
  have k2 := hfb.x
  have k3 := hfb.bi
  have HRET := Lib.hid hret
  have cng := hd.cneg
  have a1 : bits BinOp.and IntKind.u64 0 4503599627370495 = 0 := by kernel_rfl
  have a2 : bits BinOp.and IntKind.i64 2047 2047 = 2047 := by kernel_rfl
  have a3 : bits BinOp.or IntKind.u64 0 9218868437227405312 = 9218868437227405312 := by kernel_rfl
  have a4 : bits BinOp.or IntKind.u64 9218868437227405312 9223372036854775808 = 18442240474082181120 := by kernel_rfl
  have HD := Lib.hid hd
  have HFB := Lib.hid hfb
  have HBL := Lib.hid hbl
  have HR := Lib.hid hR
  clear hf hsz hd0 hR hret hbl hd hfb
  cases neg with
  | false =>
    go_wp2_with fail
    go_quiet (fail)
    go_wp2_with fail
    go_step3
    go_wp2_with fail
    go_quiet (fail)
    go_wp2_with fail
    refine HRET.out _ _ ⟨rfl, ?_, ?_, below_drewN HBL.out _⟩
    · rw [← HR.out]; rfl
    · rw [← HR.out]; rfl
  | true =>
    go_wp2_with fail
    go_quiet (fail)
    go_wp2_with fail
    go_step3
    go_wp2_with fail
    go_quiet (fail)
    go_wp2_with fail
    go_quiet (fail)
    go_wp2_with fail
    refine HRET.out _ _ ⟨rfl, ?_, ?_, below_drewN (below_drewN HBL.out _) _⟩
    · rw [← HR.out]; rfl
    · rw [← HR.out]; rfl
end Go.Proofs.YtagiddbfhlokcaaGreatDoor
/- The bits of a decimal: the walk whole. Condition: the decimal's block, the tables. -/
namespace Go.Proofs.YtagiddbfhlokcaaGreatDoor
open Go.RowKit Go.Dcm
set_option maxRecDepth 100000
def Fb1 (b : Nat) (neg : Bool) (w : World) (P : PF.Dec × Int) (g : Nat) (e : Value) (wr : World) : Prop :=
  ∃ (a : PF.Dec) (f : Nat → Nat) (fu : Nat) (e' : Int), PF.fb1 fu a e' = P ∧ PF.muR a < fu ∧ g = PF.muR a ∧ a.Ok ∧ -330 ≤ a.dp ∧ a.dp ≤ 310 ∧ e' + 27 * fu ≤ 135000 ∧ 0 ≤ e' ∧ e = .int .i64 e' ∧ DAt 267 wr b f a.ds.length a.dp neg a.tr ∧ Digs f a.ds ∧ Below b w wr
def Fb2 (b : Nat) (neg : Bool) (w : World) (P : PF.Dec × Int) (g : Nat) (e : Value) (wr : World) : Prop :=
  ∃ (a : PF.Dec) (f : Nat → Nat) (fu : Nat) (e' : Int), PF.fb2 fu a e' = P ∧ PF.muL a < fu ∧ g = PF.muL a ∧ a.Ok ∧ -330 ≤ a.dp ∧ a.dp ≤ 0 ∧ -135000 ≤ e' - 27 * fu ∧ e' ≤ 135000 ∧ e = .int .i64 e' ∧ DAt 267 wr b f a.ds.length a.dp neg a.tr ∧ Digs f a.ds ∧ Below b w wr
theorem fb1_on {fu : Nat} {a : PF.Dec} {e : Int} (h : 0 < a.dp) : PF.fb1 (fu + 1) a e = PF.fb1 fu (a.rsh (PF.powtab a.dp.toNat)) (e + PF.powtab a.dp.toNat) := by rw [PF.fb1, if_pos h]
theorem fb1_off (fu : Nat) {a : PF.Dec} {e : Int} (h : ¬0 < a.dp) : PF.fb1 fu a e = (a, e) := by
  cases fu with
  | zero => rfl
  | succ fu => rw [PF.fb1, if_neg h]
theorem fb2_on {fu : Nat} {a : PF.Dec} {e : Int} (h : a.dp < 0 ∨ (a.dp = 0 ∧ PF.d0 a < 5)) : PF.fb2 (fu + 1) a e = PF.fb2 fu (a.lsh (PF.powtab (-a.dp).toNat)) (e - PF.powtab (-a.dp).toNat) := by rw [PF.fb2, if_pos h]
theorem fb2_off (fu : Nat) {a : PF.Dec} {e : Int} (h : ¬(a.dp < 0 ∨ (a.dp = 0 ∧ PF.d0 a < 5))) : PF.fb2 fu a e = (a, e) := by
  cases fu with
  | zero => rfl
  | succ fu => rw [PF.fb2, if_neg h]
theorem powtab_big {m : Nat} (h : 9 ≤ m) : PF.powtab m = 27 := by
  unfold PF.powtab
  split <;> first | rfl | omega
theorem powtab_bd (m : Nat) : 1 ≤ PF.powtab m ∧ PF.powtab m ≤ 27 := by
  by_cases h : 1 ≤ m
  · have := PF.powtab_lt m h; omega
  · obtain rfl : m = 0 := by omega
    decide
def BSt (b : Nat) (neg : Bool) (w : World) (q : PF.Dec × Int) (ex : Value) (w' : World) : Prop :=
  ex = .int .i64 q.2 ∧ ∃ f, DAt 267 w' b f q.1.ds.length q.1.dp neg q.1.tr ∧ Digs f q.1.ds ∧ Below b w w'
theorem rshN_dp : ∀ (k : Nat) {a : PF.Dec}, a.Ok → a.dp - k ≤ (a.rshN k).dp ∧ (a.rshN k).dp ≤ a.dp := by
  intro k
  induction k using Nat.strongRecOn with
  | ind k ih =>
    intro a h
    by_cases hk : 60 < k
    · rw [rshN_big hk]
      have h1 := rsh_dp h 60
      have h2 := ih (k - 60) (by omega) (PF.rsh_ok h 60).1
      omega
    · rw [rshN_small hk]
      exact rsh_dp h k
/-- What is left of a decimal's bits, once its exponent is known. -/
def fend (neg : Bool) (q : PF.Dec × Int) : Nat × Bool :=
  if 2047 ≤ q.2 + 1023 then (2047 * 2 ^ 52 + PF.sgn neg, true)
  else
    let m := PF.rint (q.1.lsh 53)
    let c := if m = 2 ^ 53 then (2 ^ 52, q.2 + 1) else (m, q.2)
    if m = 2 ^ 53 ∧ 2047 ≤ q.2 + 1 + 1023 then (2047 * 2 ^ 52 + PF.sgn neg, true)
    else
      let ex := if c.1 / 2 ^ 52 % 2 = 0 then -1023 else c.2
      (c.1 % 2 ^ 52 + ((ex + 1023).toNat % 2048) * 2 ^ 52 + PF.sgn neg, false)
def fmid (a : PF.Dec) (e : Int) : PF.Dec × Int := if e < -1022 then (a.rshN (-1022 - e).toNat, (-1022 : Int)) else (a, e)
/-- The mantissa m and the field X give the answer. -/
def Lst (neg : Bool) (R : Nat × Bool) (m X : Nat) : Prop := (m % 4503599627370496 + (if m / 4503599627370496 % 2 = 0 then 0 else X) * 4503599627370496 + PF.sgn neg, false) = R
/-- The last step, in numbers. -/
theorem lst_of {neg : Bool} {R : Nat × Bool} {m X : Nat} (hX : X ≤ 2046) (h : (if m = 9007199254740992 ∧ 2047 ≤ (X : Int) - 1023 + 1 + 1023 then ((2047 * 4503599627370496 + PF.sgn neg, true) : Nat × Bool)
    else ((if m = 9007199254740992 then ((4503599627370496, (X : Int) - 1023 + 1) : Nat × Int) else (m, (X : Int) - 1023)).1 % 4503599627370496 + (((if (if m = 9007199254740992 then ((4503599627370496, (X : Int) - 1023 + 1) : Nat × Int) else (m, (X : Int) - 1023)).1 / 4503599627370496 % 2 = 0 then -1023 else (if m = 9007199254740992 then ((4503599627370496, (X : Int) - 1023 + 1) : Nat × Int) else (m, (X : Int) - 1023)).2) + 1023).toNat % 2048) * 4503599627370496 + PF.sgn neg, false)) = R) :
    (m = 9007199254740992 → 2047 ≤ X + 1 → (2047 * 4503599627370496 + PF.sgn neg, true) = R) ∧ (m = 9007199254740992 → ¬2047 ≤ X + 1 → Lst neg R 4503599627370496 (X + 1)) ∧ (m ≠ 9007199254740992 → Lst neg R m X) := by
  refine ⟨fun h1 h2 => ?_, fun h1 h2 => ?_, fun h1 => ?_⟩
  · rw [if_pos ⟨h1, by omega⟩] at h
    exact h
  · rw [if_neg (by omega), if_pos h1] at h
    simp only at h
    unfold Lst
    rw [← h]
    have e : (4503599627370496 : Nat) / 4503599627370496 % 2 = 1 := by decide
    rw [e, if_neg (by decide), if_neg (by decide)]
    have e2 : ((X : Int) - 1023 + 1 + 1023).toNat % 2048 = X + 1 := by omega
    rw [e2]
  · rw [if_neg (fun h => h1 h.1), if_neg h1] at h
    simp only at h
    unfold Lst
    rw [← h]
    by_cases e : m / 4503599627370496 % 2 = 0
    · rw [if_pos e, if_pos e]; rfl
    · rw [if_neg e, if_neg e]
      have e2 : ((X : Int) - 1023 + 1023).toNat % 2048 = X := by omega
      rw [e2]
set_option maxHeartbeats 8000000 in
theorem bits212 (b : Nat) (f : Nat → Nat) (a : PF.Dec) (neg : Bool) (w : World) (hD : DAt 267 w b f a.ds.length a.dp neg a.tr) (hg : Digs f a.ds) (ha : a.Ok) (hp1 : -110000 ≤ a.dp) (hp2 : a.dp ≤ 110000) {G B2 o2 B o : Nat} {S : Nat → ByteArray} (hfb : FB G B2 o2 B o S w) (h16 : 16 < b) (hG : G < b) (hB2 : B2 < b) (hB : B < b) :
    Calls Tryz.prog 212 #[.pointer (some ⟨b, 0, none⟩), .pointer (some ⟨G, 0, none⟩)] w fun e w' => e = .returned (.tuple #[.int .u64 ((PF.fbits neg a).1 : Int), .bool (PF.fbits neg a).2]) ∧ Below b w w' := by
  obtain ⟨R, hR⟩ : ∃ R, PF.fbits neg a = R := ⟨_, rfl⟩
  rw [hR]
  have cn := hD.cnd
  have cp := hD.cdp
  have hl1 := ha.val.2.2.1
  have L0 : ((a.ds.length : Int) == 0) = false := by rw [beq_eq_false_iff_ne]; omega
  have hret : ∀ a' w', RetB b R w a' w' → bodyPost Tryz.prog Tryz.f212 (fun e w' => e = .returned (.tuple #[.int .u64 (R.1 : Int), .bool R.2]) ∧ Below b w w') .ret a' w' := by
    rintro a' w' ⟨h1, h2, h3, h4⟩
    refine bodyPost_ret (v := .tuple #[a'.tmps.getD 4 undef, a'.tmps.getD 5 undef]) (by simp [results, Tryz.results212]) h1 ⟨by rw [h2, h3], h4⟩
  have HRET := Lib.hid hret
  have HD := Lib.hid hD
  have HG := Lib.hid hg
  have HA := Lib.hid ha
  have HR := Lib.hid hR
  have HFB := Lib.hid hfb
  have hfb' : ∀ w', Below b w w' → FB G B2 o2 B o S w' := fun w' h => hfb.below h h16 hG hB2 hB
  have HFB' := Lib.hid hfb'
  clear hret hD hg ha hR hfb hl1 hfb'
  go_enter Tryz.func212, Tryz.ntmps212
  go_wp2_with fail
  refine wp_scope_labels (JB b neg G B2 o2 B o S R w) (fun l _ _ => l) ?_ ?_
  · have hRR := HR.out
    unfold PF.fbits at hRR
    dsimp only at hRR
    rw [if_neg HA.out.ne] at hRR
    have hsg : (if neg then 2 ^ 63 else 0 : Nat) = PF.sgn neg := by cases neg <;> rfl
    rw [hsg] at hRR
    by_cases h310 : 310 < a.dp
    · rw [if_pos h310] at hRR
      have HRR := Lib.hid hRR
      clear hRR hsg
      go_wp2_with fail
      go_step3
      exact ⟨⟨rfl, rfl, rfl, rfl⟩, _, _, _, _, HD.out, HFB.out, Below.refl _ _, HRR.out⟩
    · rw [if_neg h310] at hRR
      by_cases h330 : a.dp < -330
      · rw [if_pos h330] at hRR
        have HRR := Lib.hid hRR
        have k3 := HFB.out.bi
        clear hRR hsg
        go_wp2_with fail
        go_step3
        exact ⟨⟨rfl, rfl, rfl, rfl⟩, 0, 0, false, _, _, _, _, rfl, rfl, rfl, HD.out, HFB.out, Below.refl _ _, by omega, by omega, by rw [← HRR.out]; simp⟩
      · rw [if_neg h330] at hRR
        have HRR := Lib.hid hRR
        have hmu : PF.muR a < 5000 := by
          have := HA.out.d0.2.2
          unfold PF.muR
          omega
        have HMU := Lib.hid hmu
        obtain ⟨P1, hP1⟩ : ∃ P, PF.fb1 5000 a 0 = P := ⟨_, rfl⟩
        have HP1 := Lib.hid hP1
        have hd1 : -330 ≤ a.dp := by omega
        have hd2 : a.dp ≤ 310 := by omega
        clear hRR hsg hmu hP1
        go_wp2_with fail
        go_loopg [6] (PF.muR a) (fun g e wr => Fb1 b neg w P1 g e wr)
        case atStart => exact ⟨a, f, 5000, 0, HP1.out, HMU.out, rfl, HA.out, hd1, hd2, by omega, by omega, rfl, HD.out, HG.out, Below.refl _ _⟩
        case round =>
          obtain ⟨a', f', fu, e', hP, hm, hgm, hok, hb1, hb2, he1, he2, rfl, hd, hdg, hbl⟩ := hrel
          have cp' := hd.cdp
          have kp := (HFB'.out _ hbl).p
          by_cases hpos : 0 < a'.dp
          · obtain ⟨d, hdd⟩ : ∃ d : Nat, a'.dp = (d : Int) := ⟨a'.dp.toNat, by omega⟩
            obtain ⟨fu, rfl⟩ : ∃ x, fu = x + 1 := ⟨fu - 1, by omega⟩
            obtain ⟨hm1, hm2⟩ := PF.rsh_mu hok hpos
            rw [fb1_on hpos] at hP
            have hdt : a'.dp.toNat = d := by omega
            rw [hdt] at hP hm1 hm2
            have hpt := powtab_bd d
            have hdpp := rsh_dp hok (PF.powtab d)
            have M := fun n => shiftR227 b f' a' neg (wr.drewN n) (hd.drew n) hdg hok (by omega) (by omega) (PF.powtab d) hpt.1 (by omega)
            rw [rshN_small (by omega)] at M
            have kd := (HFB'.out _ hbl).pt
            obtain ⟨pn, hpn⟩ : ∃ pn, PF.powtab d = pn := ⟨_, rfl⟩
            rw [hpn] at hP hm1 hm2 hpt hdpp M
            rw [hdd] at cp' hpos
            have HST : Hid (∀ (n : Nat) (w2 : World), APost b (wr.drewN n) (a'.rsh pn) neg (.returned (.tuple #[])) w2 → Fb1 b neg w P1 (PF.muR (a'.rsh pn)) (.int .i64 (e' + pn)) w2) := Lib.hid (by
              rintro n w2 ⟨_, f2, h1, h2, h3⟩
              exact ⟨a'.rsh pn, f2, fu, e' + pn, hP, by omega, rfl, (PF.rsh_ok hok pn).1, by omega, by omega, by omega, by omega, rfl, h1, h2, (below_drewN hbl n).trans h3⟩)
            have HMM : Hid (PF.muR (a'.rsh pn) < gk) := Lib.hid (by omega)
            have he1' : e' ≤ 135000 := by omega
            by_cases h9 : 9 ≤ d
            · have h9i : (9 : Int) ≤ (d : Int) := by omega
              rw [powtab_big h9] at hpn
              subst hpn
              have M27 : ∀ n, Calls Tryz.prog 227 #[.pointer (some ⟨b, 0, none⟩), .int .i64 (-27)] (wr.drewN n) (APost b (wr.drewN n) (a'.rsh 27) neg) := M
              have MM := Lib.hid M27
              clear hP hm hgm hok hd hdg hbl hm1 hm2 hpt hdpp hdt kd hdd M hb1 hb2 M27
              go_wp2_with fail
              go_quiet (fail)
              go_wp2_with fail
              refine (MM.out _).mono ?_
              rintro e w2 h2
              have he := h2.ends
              subst he
              have H2 := Lib.hid h2
              clear h2
              go_wp2_with fail
              go_roundg (PF.muR (a'.rsh 27))
              case measure => exact HMM.out
              case rel => exact HST.out _ _ H2.out
            · have h9i : ¬(9 : Int) ≤ (d : Int) := by omega
              have h9j : (d : Int) < 9 := by omega
              have kdd := kd d (by omega)
              rw [hpn] at kdd
              have MM := Lib.hid M
              clear hP hm hgm hok hd hdg hbl hm1 hm2 hdpp hdt kd hdd M hb1 hb2 hpn
              go_wp2_with fail
              go_quiet (fail)
              go_wp2_with fail
              go_quiet (fail)
              go_wp2_with fail
              refine (MM.out _).mono ?_
              rintro e w2 h2
              have he := h2.ends
              subst he
              have H2 := Lib.hid h2
              clear h2
              go_wp2_with fail
              go_roundg (PF.muR (a'.rsh pn))
              case measure => exact HMM.out
              case rel => exact HST.out _ _ H2.out
          · rw [fb1_off _ hpos] at hP
            subst hP
            have hR2 := HRR.out
            rw [HP1.out] at hR2
            dsimp only at hR2
            obtain ⟨P2, hP2⟩ : ∃ P, PF.fb2 5000 a' e' = P := ⟨_, rfl⟩
            rw [hP2] at hR2
            have hmu2 : PF.muL a' < 5000 := by
              have := hok.d0.2.1
              unfold PF.muL
              omega
            have he5 : e' ≤ 135000 := by omega
            have HST : Hid (Fb2 b neg w P2 (PF.muL a') (.int .i64 e') wr) := Lib.hid ⟨a', f', 5000, e', hP2, hmu2, rfl, hok, by omega, by omega, by omega, by omega, rfl, hd, hdg, hbl⟩
            have HR2 := Lib.hid hR2
            clear hR2 hP2 hmu2 hm hgm hok hd hdg hbl hb1 hb2 he1
            go_wp2_with fail
            go_loopg [6] (PF.muL a') (fun g e wr => Fb2 b neg w P2 g e wr)
            case atStart => exact HST.out
            case round =>
              clear cp' kp
              obtain ⟨a2, f2, fu2, e2, hP, hm, hgm, hok, hb1, hb2, hf1, hf2, rfl, hd, hdg, hbl⟩ := hrel
              have cp' := hd.cdp
              have kp := (HFB'.out _ hbl).p
              have hd0 := hok.d0
              have hfg := hdg 0 (by have := hok.val.2.2.1; omega)
              have c0 := hd.dig (i := 0) (by omega)
              obtain ⟨x0, hx0⟩ : ∃ x, f2 0 = x := ⟨_, rfl⟩
              rw [hx0] at c0 hfg
              have hdd0 : a2.ds.getD 0 0 = PF.d0 a2 := by unfold PF.d0; cases a2.ds <;> rfl
              rw [hdd0] at hfg
              by_cases hc : a2.dp < 0 ∨ (a2.dp = 0 ∧ PF.d0 a2 < 5)
              · obtain ⟨d, hdd⟩ : ∃ d : Nat, a2.dp = -(d : Int) := ⟨(-a2.dp).toNat, by omega⟩
                obtain ⟨fu2, rfl⟩ : ∃ x, fu2 = x + 1 := ⟨fu2 - 1, by omega⟩
                obtain ⟨hm1, hm2⟩ := PF.lsh_mu hok hb2 hc
                rw [fb2_on hc] at hP
                have hdt : (-a2.dp).toNat = d := by omega
                rw [hdt] at hP hm1 hm2
                have hpt := powtab_bd d
                have hdpp := lsh_dp hok hpt.1
                have hlok := (PF.lsh_ok hok (PF.powtab d)).1
                have M := fun n => shiftL227 b f2 a2 neg (wr.drewN n) (hd.drew n) hdg hok (by omega) (by omega) (PF.powtab d) hpt.1 (by omega) (HFB'.out _ (below_drewN hbl n)).ch
                have kd := (HFB'.out _ hbl).pt
                obtain ⟨pn, hpn⟩ : ∃ pn, PF.powtab d = pn := ⟨_, rfl⟩
                rw [hpn] at hP hm1 hm2 hpt hdpp M hlok
                obtain ⟨z, hz⟩ : ∃ z, a2.dp = z := ⟨_, rfl⟩
                have HST : Hid (∀ (n : Nat) (w2 : World), APost b (wr.drewN n) (a2.lsh pn) neg (.returned (.tuple #[])) w2 → Fb2 b neg w P2 (PF.muL (a2.lsh pn)) (.int .i64 (e2 - pn)) w2) := Lib.hid (by
                  rintro n w2 ⟨_, f3, h1, h2, h3⟩
                  exact ⟨a2.lsh pn, f3, fu2, e2 - pn, hP, by omega, rfl, hlok, by omega, by omega, by omega, by omega, rfl, h1, h2, (below_drewN hbl n).trans h3⟩)
                have HMM : Hid (PF.muL (a2.lsh pn) < gk) := Lib.hid (by omega)
                have he1' : -135000 ≤ e2 := by omega
                rw [hz] at cp' hb1 hb2 hc hdd
                have zn : -z = (d : Int) := by omega
                have wz : IntKind.i64.wrap (-z) = (d : Int) := by rw [IntWalk.i64_in _ (by omega)]; exact zn
                have wd : IntKind.i64.wrap (d : Int) = (d : Int) := IntWalk.i64_in _ (by omega)
                have hx53 : z < 0 ∨ (z = 0 ∧ x0 < 53) := by omega
                have HX := Lib.hid hx53
                clear hP hm hgm hok hd hdg hbl hm1 hm2 hdpp hdt hc hlok hfg hdd0 hd0 hx0 hz hdd hx53
                go_upto_region 18 with (fail)
                go_cut [80] from 61 to 80 (fun t w' => t = .bool true ∧ wr = w')
                case first =>
                  rcases HX.out with h | ⟨h, h0⟩
                  · have z1 : decide (z < 0) = true := by simpa using h
                    go_wp2_with fail
                    go_meet
                    case rel => exact ⟨rfl, rfl⟩
                  · have z1 : decide (z < 0) = false := by rw [h]; rfl
                    have z2 : (z == 0) = true := by rw [h]; rfl
                    have x53 : (x0 : Int) < 53 := by omega
                    clear h h0
                    go_wp2_with fail
                    go_meet
                    case rel => exact ⟨rfl, rfl⟩
                case rest =>
                  obtain ⟨rfl, rfl⟩ := hcut
                  by_cases h9 : 9 ≤ d
                  · have h9i : (9 : Int) ≤ (d : Int) := by omega
                    rw [powtab_big h9] at hpn
                    subst hpn
                    have M27 : ∀ n, Calls Tryz.prog 227 #[.pointer (some ⟨b, 0, none⟩), .int .i64 27] (wr.drewN n) (APost b (wr.drewN n) (a2.lsh 27) neg) := M
                    have MM := Lib.hid M27
                    clear kd M M27 hpt
                    go_wp2_with fail
                    go_quiet (fail)
                    go_wp2_with fail
                    refine (MM.out _).mono ?_
                    rintro e w2 h2
                    have he := h2.ends
                    subst he
                    have H2 := Lib.hid h2
                    clear h2
                    go_wp2_with fail
                    go_roundg (PF.muL (a2.lsh 27))
                    case measure => exact HMM.out
                    case rel => exact HST.out _ _ H2.out
                  · have h9i : ¬(9 : Int) ≤ (d : Int) := by omega
                    have h9j : (d : Int) < 9 := by omega
                    have kdd := kd d (by omega)
                    rw [hpn] at kdd
                    have MM := Lib.hid M
                    clear kd M hpn
                    go_wp2_with fail
                    go_quiet (fail)
                    go_wp2_with fail
                    go_quiet (fail)
                    go_wp2_with fail
                    refine (MM.out _).mono ?_
                    rintro e w2 h2
                    have he := h2.ends
                    subst he
                    have H2 := Lib.hid h2
                    clear h2
                    go_wp2_with fail
                    go_roundg (PF.muL (a2.lsh pn))
                    case measure => exact HMM.out
                    case rel => exact HST.out _ _ H2.out
              · rw [fb2_off _ hc] at hP
                subst hP
                have hR3 : fend neg (fmid a2 (e2 - 1)) = R := by
                  have h := HR2.out
                  dsimp only at h
                  exact h
                obtain ⟨q, hq⟩ : ∃ q, fmid a2 (e2 - 1) = q := ⟨_, rfl⟩
                rw [hq] at hR3
                have dp0 : a2.dp = 0 := by omega
                have hx53 : ¬(x0 : Int) < 53 := by omega
                obtain ⟨E, hE⟩ : ∃ E, e2 - 1 = E := ⟨_, rfl⟩
                rw [hE] at hq
                have hE1 : -140000 ≤ E := by omega
                have hE2 : E ≤ 140000 := by omega
                have hqok : q.1.Ok ∧ -200000 ≤ q.1.dp ∧ q.1.dp ≤ 0 ∧ -1022 ≤ q.2 ∧ q.2 ≤ 140000 := by
                  rw [← hq]
                  unfold fmid
                  split
                  · have h1 := rshN_dp (-1022 - E).toNat hok
                    exact ⟨PF.rshN_ok _ hok, by simp only; omega, by simp only; omega, by simp only; omega, by simp only; omega⟩
                  · exact ⟨hok, by simp only; omega, by simp only; omega, by simp only; omega, by simp only; omega⟩
                have HQOK := Lib.hid hqok
                have HR3 := Lib.hid hR3
                have HQ := Lib.hid hq
                have k3 := (HFB'.out _ hbl).bi
                have c0z : (a2.dp == 0) = true := by rw [dp0]; rfl
                rw [dp0] at cp'
                have M : Hid (∀ n : Nat, 1 ≤ n → n ≤ 400000 → Calls Tryz.prog 227 #[.pointer (some ⟨b, 0, none⟩), .int .i64 (-(n : Int))] wr (APost b wr (a2.rshN n) neg)) := Lib.hid (fun n h1 h2 => shiftR227 b f2 a2 neg wr hd hdg hok (by omega) (by omega) n h1 h2)
                have HDD := Lib.hid hd
                have HDG := Lib.hid hdg
                have HBL := Lib.hid hbl
                clear hm hgm hok hd hdg hbl hb1 hb2 hc hR3 hq hqok hfg hdd0 hd0 hx0 c0z dp0
                go_upto_if 111 with (fail)
                go_cut [6, 10] from 111 to 125 (fun ex n w' => BSt b neg w q ex w')
                case first =>
                  have hqq := HQ.out
                  unfold fmid at hqq
                  by_cases hlt : E < -1022
                  · rw [if_pos hlt] at hqq
                    obtain ⟨n, hn⟩ : ∃ n, (-1022 - E).toNat = n := ⟨_, rfl⟩
                    rw [hn] at hqq
                    have hni : -1022 - E = (n : Int) := by omega
                    have hEn : E + (n : Int) = -1022 := by omega
                    have MM := Lib.hid (M.out n (by omega) (by omega))
                    have HQQ := Lib.hid hqq
                    have hn2 : (n : Int) ≤ 400000 := by omega
                    clear hn hqq
                    go_wp2_with fail
                    refine MM.out.mono ?_
                    rintro e w2 h2
                    have he := h2.ends
                    subst he
                    have H2 := Lib.hid h2
                    clear h2
                    go_wp2_with fail
                    go_meet
                    case rel =>
                      obtain ⟨_, f3, h1, h2, h3⟩ := H2.out
                      rw [← HQQ.out]
                      exact ⟨rfl, f3, h1, h2, HBL.out.trans h3⟩
                  · rw [if_neg hlt] at hqq
                    have HQQ := Lib.hid hqq
                    clear hqq
                    go_wp2_with fail
                    go_meet
                    case rel =>
                      rw [← HQQ.out]
                      exact ⟨rfl, f2, HDD.out, HDG.out, HBL.out⟩
                case rest =>
                  obtain ⟨rfl, f3, hd3, hg3, hb3⟩ := hcut
                  rename World => w3
                  obtain ⟨qok, qd1, qd2, qe1, qe2⟩ := HQOK.out
                  obtain ⟨X, hX⟩ : ∃ X : Nat, q.2 = (X : Int) - 1023 := ⟨(q.2 + 1023).toNat, by omega⟩
                  rw [hX] at qe1 qe2 ⊢
                  have hfb3 := HFB'.out _ hb3
                  have k1 := hfb3.m
                  have k2 := hfb3.x
                  have k3 := hfb3.bi
                  have wX : IntKind.i64.wrap ((X : Int) - 1023 - -1023) = (X : Int) := by rw [IntWalk.i64_in _ (by omega)]; omega
                  have wX2 : IntKind.i64.wrap ((X : Int) - 1023 + 1 - -1023) = (X : Int) + 1 := by rw [IntWalk.i64_in _ (by omega)]; omega
                  have hr3 := HR3.out
                  unfold fend at hr3
                  dsimp only at hr3
                  rw [hX] at hr3
                  have HXQ := Lib.hid hX
                  have HD3 := Lib.hid hd3
                  have HB3 := Lib.hid hb3
                  have HFB3 := Lib.hid hfb3
                  have hlok := (PF.lsh_ok qok 53).1
                  have hldp := lsh_dp qok (k := 53) (by omega)
                  have M53 : ∀ n, Calls Tryz.prog 227 #[.pointer (some ⟨b, 0, none⟩), .int .i64 53] (w3.drewN n) (APost b (w3.drewN n) (q.1.lsh 53) neg) := fun n => shiftL227 b f3 q.1 neg (w3.drewN n) (hd3.drew n) hg3 qok (by omega) (by omega) 53 (by omega) (by omega) (HFB'.out _ (below_drewN hb3 n)).ch
                  obtain ⟨a5, ha5⟩ : ∃ a5, q.1.lsh 53 = a5 := ⟨_, rfl⟩
                  rw [ha5] at hr3 hlok hldp M53
                  have MM := Lib.hid M53
                  have HLOK := Lib.hid hlok
                  have HLDP := Lib.hid hldp
                  clear qok hd3 hg3 hb3 hfb3 hlok hldp M53 hX ha5
                  by_cases hov : 2047 ≤ X
                  · rw [if_pos (by omega)] at hr3
                    have HRR3 := Lib.hid hr3
                    have hovi : (2047 : Int) ≤ (X : Int) := by omega
                    clear hr3
                    go_wp2_with fail
                    go_quiet (fail)
                    go_wp2_with fail
                    go_step3
                    exact ⟨⟨rfl, rfl, rfl, rfl⟩, _, _, _, _, HD3.out.drew _, HFB'.out _ (below_drewN HB3.out _), below_drewN HB3.out _, HRR3.out⟩
                  · rw [if_neg (by omega)] at hr3
                    have hovi : ¬(2047 : Int) ≤ (X : Int) := by omega
                    obtain ⟨m, hm⟩ : ∃ m, PF.rint a5 = m := ⟨_, rfl⟩
                    rw [hm] at hr3
                    have HM := Lib.hid hm
                    have HRR3 := Lib.hid hr3
                    clear hr3 hm
                    go_wp2_with fail
                    go_quiet (fail)
                    go_wp2_with fail
                    refine (MM.out _).mono ?_
                    rintro e w4 h4
                    have he := h4.ends
                    subst he
                    obtain ⟨_, f4, hd4, hg4, hb4⟩ := h4
                    have hb4' := (below_drewN HB3.out _).trans hb4
                    have M246 := rint246 b f4 a5 neg w4 hd4 hg4 HLOK.out (by have := HLDP.out; omega) (by have := HLDP.out; omega)
                    rw [HM.out] at M246
                    have MM4 := Lib.hid M246
                    have HD4 := Lib.hid hd4
                    have HB4 := Lib.hid hb4'
                    have k14 := (HFB'.out _ hb4').m
                    have k24 := (HFB'.out _ hb4').x
                    have k34 := (HFB'.out _ hb4').bi
                    clear hd4 hg4 hb4 hb4' M246
                    go_wp2_with fail
                    refine MM4.out.mono ?_
                    rintro e w5 ⟨rfl, rfl⟩
                    have hm64 : m < 18446744073709551616 := by
                      rw [← HM.out]
                      unfold PF.rint
                      split
                      · decide
                      · exact Nat.mod_lt _ (by decide)
                    have h52 : (2 : Nat) ^ 52 = 4503599627370496 := by decide
                    have h53 : (2 : Nat) ^ 53 = 9007199254740992 := by decide
                    have hrr := HRR3.out
                    rw [h53, h52] at hrr
                    have HH := Lib.hid hrr
                    clear hrr h52 h53
                    go_upto_if 155 with (fail)
                    go_cut [6, 7] from 155 to 172 (fun ex mm w' => ∃ m' X' : Nat, ex = .int .i64 ((X' : Int) - 1023) ∧ mm = .int .u64 (m' : Int) ∧ X' ≤ 2046 ∧ m' < 18446744073709551616 ∧ Lst neg R m' X' ∧ ∃ n, w4.drewN n = w')
                    case first =>
                      obtain ⟨l1, l2, l3⟩ := lst_of (by omega) HH.out
                      by_cases h2 : m = 9007199254740992
                      · have m1 : ((m : Int) == 9007199254740992) = true := by rw [h2]; rfl
                        have m2 : (m : Int) / 2 = 4503599627370496 := by omega
                        by_cases h3 : 2047 ≤ X + 1
                        · have HL1 := Lib.hid (l1 h2 h3)
                          have h3i : (2047 : Int) ≤ (X : Int) + 1 := by omega
                          clear l1 l2 l3 h2
                          go_wp2_with fail
                          go_quiet (fail)
                          go_wp2_with fail
                          go_step3
                          exact ⟨⟨rfl, rfl, rfl, rfl⟩, _, _, _, _, HD4.out.drew _, HFB'.out _ (below_drewN HB4.out _), below_drewN HB4.out _, HL1.out⟩
                        · have HL2 := Lib.hid (l2 h2 h3)
                          have h3i : ¬(2047 : Int) ≤ (X : Int) + 1 := by omega
                          clear l1 l2 l3 h2
                          go_wp2_with fail
                          go_quiet (fail)
                          go_wp2_with fail
                          go_meet
                          case rel => exact ⟨4503599627370496, X + 1, congrArg (Value.int .i64) (by omega), rfl, by omega, by omega, HL2.out, _, rfl⟩
                      · have m1 : ((m : Int) == 9007199254740992) = false := by rw [beq_eq_false_iff_ne]; omega
                        have HL3 := Lib.hid (l3 h2)
                        clear l1 l2 l3 h2
                        go_wp2_with fail
                        go_meet
                        case rel => exact ⟨m, X, rfl, rfl, by omega, hm64, HL3.out, 0, rfl⟩
                    case rest =>
                      obtain ⟨m', X', rfl, rfl, hX', hm', hL, n, rfl⟩ := hcut
                      unfold Lst at hL
                      have ha := and52 m' hm'
                      have HDn := Lib.hid (HD4.out.drew n)
                      have HBn := Lib.hid (below_drewN HB4.out n)
                      by_cases h0 : m' / 4503599627370496 % 2 = 0
                      · rw [if_pos h0] at hL
                        rw [h0] at ha
                        have HL := Lib.hid hL
                        clear hL h0
                        go_wp2_with fail
                        go_step3
                        exact ⟨⟨rfl, rfl, rfl, rfl⟩, m', 0, false, _, _, _, _, rfl, rfl, rfl, HDn.out, HFB'.out _ HBn.out, HBn.out, by omega, hm', HL.out⟩
                      · rw [if_neg h0] at hL
                        have h1 : m' / 4503599627370496 % 2 = 1 := by omega
                        rw [h1] at ha
                        have HL := Lib.hid hL
                        clear hL h0 h1
                        go_wp2_with fail
                        go_step3
                        exact ⟨⟨rfl, rfl, rfl, rfl⟩, m', X', false, _, _, _, _, rfl, rfl, rfl, HDn.out, HFB'.out _ HBn.out, HBn.out, by omega, hm', HL.out⟩
  · intro l' a' w' hJ
    match l', hJ with
    | 0, hJ =>
      refine ⟨_, rfl, pass_out b neg G B2 o2 B o S R w _ (fun a' w' h => ?_) _ rfl a' w' hJ⟩
      exact HRET.out a' w' h
    | 1, hJ =>
      refine ⟨_, rfl, pass_ovf b neg G B2 o2 B o S R w _ (fun a' w' h => ?_) _ rfl a' w' hJ⟩
      exact HRET.out a' w' h
    | n + 2, hJ => exact hJ.elim
end Go.Proofs.YtagiddbfhlokcaaGreatDoor
