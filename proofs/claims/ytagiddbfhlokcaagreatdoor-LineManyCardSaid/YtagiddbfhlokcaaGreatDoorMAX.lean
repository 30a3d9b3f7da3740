/- Several texts of this proof, laid together. Conditions: as each says. -/
import Derived.Test.YtagiddbfhlokcaaGreatDoorMAW
import Derived.Test.YtagiddbfhlokcaaGreatDoorMAH
/- Printing a float: fmtEFG at 'e'. Condition: the row of digits. -/
namespace Go.Proofs.YtagiddbfhlokcaaGreatDoor.Ff
open Go.RowKit Go.Sort
set_option maxRecDepth 100000
theorem digs_news {w : World} {b : Nat} {D : List UInt8} (h : Cells w b D) : ∀ j u, (Lib.byteCells D.tail)[j]? = some u → w.cell? (Addr.add ⟨b, 1, none⟩ j) = some u := by
  intro j u hj
  unfold Lib.byteCells at hj
  rw [List.getElem?_map] at hj
  cases hd : D.tail[j]? with
  | none => rw [hd] at hj; cases hj
  | some x =>
    rw [hd] at hj
    injection hj with hj
    have hd2 : D[j + 1]? = some x := by rw [← hd, List.getElem?_tail]
    obtain ⟨hlt, hx⟩ := List.getElem?_eq_some_iff.1 hd2
    have := h (j + 1) hlt
    rw [List.getD_eq_getElem?_getD, hd2, Option.getD_some] at this
    rw [← hj]
    unfold Addr.add
    split
    · rename_i h0; subst h0; exact this
    · simp only
      rw [show 1 + j = j + 1 by omega]
      exact this
set_option maxHeartbeats 4000000 in
theorem efg_e (D : List UInt8) (P : Nat) (hP : D.length = P + 1) (hP2 : P ≤ 30) (dp : Int) (p1 : -900 ≤ dp) (p2 : dp ≤ 900) (neg : Bool) (w0 w1 : World) (B b g c : Nat) (h : Fs w0 B b D [] g c w1) :
    Calls Tryz.prog 222 #[.slice (some ⟨g, 0, none⟩) 0 c, .bool neg, .slice (some ⟨b, 0, none⟩) 32 32, .int .i64 dp, .int .i64 ((P : Int) + 1), .int .i64 (P : Int), .int .u8 101, .bool true] w1 fun e w' => ∃ v, e = .returned v ∧ DstAt w0 B b D (PF.fmtE neg D dp) v w' := by
  obtain ⟨i0, hi, hz0, hz1, hz2⟩ := info_parts One.info5
  have HI := Lib.hid hi
  have HZ0 := Lib.hid hz0
  have HZ1 := Lib.hid hz1
  have HZ2 := Lib.hid hz2
  obtain ⟨L1, hL1⟩ : ∃ L, PF.sgT neg = L := ⟨_, rfl⟩
  have HL : Hid (L1.length ≤ 1) := Lib.hid (by rw [← hL1]; cases neg <;> decide)
  obtain ⟨x0, hx0⟩ : ∃ x, D.getD 0 0 = x := ⟨_, rfl⟩
  obtain ⟨X, hX⟩ : ∃ X, dp - 1 = X := ⟨_, rfl⟩
  obtain ⟨R, hR⟩ : ∃ R, PF.fmtE neg D dp = R := ⟨_, rfl⟩
  have HR : Hid (∀ A, (L1 ++ [x0]) ++ (if 0 < P then 46 :: D.tail else []) = A → ((A ++ [101]) ++ [if X < 0 then 45 else 43]) ++ PF.expT X.natAbs = R) := Lib.hid (by
    intro A hA
    rw [← hA, ← hR, ← hL1, ← hX, ← hx0]
    obtain ⟨c0, r0, rfl⟩ : ∃ c r, D = c :: r := by
      cases D with
      | nil => cases hP
      | cons c r => exact ⟨c, r, rfl⟩
    unfold PF.fmtE PF.fmtM
    have e1 : PF.fX (c0 :: r0) dp = dp - 1 := by unfold PF.fX; rw [if_neg (by simp)]
    have e2 : (if 2 ≤ (c0 :: r0).length then 46 :: (c0 :: r0).tail else []) = (if 0 < P then 46 :: (c0 :: r0).tail else []) := by
      by_cases h : 0 < P
      · rw [if_pos h, if_pos (by omega)]
      · rw [if_neg h, if_neg (by omega)]
    rw [e1, e2]
    simp only [List.headD_cons, List.getD_cons_zero, List.tail_cons, List.append_assoc, List.cons_append, List.nil_append])
  rw [hR]
  have HS0 := Lib.hid h
  have HD := Lib.hid hP
  have k0 := HS0.out.ds 0 (by omega)
  rw [hx0] at k0
  have mm : min ((P : Int) + 1) ((P : Int) + 1) = (P : Int) + 1 := by omega
  have hn0 : ((P : Int) + 1 != 0) = true := by rw [bne_iff_ne]; omega
  have hn1 : ((P : Int) + 1 == 0) = false := by rw [beq_eq_false_iff_ne]; omega
  have HNEG := Lib.hid hL1
  have HX0 := Lib.hid hx0
  have HDT : Hid (D.tail.length = P) := Lib.hid (by rw [List.length_tail]; omega)
  have HX : Hid (X = dp - 1) := Lib.hid hX.symm
  clear hi hz0 hz1 hz2 hL1 hx0 hR hP h
  go_enter Tryz.func222, Tryz.ntmps222
  go_upto_if 78 with (fail)
  go_cut [0] from 79 (fun v w' => DstAt w0 B b D L1 v w')
  case first =>
    cases neg with
    | true =>
      go_wp2_with (at_builtin; go_must (refine wpList_append_own_at _ rfl (.tmp 79) (.tmp 80) 59 rfl B 5 i0 (.int .u8 0) 1 1 Tryz.underlying59 HI.out HZ0.out HZ1.out HZ2.out rfl (by decide) _ _ _ rfl (World.ownsRow.alloc HS0.out.own _) ⟨_, 0, none⟩ 1 1 (Lib.byteCells [45]) rfl rfl (World.news_of_block (cs := #[.int .u8 45]) (t := 5) (fr := (0, 0)) (heap_alloc_new _ _)) (by simp [Lib.byteCells, Value.oneCell']) (Nat.le_trans (Nat.add_le_add_right HS0.out.len _) (by decide)) (by have := HS0.out.len; omega) (Nat.le_trans HS0.out.le (by simp)) ?_); intro va wa hown hgrow hnil hblk; obtain ⟨ga, ca, La, hLa, rfl, hF⟩ := HS0.out.app [45] (Nat.succ_pos _) (by decide) hown hgrow hblk; have HFa := Lib.hid hF; have HLa := Lib.hid hLa; clear hown hgrow hnil hblk hF hLa)
      go_meet
      have e : La = L1 := by rw [HLa.out, ← HNEG.out]; rfl
      rw [e] at HFa ⊢
      exact ⟨ga, ca, rfl, HFa.out⟩
    | false =>
      go_wp2_with fail
      go_meet
      exact ⟨g, c, by rw [← HNEG.out]; rfl, by rw [← HNEG.out]; exact HS0.out⟩
  case rest =>
    obtain ⟨g1, c1, rfl, hF1⟩ := hcut
    have HF1 := Lib.hid hF1
    have k1 := HF1.out.ds 0 (by rw [HD.out]; omega)
    rw [HX0.out] at k1
    clear hF1
    go_upto_if 92 with (at_builtin; go_must (refine wpList_append_own_at _ rfl (.tmp 87) (.tmp 89) 59 rfl B 5 i0 (.int .u8 0) 1 1 Tryz.underlying59 HI.out HZ0.out HZ1.out HZ2.out rfl (by decide) _ _ _ rfl (World.ownsRow.alloc HF1.out.own _) ⟨_, 0, none⟩ 1 1 (Lib.byteCells [x0]) rfl rfl (World.news_of_block (cs := #[.int .u8 (x0.toNat : Int)]) (t := 5) (fr := (0, 0)) (heap_alloc_new _ _)) (by simp [Lib.byteCells, Value.oneCell']) (Nat.le_trans (Nat.add_le_add_right HF1.out.len _) (by decide)) (by have := HF1.out.len; omega) (Nat.le_trans HF1.out.le (by simp)) ?_); intro vb wb hown hgrow hnil hblk; obtain ⟨gb, cb, Lb, hLb, rfl, hF⟩ := HF1.out.app [x0] (Nat.succ_pos _) (by have := HL.out; simp only [List.length_cons, List.length_nil]; omega) hown hgrow hblk; have HFb := Lib.hid hF; have HLb := Lib.hid hLb; clear hown hgrow hnil hblk hF hLb)
    have HL2 : Hid (Lb.length ≤ 2) := Lib.hid (by rw [HLb.out]; have := HL.out; simp only [List.length_append, List.length_cons, List.length_nil]; omega)
    rw [← HLb.out] at HR
    obtain ⟨A, hA⟩ : ∃ A, Lb ++ (if 0 < P then 46 :: D.tail else []) = A := ⟨_, rfl⟩
    have HA := Lib.hid hA
    have HLA : Hid (A.length ≤ 40) := Lib.hid (by
      rw [← hA, List.length_append]
      have := HL2.out
      have := HDT.out
      split
      · rw [List.length_cons]; omega
      · rw [List.length_nil]; omega)
    clear hA k0 k1
    go_cut [0, 20, 21] from 92 (fun v _ _ w' => DstAt w0 B b D A v w')
    case first =>
      by_cases hP0 : 0 < P
      · have dn := digs_news HFb.out.ds
        rw [if_pos hP0] at HA
        go_wp2_with (first
          | (at_builtin; (refine wpList_append_own_at _ rfl (.tmp 93) (.tmp 94) 59 rfl B 5 i0 (.int .u8 0) 1 1 Tryz.underlying59 HI.out HZ0.out HZ1.out HZ2.out rfl (by decide) _ _ _ rfl (World.ownsRow.alloc HFb.out.own _) ⟨_, 0, none⟩ 1 1 (Lib.byteCells [46]) rfl rfl (World.news_of_block (cs := #[.int .u8 46]) (t := 5) (fr := (0, 0)) (heap_alloc_new _ _)) (by simp [Lib.byteCells, Value.oneCell']) (Nat.le_trans (Nat.add_le_add_right HFb.out.len _) (by decide)) (by have := HFb.out.len; omega) (Nat.le_trans HFb.out.le (by simp)) ?_); intro vc wc hown hgrow hnil hblk; obtain ⟨gc, cc, Lc, hLc, rfl, hF⟩ := HFb.out.app [46] (Nat.succ_pos _) (by have := HL2.out; simp only [List.length_cons, List.length_nil]; omega) hown hgrow hblk; have HFc := Lib.hid hF; have HLc := Lib.hid hLc; clear hown hgrow hnil hblk hF hLc)
          | (at_builtin; go_must (refine wpList_append_own_at _ rfl (.tmp 103) (.tmp 107) 59 rfl B 5 i0 (.int .u8 0) 1 1 Tryz.underlying59 HI.out HZ0.out HZ1.out HZ2.out rfl (by decide) _ _ _ rfl HFc.out.own ⟨b, 1, none⟩ P 31 (Lib.byteCells D.tail) rfl (by unfold Lib.byteCells; rw [List.length_map, HDT.out, Nat.mul_one]) (digs_news HFc.out.ds) (by intro u hu; unfold Lib.byteCells at hu; obtain ⟨x, _, rfl⟩ := List.mem_map.1 hu; rfl) (by have := HFc.out.len; unfold maxLen; omega) (by have := HFc.out.len; omega) HFc.out.le ?_); intro vd wd hown hgrow hnil hblk; rw [← HDT.out] at hown; obtain ⟨gd, cd, Ld, hLd, rfl, hF⟩ := HFc.out.app1 D.tail (by rw [HDT.out]; exact hP0) (by rw [HDT.out, HLc.out]; have := HL2.out; simp only [List.length_append, List.length_cons, List.length_nil]; omega) hown hgrow hblk; have HFd := Lib.hid hF; have HLd := Lib.hid hLd; clear hown hgrow hnil hblk hF hLd))
        go_loopw [0, 114] (fun v i wr => v = .slice (some ⟨gd, 0, none⟩) Ld.length cd ∧ i = .int .i64 0 ∧ wr = wd) (fun _ _ _ => 0)
        case atStart => exact ⟨rfl, rfl, rfl⟩
        case round =>
          obtain ⟨rfl, rfl, hw⟩ := hrel
          obtain rfl := hw.symm
          go_wp2_with fail
          go_meet
          have e : Ld = A := by rw [HLd.out, HLc.out, ← HA.out]; simp
          rw [e] at HFd ⊢
          exact ⟨gd, cd, rfl, HFd.out⟩
      · rw [if_neg hP0, List.append_nil] at HA
        go_wp2_with fail
        go_meet
        rw [← HA.out]
        exact ⟨gb, cb, rfl, HFb.out⟩
    case rest =>
      obtain ⟨g2, c2, rfl, hF2⟩ := hcut
      have HF2 := Lib.hid hF2
      clear hF2
      go_upto_if 129 with (at_builtin; go_must (refine wpList_append_own_at _ rfl (.tmp 120) (.tmp 122) 59 rfl B 5 i0 (.int .u8 0) 1 1 Tryz.underlying59 HI.out HZ0.out HZ1.out HZ2.out rfl (by decide) _ _ _ rfl (World.ownsRow.alloc HF2.out.own _) ⟨_, 0, none⟩ 1 1 (Lib.byteCells [101]) rfl rfl (World.news_of_block (cs := #[.int .u8 101]) (t := 5) (fr := (0, 0)) (heap_alloc_new _ _)) (by simp [Lib.byteCells, Value.oneCell']) (Nat.le_trans (Nat.add_le_add_right HF2.out.len _) (by decide)) (by have := HF2.out.len; omega) (Nat.le_trans HF2.out.le (by simp)) ?_); intro ve we hown hgrow hnil hblk; obtain ⟨ge, ce, Le, hLe, rfl, hF⟩ := HF2.out.app [101] (Nat.succ_pos _) (by have := HLA.out; simp only [List.length_cons, List.length_nil]; omega) hown hgrow hblk; have HFe := Lib.hid hF; have HLe := Lib.hid hLe; clear hown hgrow hnil hblk hF hLe)
      obtain ⟨ch, hch⟩ : ∃ c : UInt8, (if X < 0 then 45 else 43) = c := ⟨_, rfl⟩
      obtain ⟨n, hn⟩ : ∃ n, X.natAbs = n := ⟨_, rfl⟩
      have HR2 : Hid ((Le ++ [ch]) ++ PF.expT n = R) := Lib.hid (by rw [← HR.out A HA.out, HLe.out, ← hch, ← hn])
      have HCH := Lib.hid hch
      have HN := Lib.hid hn
      have hn9 : n ≤ 901 := by have := HX.out; omega
      clear hch hn
      go_cut [19, 22] from 128 (fun c x wx => c = .int .u8 (ch.toNat : Int) ∧ x = .int .i64 (n : Int) ∧ we = wx)
      case first =>
        by_cases hneg : dp - 1 < 0
        · go_wp2_with fail
          go_meet
          have e1 := HCH.out
          have e2 := HN.out
          rw [HX.out, if_pos hneg] at e1
          rw [HX.out] at e2
          exact ⟨by rw [← e1]; rfl, congrArg _ (by omega), rfl⟩
        · go_wp2_with fail
          go_meet
          have e1 := HCH.out
          have e2 := HN.out
          rw [HX.out, if_neg (by omega)] at e1
          rw [HX.out] at e2
          exact ⟨by rw [← e1]; rfl, congrArg _ (by omega), rfl⟩
      case rest =>
        obtain ⟨rfl, rfl, rfl⟩ := hcut
        have HL3 : Hid (Le.length ≤ 41) := Lib.hid (by rw [HLe.out]; have := HLA.out; simp only [List.length_append, List.length_cons, List.length_nil]; omega)
        by_cases h10 : n < 10
        · obtain ⟨d1, hx1, hd1⟩ : ∃ d1 : UInt8, PF.expT n = [48, d1] ∧ (n : Int) + 48 = (d1.toNat : Int) := ⟨UInt8.ofNat (48 + n), by unfold PF.expT; rw [if_pos h10], by rw [UInt8.toNat_ofNat']; omega⟩
          have HX1 := Lib.hid hx1
          clear hx1
          go_wp2_with (first
            | (at_builtin; (refine wpList_append_own_at _ rfl (.tmp 132) (.tmp 134) 59 rfl B 5 i0 (.int .u8 0) 1 1 Tryz.underlying59 HI.out HZ0.out HZ1.out HZ2.out rfl (by decide) _ _ _ rfl (World.ownsRow.alloc HFe.out.own _) ⟨_, 0, none⟩ 1 1 (Lib.byteCells [ch]) rfl rfl (World.news_of_block (cs := #[.int .u8 (ch.toNat : Int)]) (t := 5) (fr := (0, 0)) (heap_alloc_new _ _)) (by simp [Lib.byteCells, Value.oneCell']) (Nat.le_trans (Nat.add_le_add_right HFe.out.len _) (by decide)) (by have := HFe.out.len; omega) (Nat.le_trans HFe.out.le (by simp)) ?_); intro vf wf hown hgrow hnil hblk; obtain ⟨gf, cf, Lf, hLf, rfl, hF⟩ := HFe.out.app [ch] (Nat.succ_pos _) (by have := HL3.out; simp only [List.length_cons, List.length_nil]; omega) hown hgrow hblk; have HFf := Lib.hid hF; have HLf := Lib.hid hLf; clear hown hgrow hnil hblk hF hLf)
            | (at_builtin; go_must (refine wpList_append_own_at _ rfl (.tmp 155) (.tmp 159) 59 rfl B 5 i0 (.int .u8 0) 1 1 Tryz.underlying59 HI.out HZ0.out HZ1.out HZ2.out rfl (by decide) _ _ _ rfl (World.ownsRow.alloc HFf.out.own _) ⟨_, 0, none⟩ 2 2 (Lib.byteCells [48, d1]) rfl rfl (World.news_of_block (cs := #[.int .u8 48, .int .u8 (d1.toNat : Int)]) (t := 5) (fr := (0, 0)) (heap_alloc_new _ _)) (by simp [Lib.byteCells, Value.oneCell']) (Nat.le_trans (Nat.add_le_add_right HFf.out.len _) (by decide)) (by have := HFf.out.len; omega) (Nat.le_trans HFf.out.le (by simp)) ?_); intro vg wg hown hgrow hnil hblk; obtain ⟨gg, cg, Lg, hLg, rfl, hF⟩ := HFf.out.app [48, d1] (Nat.succ_pos _) (by have := HL3.out; rw [HLf.out]; simp only [List.length_append, List.length_cons, List.length_nil]; omega) hown hgrow hblk; have HFg := Lib.hid hF; have HLg := Lib.hid hLg; clear hown hgrow hnil hblk hF hLg))
          go_ret
          have e : Lg = R := by rw [HLg.out, HLf.out, ← HR2.out, HX1.out]
          rw [e] at HFg ⊢
          exact ⟨_, rfl, gg, cg, rfl, HFg.out⟩
        · by_cases h100 : n < 100
          · obtain ⟨d1, d2, hx1, hd1, hd2⟩ : ∃ d1 d2 : UInt8, PF.expT n = [d1, d2] ∧ (n : Int) / 10 + 48 = (d1.toNat : Int) ∧ (n : Int) % 10 + 48 = (d2.toNat : Int) := ⟨UInt8.ofNat (48 + n / 10), UInt8.ofNat (48 + n % 10), by unfold PF.expT; rw [if_neg h10, if_pos h100], by rw [UInt8.toNat_ofNat']; omega, by rw [UInt8.toNat_ofNat']; omega⟩
            have HX1 := Lib.hid hx1
            clear hx1
            go_wp2_with (first
              | (at_builtin; (refine wpList_append_own_at _ rfl (.tmp 132) (.tmp 134) 59 rfl B 5 i0 (.int .u8 0) 1 1 Tryz.underlying59 HI.out HZ0.out HZ1.out HZ2.out rfl (by decide) _ _ _ rfl (World.ownsRow.alloc HFe.out.own _) ⟨_, 0, none⟩ 1 1 (Lib.byteCells [ch]) rfl rfl (World.news_of_block (cs := #[.int .u8 (ch.toNat : Int)]) (t := 5) (fr := (0, 0)) (heap_alloc_new _ _)) (by simp [Lib.byteCells, Value.oneCell']) (Nat.le_trans (Nat.add_le_add_right HFe.out.len _) (by decide)) (by have := HFe.out.len; omega) (Nat.le_trans HFe.out.le (by simp)) ?_); intro vf wf hown hgrow hnil hblk; obtain ⟨gf, cf, Lf, hLf, rfl, hF⟩ := HFe.out.app [ch] (Nat.succ_pos _) (by have := HL3.out; simp only [List.length_cons, List.length_nil]; omega) hown hgrow hblk; have HFf := Lib.hid hF; have HLf := Lib.hid hLf; clear hown hgrow hnil hblk hF hLf)
              | (at_builtin; go_must (refine wpList_append_own_at _ rfl (.tmp 164) (.tmp 173) 59 rfl B 5 i0 (.int .u8 0) 1 1 Tryz.underlying59 HI.out HZ0.out HZ1.out HZ2.out rfl (by decide) _ _ _ rfl (World.ownsRow.alloc HFf.out.own _) ⟨_, 0, none⟩ 2 2 (Lib.byteCells [d1, d2]) rfl rfl (World.news_of_block (cs := #[.int .u8 (d1.toNat : Int), .int .u8 (d2.toNat : Int)]) (t := 5) (fr := (0, 0)) (heap_alloc_new _ _)) (by simp [Lib.byteCells, Value.oneCell']) (Nat.le_trans (Nat.add_le_add_right HFf.out.len _) (by decide)) (by have := HFf.out.len; omega) (Nat.le_trans HFf.out.le (by simp)) ?_); intro vg wg hown hgrow hnil hblk; obtain ⟨gg, cg, Lg, hLg, rfl, hF⟩ := HFf.out.app [d1, d2] (Nat.succ_pos _) (by have := HL3.out; rw [HLf.out]; simp only [List.length_append, List.length_cons, List.length_nil]; omega) hown hgrow hblk; have HFg := Lib.hid hF; have HLg := Lib.hid hLg; clear hown hgrow hnil hblk hF hLg))
            go_ret
            have e : Lg = R := by rw [HLg.out, HLf.out, ← HR2.out, HX1.out]
            rw [e] at HFg ⊢
            exact ⟨_, rfl, gg, cg, rfl, HFg.out⟩
          · obtain ⟨d1, d2, d3, hx1, hd1, hd2, hd3⟩ : ∃ d1 d2 d3 : UInt8, PF.expT n = [d1, d2, d3] ∧ (n : Int) / 100 + 48 = (d1.toNat : Int) ∧ (n : Int) / 10 % 10 + 48 = (d2.toNat : Int) ∧ (n : Int) % 10 + 48 = (d3.toNat : Int) := ⟨UInt8.ofNat (48 + n / 100), UInt8.ofNat (48 + n / 10 % 10), UInt8.ofNat (48 + n % 10), by unfold PF.expT; rw [if_neg h10, if_neg h100], by rw [UInt8.toNat_ofNat']; omega, by rw [UInt8.toNat_ofNat']; omega, by rw [UInt8.toNat_ofNat']; omega⟩
            have HX1 := Lib.hid hx1
            clear hx1
            go_wp2_with (first
              | (at_builtin; (refine wpList_append_own_at _ rfl (.tmp 132) (.tmp 134) 59 rfl B 5 i0 (.int .u8 0) 1 1 Tryz.underlying59 HI.out HZ0.out HZ1.out HZ2.out rfl (by decide) _ _ _ rfl (World.ownsRow.alloc HFe.out.own _) ⟨_, 0, none⟩ 1 1 (Lib.byteCells [ch]) rfl rfl (World.news_of_block (cs := #[.int .u8 (ch.toNat : Int)]) (t := 5) (fr := (0, 0)) (heap_alloc_new _ _)) (by simp [Lib.byteCells, Value.oneCell']) (Nat.le_trans (Nat.add_le_add_right HFe.out.len _) (by decide)) (by have := HFe.out.len; omega) (Nat.le_trans HFe.out.le (by simp)) ?_); intro vf wf hown hgrow hnil hblk; obtain ⟨gf, cf, Lf, hLf, rfl, hF⟩ := HFe.out.app [ch] (Nat.succ_pos _) (by have := HL3.out; simp only [List.length_cons, List.length_nil]; omega) hown hgrow hblk; have HFf := Lib.hid hF; have HLf := Lib.hid hLf; clear hown hgrow hnil hblk hF hLf)
              | (at_builtin; go_must (refine wpList_append_own_at _ rfl (.tmp 136) (.tmp 150) 59 rfl B 5 i0 (.int .u8 0) 1 1 Tryz.underlying59 HI.out HZ0.out HZ1.out HZ2.out rfl (by decide) _ _ _ rfl (World.ownsRow.alloc HFf.out.own _) ⟨_, 0, none⟩ 3 3 (Lib.byteCells [d1, d2, d3]) rfl rfl (World.news_of_block (cs := #[.int .u8 (d1.toNat : Int), .int .u8 (d2.toNat : Int), .int .u8 (d3.toNat : Int)]) (t := 5) (fr := (0, 0)) (heap_alloc_new _ _)) (by simp [Lib.byteCells, Value.oneCell']) (Nat.le_trans (Nat.add_le_add_right HFf.out.len _) (by decide)) (by have := HFf.out.len; omega) (Nat.le_trans HFf.out.le (by simp)) ?_); intro vg wg hown hgrow hnil hblk; obtain ⟨gg, cg, Lg, hLg, rfl, hF⟩ := HFf.out.app [d1, d2, d3] (Nat.succ_pos _) (by have := HL3.out; rw [HLf.out]; simp only [List.length_append, List.length_cons, List.length_nil]; omega) hown hgrow hblk; have HFg := Lib.hid hF; have HLg := Lib.hid hLg; clear hown hgrow hnil hblk hF hLg))
            go_ret
            have e : Lg = R := by rw [HLg.out, HLf.out, ← HR2.out, HX1.out]
            rw [e] at HFg ⊢
            exact ⟨_, rfl, gg, cg, rfl, HFg.out⟩
end Go.Proofs.YtagiddbfhlokcaaGreatDoor.Ff
/- Printing a float: fmtEFG at 'f'. Condition: the row of digits. -/
namespace Go.Proofs.YtagiddbfhlokcaaGreatDoor.Ff
open Go.RowKit Go.Sort
set_option maxRecDepth 100000
theorem take_more {D : List UInt8} {k : Nat} (h : k < D.length) (L : List UInt8) : (L ++ D.take k) ++ [D.getD k 0] = L ++ D.take (k + 1) := by
  rw [List.append_assoc, List.take_add_one, List.getD_eq_getElem?_getD, List.getElem?_eq_getElem h]
  rfl
theorem zeros_more (j : Nat) (L : List UInt8) : (L ++ List.replicate j 48) ++ [48] = L ++ List.replicate (j + 1) 48 := by
  rw [List.append_assoc, List.replicate_succ']
set_option maxHeartbeats 4000000 in
theorem efg_f (D : List UInt8) (n : Nat) (hn : D.length = n) (hn0 : 1 ≤ n) (hn1 : n ≤ 30) (dp : Int) (p1 : -900 ≤ dp) (p2 : dp ≤ 900) (neg : Bool) (Q : Int) (hQ : Q = max ((n : Int) - dp) 0) (w0 w1 : World) (B b g c : Nat) (h : Fs w0 B b D [] g c w1) :
    Calls Tryz.prog 222 #[.slice (some ⟨g, 0, none⟩) 0 c, .bool neg, .slice (some ⟨b, 0, none⟩) 32 32, .int .i64 dp, .int .i64 (n : Int), .int .i64 Q, .int .u8 102, .bool true] w1 fun e w' => ∃ v, e = .returned v ∧ DstAt w0 B b D (PF.fmtF neg D dp) v w' := by
  obtain ⟨i0, hi, hz0, hz1, hz2⟩ := info_parts One.info5
  have HI := Lib.hid hi
  have HZ0 := Lib.hid hz0
  have HZ1 := Lib.hid hz1
  have HZ2 := Lib.hid hz2
  obtain ⟨L1, hL1⟩ : ∃ L, PF.sgT neg = L := ⟨_, rfl⟩
  have HL : Hid (L1.length ≤ 1) := Lib.hid (by rw [← hL1]; cases neg <;> decide)
  obtain ⟨A, hA⟩ : ∃ A, L1 ++ (if 0 < dp then D.take dp.toNat ++ List.replicate (dp.toNat - D.length) 48 else [48]) = A := ⟨_, rfl⟩
  obtain ⟨R, hR⟩ : ∃ R, A ++ (if dp < D.length then 46 :: (List.replicate (-dp).toNat 48 ++ D.drop dp.toNat) else []) = R := ⟨_, rfl⟩
  have hR2 : PF.fmtF neg D dp = R := by rw [← hR, ← hA, ← hL1]; unfold PF.fmtF; simp only [List.append_assoc]
  rw [hR2]
  have HA := Lib.hid hA
  have HR := Lib.hid hR
  have HLA : Hid (A.length ≤ 1000) := Lib.hid (by
    rw [← hA, List.length_append]
    have := HL.out
    split
    · rw [List.length_append, List.length_take, List.length_replicate]; omega
    · simp only [List.length_cons, List.length_nil]; omega)
  have HS0 := Lib.hid h
  have HD := Lib.hid hn
  have HNEG := Lib.hid hL1
  have HQ := Lib.hid hQ
  clear hi hz0 hz1 hz2 hL1 hA hR hR2 hn h hQ
  go_enter Tryz.func222, Tryz.ntmps222
  go_upto_if 178 with (fail)
  go_cut [0] from 179 (fun v w' => DstAt w0 B b D L1 v w')
  case first =>
    cases neg with
    | true =>
      go_wp2_with (at_builtin; go_must (refine wpList_append_own_at _ rfl (.tmp 179) (.tmp 180) 59 rfl B 5 i0 (.int .u8 0) 1 1 Tryz.underlying59 HI.out HZ0.out HZ1.out HZ2.out rfl (by decide) _ _ _ rfl (World.ownsRow.alloc HS0.out.own _) ⟨_, 0, none⟩ 1 1 (Lib.byteCells [45]) rfl rfl (World.news_of_block (cs := #[.int .u8 45]) (t := 5) (fr := (0, 0)) (heap_alloc_new _ _)) (by simp [Lib.byteCells, Value.oneCell']) (Nat.le_trans (Nat.add_le_add_right HS0.out.len _) (by decide)) (by have := HS0.out.len; omega) (Nat.le_trans HS0.out.le (by simp)) ?_); intro va wa hown hgrow hnil hblk; obtain ⟨ga, ca, La, hLa, rfl, hF⟩ := HS0.out.app [45] (Nat.succ_pos _) (by decide) hown hgrow hblk; have HFa := Lib.hid hF; have HLa := Lib.hid hLa; clear hown hgrow hnil hblk hF hLa)
      go_meet
      have e : La = L1 := by rw [HLa.out, ← HNEG.out]; rfl
      rw [e] at HFa ⊢
      exact ⟨ga, ca, rfl, HFa.out⟩
    | false =>
      go_wp2_with fail
      go_meet
      exact ⟨g, c, by rw [← HNEG.out]; rfl, by rw [← HNEG.out]; exact HS0.out⟩
  case rest =>
    obtain ⟨g1, c1, rfl, hF1⟩ := hcut
    have HF1 := Lib.hid hF1
    clear hF1
    go_upto_if 183 with (fail)
    generalize htb : decide (0 < dp) = tb
    go_cut [0, 23, 25] from 183 (fun v _ _ w' => DstAt w0 B b D A v w')
    case first =>
      cases tb with
      | true =>
        have hd : 0 < dp := of_decide_eq_true htb
        clear htb
        obtain ⟨q, rfl⟩ : ∃ q : Nat, dp = q := ⟨dp.toNat, by omega⟩
        obtain ⟨m, hm⟩ : ∃ m, min n q = m := ⟨_, rfl⟩
        have hmm : min (n : Int) (q : Int) = (m : Int) := by omega
        have hm30 : m ≤ 30 := by omega
        have HMN : Hid (m ≤ n) := Lib.hid (by omega)
        have HMQ : Hid (m ≤ q) := Lib.hid (by omega)
        have HMI : Hid (min n q = m) := Lib.hid hm
        rw [if_pos hd, Int.toNat_natCast] at HA
        have HA2 : Hid ((L1 ++ D.take m) ++ List.replicate (q - m) 48 = A) := Lib.hid (by
          rw [← HA.out, HD.out, List.append_assoc]
          congr 1
          have := HMI.out
          by_cases hnq : n ≤ q
          · rw [show m = n by omega, List.take_of_length_le (by rw [HD.out]; omega), List.take_of_length_le (by rw [HD.out]; omega)]
          · rw [show m = q by omega, show q - n = 0 by omega, Nat.sub_self])
        clear hm
        go_wp2_with fail
        go_loopw [0, 25, 191] (fun v _ i wr => ∃ k : Nat, k ≤ m ∧ i = .int .i64 (k : Int) ∧ DstAt w0 B b D (L1 ++ D.take k) v wr) (fun _ _ i _ => ((m : Int) - intOf i).toNat)
        case atStart => exact ⟨0, Nat.zero_le _, rfl, g1, c1, by simp, by rw [List.take_zero, List.append_nil]; exact HF1.out⟩
        case round =>
          obtain ⟨k, hk, rfl, gx, cx, rfl, hFx⟩ := hrel
          have HFx := Lib.hid hFx
          clear hFx
          by_cases hkm : k = m
          · subst hkm
            have HWX := Lib.hid (show wr = wr from rfl)
            go_wp2_with fail
            go_loopw [0, 203] (fun v i wr => ∃ j : Nat, j ≤ q - k ∧ i = .int .i64 (j : Int) ∧ DstAt w0 B b D ((L1 ++ D.take k) ++ List.replicate j 48) v wr) (fun _ i _ => ((q : Int) - intOf i).toNat)
            case atStart => exact ⟨0, Nat.zero_le _, rfl, gx, cx, by simp, by rw [List.replicate_zero, List.append_nil]; exact HFx.out⟩
            case round =>
              obtain ⟨j, hj, rfl, gy, cy, rfl, hFy⟩ := hrel
              have HFy := Lib.hid hFy
              clear hFy
              have hkq := HMQ.out
              by_cases hjq : j = q - k
              · have hj2 : (j : Int) = (q : Int) - (k : Int) := by omega
                go_wp2_with fail
                go_meet
                have e := HA2.out
                rw [← hjq] at e
                rw [e] at HFy ⊢
                exact ⟨gy, cy, rfl, HFy.out⟩
              · have hj2 : (j : Int) < (q : Int) - (k : Int) := by omega
                have HLY : Hid (((L1 ++ D.take k) ++ List.replicate j 48).length ≤ 1000) := Lib.hid (by
                  have := HL.out
                  rw [List.length_append, List.length_append, List.length_take, List.length_replicate]; omega)
                go_wp2_with (at_builtin; go_must (refine wpList_append_own_at _ rfl (.tmp 205) (.tmp 206) 59 rfl B 5 i0 (.int .u8 0) 1 1 Tryz.underlying59 HI.out HZ0.out HZ1.out HZ2.out rfl (by decide) _ _ _ rfl (World.ownsRow.alloc HFy.out.own _) ⟨_, 0, none⟩ 1 1 (Lib.byteCells [48]) rfl rfl (World.news_of_block (cs := #[.int .u8 48]) (t := 5) (fr := (0, 0)) (heap_alloc_new _ _)) (by simp [Lib.byteCells, Value.oneCell']) (Nat.le_trans (Nat.add_le_add_right HFy.out.len _) (by decide)) (by have := HFy.out.len; omega) (Nat.le_trans HFy.out.le (by simp)) ?_); intro vz wz hown hgrow hnil hblk; obtain ⟨gz, cz, Lz, hLz, rfl, hF⟩ := HFy.out.app [48] (Nat.succ_pos _) (by have := HLY.out; simp only [List.length_cons, List.length_nil]; omega) hown hgrow hblk; have HFz := Lib.hid hF; have HLz := Lib.hid hLz; clear hown hgrow hnil hblk hF hLz)
                go_roundw
                case rel =>
                  have e : Lz = (L1 ++ D.take k) ++ List.replicate (j + 1) 48 := by rw [HLz.out, zeros_more]
                  rw [e] at HFz ⊢
                  exact ⟨j + 1, by omega, by go_num, gz, cz, rfl, HFz.out⟩
                case measure => simp [intOf]; omega
          · have hk2 : k < m := by omega
            have kx := HFx.out.ds k (by rw [HD.out]; have := HMN.out; omega)
            obtain ⟨x, hx⟩ : ∃ x, D.getD k 0 = x := ⟨_, rfl⟩
            rw [hx] at kx
            have HX := Lib.hid hx
            clear hx
            have HLX : Hid ((L1 ++ D.take k).length ≤ 1000) := Lib.hid (by
              have := HL.out
              rw [List.length_append, List.length_take]; omega)
            go_wp2_with (at_builtin; go_must (refine wpList_append_own_at _ rfl (.tmp 195) (.tmp 197) 59 rfl B 5 i0 (.int .u8 0) 1 1 Tryz.underlying59 HI.out HZ0.out HZ1.out HZ2.out rfl (by decide) _ _ _ rfl (World.ownsRow.alloc HFx.out.own _) ⟨_, 0, none⟩ 1 1 (Lib.byteCells [x]) rfl rfl (World.news_of_block (cs := #[.int .u8 (x.toNat : Int)]) (t := 5) (fr := (0, 0)) (heap_alloc_new _ _)) (by simp [Lib.byteCells, Value.oneCell']) (Nat.le_trans (Nat.add_le_add_right HFx.out.len _) (by decide)) (by have := HFx.out.len; omega) (Nat.le_trans HFx.out.le (by simp)) ?_); intro vz wz hown hgrow hnil hblk; obtain ⟨gz, cz, Lz, hLz, rfl, hF⟩ := HFx.out.app [x] (Nat.succ_pos _) (by have := HLX.out; simp only [List.length_cons, List.length_nil]; omega) hown hgrow hblk; have HFz := Lib.hid hF; have HLz := Lib.hid hLz; clear hown hgrow hnil hblk hF hLz)
            go_roundw
            case rel =>
              have e : Lz = L1 ++ D.take (k + 1) := by rw [HLz.out, ← HX.out, take_more (by rw [HD.out]; have := HMN.out; omega)]
              rw [e] at HFz ⊢
              exact ⟨k + 1, by omega, by go_num, gz, cz, rfl, HFz.out⟩
            case measure => simp [intOf]; omega
      | false =>
        have hd : ¬ 0 < dp := of_decide_eq_false htb
        clear htb
        rw [if_neg hd] at HA
        go_wp2_with (at_builtin; go_must (refine wpList_append_own_at _ rfl (.tmp 209) (.tmp 210) 59 rfl B 5 i0 (.int .u8 0) 1 1 Tryz.underlying59 HI.out HZ0.out HZ1.out HZ2.out rfl (by decide) _ _ _ rfl (World.ownsRow.alloc HF1.out.own _) ⟨_, 0, none⟩ 1 1 (Lib.byteCells [48]) rfl rfl (World.news_of_block (cs := #[.int .u8 48]) (t := 5) (fr := (0, 0)) (heap_alloc_new _ _)) (by simp [Lib.byteCells, Value.oneCell']) (Nat.le_trans (Nat.add_le_add_right HF1.out.len _) (by decide)) (by have := HF1.out.len; omega) (Nat.le_trans HF1.out.le (by simp)) ?_); intro vz wz hown hgrow hnil hblk; obtain ⟨gz, cz, Lz, hLz, rfl, hF⟩ := HF1.out.app [48] (Nat.succ_pos _) (by have := HL.out; simp only [List.length_cons, List.length_nil]; omega) hown hgrow hblk; have HFz := Lib.hid hF; have HLz := Lib.hid hLz; clear hown hgrow hnil hblk hF hLz)
        go_meet
        have e : Lz = A := by rw [HLz.out, ← HA.out]
        rw [e] at HFz ⊢
        exact ⟨gz, cz, rfl, HFz.out⟩
    case rest =>
      obtain ⟨g2, c2, rfl, hF2⟩ := hcut
      have HF2 := Lib.hid hF2
      clear hF2
      go_upto_if 213 with (fail)
      generalize htq : decide (0 < Q) = tq
      cases tq with
      | false =>
        have hq0 : ¬ 0 < Q := of_decide_eq_false htq
        clear htq
        have e : A = R := by
          have h1 := HR.out
          rw [if_neg (by rw [HD.out]; have := HQ.out; omega), List.append_nil] at h1
          exact h1
        rw [e] at HF2 ⊢
        go_wp2_with fail
        go_ret
        exact ⟨_, rfl, g2, c2, rfl, HF2.out⟩
      | true =>
        have hq0 : 0 < Q := of_decide_eq_true htq
        clear htq
        obtain ⟨Z, hZ⟩ : ∃ Z, (-dp).toNat = Z := ⟨_, rfl⟩
        obtain ⟨O, hO⟩ : ∃ O, dp.toNat = O := ⟨_, rfl⟩
        obtain ⟨M, hM⟩ : ∃ M, n - O = M := ⟨_, rfl⟩
        have hQ2 : Q = (Z : Int) + (M : Int) := by have := HQ.out; omega
        have HOM : Hid (O + M = n) := Lib.hid (by have := HQ.out; omega)
        have hZ9 : Z ≤ 900 := by omega
        have HR2 : Hid (((A ++ [46]) ++ List.replicate Z 48) ++ D.drop O = R) := Lib.hid (by
          have h1 := HR.out
          rw [if_pos (by rw [HD.out]; have := HQ.out; omega), hZ, hO] at h1
          rw [← h1]
          simp only [List.append_assoc, List.cons_append, List.nil_append])
        have mA : max 0 (-dp) = (Z : Int) := by omega
        have mB : min ((Z : Int) + (M : Int)) (Z : Int) = (Z : Int) := by omega
        have mC : dp + (Z : Int) = (O : Int) := by omega
        have mD : (Z : Int) + (M : Int) - (Z : Int) = (M : Int) := by omega
        have mE : (n : Int) - (O : Int) = (M : Int) := by omega
        have mF : max 0 (M : Int) = (M : Int) := by omega
        have mG : min (M : Int) (M : Int) = (M : Int) := by omega
        have mH : (M : Int) - (M : Int) = 0 := by omega
        have mI : max (0 : Int) 0 = 0 := by omega
        have hM30 : M ≤ 30 := by omega
        subst hQ2
        clear hZ hO hM HQ
        go_wp2_with (at_builtin; go_must (refine wpList_append_own_at _ rfl (.tmp 214) (.tmp 215) 59 rfl B 5 i0 (.int .u8 0) 1 1 Tryz.underlying59 HI.out HZ0.out HZ1.out HZ2.out rfl (by decide) _ _ _ rfl (World.ownsRow.alloc HF2.out.own _) ⟨_, 0, none⟩ 1 1 (Lib.byteCells [46]) rfl rfl (World.news_of_block (cs := #[.int .u8 46]) (t := 5) (fr := (0, 0)) (heap_alloc_new _ _)) (by simp [Lib.byteCells, Value.oneCell']) (Nat.le_trans (Nat.add_le_add_right HF2.out.len _) (by decide)) (by have := HF2.out.len; omega) (Nat.le_trans HF2.out.le (by simp)) ?_); intro ve we hown hgrow hnil hblk; obtain ⟨ge, ce, Le, hLe, rfl, hF⟩ := HF2.out.app [46] (Nat.succ_pos _) (by have := HLA.out; simp only [List.length_cons, List.length_nil]; omega) hown hgrow hblk; have HFe := Lib.hid hF; have HLe := Lib.hid hLe; clear hown hgrow hnil hblk hF hLe)
        have HLE : Hid (Le.length ≤ 1001) := Lib.hid (by rw [HLe.out]; have := HLA.out; simp only [List.length_append, List.length_cons, List.length_nil]; omega)
        go_loopw [0, 240] (fun v i wr => ∃ j : Nat, j ≤ Z ∧ i = .int .i64 (j : Int) ∧ DstAt w0 B b D (Le ++ List.replicate j 48) v wr) (fun _ i _ => ((Z : Int) - intOf i).toNat)
        case atStart => exact ⟨0, Nat.zero_le _, rfl, ge, ce, by simp, by rw [List.replicate_zero, List.append_nil]; exact HFe.out⟩
        case round =>
          obtain ⟨j, hj, rfl, gy, cy, rfl, hFy⟩ := hrel
          have HFy := Lib.hid hFy
          clear hFy
          by_cases hjq : j = Z
          · subst hjq
            go_wp2_with fail
            go_loopw [0, 30, 247] (fun v _ i wr => ∃ k : Nat, k ≤ M ∧ i = .int .i64 (k : Int) ∧ DstAt w0 B b D ((Le ++ List.replicate j 48) ++ (D.drop O).take k) v wr) (fun _ _ i _ => ((M : Int) - intOf i).toNat)
            case atStart => exact ⟨0, Nat.zero_le _, rfl, gy, cy, by simp, by rw [List.take_zero, List.append_nil]; exact HFy.out⟩
            case round =>
              obtain ⟨k, hk, rfl, gx, cx, rfl, hFx⟩ := hrel
              have HFx := Lib.hid hFx
              clear hFx
              have hdl : (D.drop O).length = M := by rw [List.length_drop, HD.out]; have := HOM.out; omega
              by_cases hkm : k = M
              · subst hkm
                have e : (Le ++ List.replicate j 48) ++ (D.drop O).take k = R := by rw [List.take_of_length_le (by omega), ← HR2.out, HLe.out]
                rw [e] at HFx ⊢
                clear hdl e
                go_wp2_with fail
                go_loopw [0, 261] (fun v i wx => v = .slice (some ⟨gx, 0, none⟩) R.length cx ∧ i = .int .i64 0 ∧ wx = wr) (fun _ _ _ => 0)
                case atStart => exact ⟨rfl, rfl, rfl⟩
                case round =>
                  obtain ⟨rfl, rfl, hw⟩ := hrel
                  obtain rfl := hw.symm
                  go_wp2_with fail
                  go_ret
                  exact ⟨_, rfl, gx, cx, rfl, HFx.out⟩
              · have hk2 : k < M := by omega
                have kx := HFx.out.ds (O + k) (by rw [HD.out]; have := HOM.out; omega)
                obtain ⟨x, hx⟩ : ∃ x, D.getD (O + k) 0 = x := ⟨_, rfl⟩
                rw [hx] at kx
                have HX : Hid ((D.drop O).getD k 0 = x) := Lib.hid (by rw [← hx, List.getD_eq_getElem?_getD, List.getD_eq_getElem?_getD, List.getElem?_drop])
                have HTM := Lib.hid (take_more (D := D.drop O) (k := k) (by omega) (Le ++ List.replicate j 48))
                have HLX : Hid (((Le ++ List.replicate j 48) ++ (D.drop O).take k).length ≤ 2000) := Lib.hid (by
                  have := HLE.out
                  rw [List.length_append, List.length_append, List.length_take, List.length_replicate]; omega)
                have hot : ((O : Int) + (k : Int)).toNat = O + k := by omega
                have HON : Hid (O + k < n) := Lib.hid (by have := HOM.out; omega)
                have hon : O + k < 32 := by have := HON.out; omega
                clear hx hdl
                go_wp2_with (at_builtin; go_must (refine wpList_append_own_at _ rfl (.tmp 250) (.tmp 257) 59 rfl B 5 i0 (.int .u8 0) 1 1 Tryz.underlying59 HI.out HZ0.out HZ1.out HZ2.out rfl (by decide) _ _ _ rfl (World.ownsRow.alloc HFx.out.own _) ⟨_, 0, none⟩ 1 1 (Lib.byteCells [x]) rfl rfl (World.news_of_block (cs := #[.int .u8 (x.toNat : Int)]) (t := 5) (fr := (0, 0)) (heap_alloc_new _ _)) (by simp [Lib.byteCells, Value.oneCell']) (Nat.le_trans (Nat.add_le_add_right HFx.out.len _) (by decide)) (by have := HFx.out.len; omega) (Nat.le_trans HFx.out.le (by simp)) ?_); intro vz wz hown hgrow hnil hblk; obtain ⟨gz, cz, Lz, hLz, rfl, hF⟩ := HFx.out.app [x] (Nat.succ_pos _) (by have := HLX.out; simp only [List.length_cons, List.length_nil]; omega) hown hgrow hblk; have HFz := Lib.hid hF; have HLz := Lib.hid hLz; clear hown hgrow hnil hblk hF hLz)
                go_roundw
                case rel =>
                  have e : Lz = (Le ++ List.replicate j 48) ++ (D.drop O).take (k + 1) := by rw [HLz.out, ← HX.out, HTM.out]
                  rw [e] at HFz ⊢
                  exact ⟨k + 1, by omega, by go_num, gz, cz, rfl, HFz.out⟩
                case measure => simp [intOf]; omega
          · have hjz : j < Z := by omega
            have HLY : Hid ((Le ++ List.replicate j 48).length ≤ 2000) := Lib.hid (by
              have := HLE.out
              rw [List.length_append, List.length_replicate]; omega)
            go_wp2_with (at_builtin; go_must (refine wpList_append_own_at _ rfl (.tmp 242) (.tmp 243) 59 rfl B 5 i0 (.int .u8 0) 1 1 Tryz.underlying59 HI.out HZ0.out HZ1.out HZ2.out rfl (by decide) _ _ _ rfl (World.ownsRow.alloc HFy.out.own _) ⟨_, 0, none⟩ 1 1 (Lib.byteCells [48]) rfl rfl (World.news_of_block (cs := #[.int .u8 48]) (t := 5) (fr := (0, 0)) (heap_alloc_new _ _)) (by simp [Lib.byteCells, Value.oneCell']) (Nat.le_trans (Nat.add_le_add_right HFy.out.len _) (by decide)) (by have := HFy.out.len; omega) (Nat.le_trans HFy.out.le (by simp)) ?_); intro vz wz hown hgrow hnil hblk; obtain ⟨gz, cz, Lz, hLz, rfl, hF⟩ := HFy.out.app [48] (Nat.succ_pos _) (by have := HLY.out; simp only [List.length_cons, List.length_nil]; omega) hown hgrow hblk; have HFz := Lib.hid hF; have HLz := Lib.hid hLz; clear hown hgrow hnil hblk hF hLz)
            go_roundw
            case rel =>
              have e : Lz = Le ++ List.replicate (j + 1) 48 := by rw [HLz.out, zeros_more]
              rw [e] at HFz ⊢
              exact ⟨j + 1, by omega, by go_num, gz, cz, rfl, HFz.out⟩
            case measure => simp [intOf]; omega
end Go.Proofs.YtagiddbfhlokcaaGreatDoor.Ff
