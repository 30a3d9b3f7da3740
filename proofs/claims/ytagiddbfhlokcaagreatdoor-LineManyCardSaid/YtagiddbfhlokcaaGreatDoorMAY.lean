/- Several texts of this proof, laid together. Conditions: as each says. -/
import Derived.Test.YtagiddbfhlokcaaGreatDoorMAX
import Derived.Deep.RegionLaw
import Derived.Lib.RabinKarpLaws
import Derived.OwnWalk
/- Printing a float: fmtEFG at nought. No condition. -/
namespace Go.Proofs.YtagiddbfhlokcaaGreatDoor.Ff
open Go.RowKit Go.Sort
set_option maxRecDepth 100000
set_option maxHeartbeats 4000000 in
theorem efg_e0 (neg : Bool) (w0 w1 : World) (B b g c : Nat) (h : Fs w0 B b [] [] g c w1) :
    Calls Tryz.prog 222 #[.slice (some ⟨g, 0, none⟩) 0 c, .bool neg, .slice none 0 0, .int .i64 0, .int .i64 0, .int .i64 (-1), .int .u8 101, .bool true] w1 fun e w' => ∃ v, e = .returned v ∧ DstAt w0 B b [] (PF.fmtE neg [] 0) v w' := by
  obtain ⟨i0, hi, hz0, hz1, hz2⟩ := info_parts One.info5
  have HI := Lib.hid hi
  have HZ0 := Lib.hid hz0
  have HZ1 := Lib.hid hz1
  have HZ2 := Lib.hid hz2
  have HS0 := Lib.hid h
  clear hi hz0 hz1 hz2 h
  cases neg with
  | true =>
    go_enter Tryz.func222, Tryz.ntmps222
    go_wp2_with (first
      | (at_builtin; (refine wpList_append_own_at _ rfl (.tmp 79) (.tmp 80) 59 rfl B 5 i0 (.int .u8 0) 1 1 Tryz.underlying59 HI.out HZ0.out HZ1.out HZ2.out rfl (by decide) _ _ _ rfl (World.ownsRow.alloc HS0.out.own _) ⟨_, 0, none⟩ 1 1 (Lib.byteCells [45]) rfl rfl (World.news_of_block (cs := #[.int .u8 45]) (t := 5) (fr := (0, 0)) (heap_alloc_new _ _)) (by simp [Lib.byteCells, Value.oneCell']) (Nat.le_trans (Nat.add_le_add_right HS0.out.len _) (by decide)) (by have := HS0.out.len; omega) (Nat.le_trans HS0.out.le (by simp)) ?_); intro va wa hown hgrow hnil hblk; obtain ⟨ga, ca, La, hLa, rfl, hF⟩ := HS0.out.app [45] (Nat.succ_pos _) (by  decide) hown hgrow hblk; have HFa := Lib.hid hF; have HLa := Lib.hid hLa; clear hown hgrow hnil hblk hF hLa)
      | (at_builtin; (refine wpList_append_own_at _ rfl (.tmp 87) (.tmp 89) 59 rfl B 5 i0 (.int .u8 0) 1 1 Tryz.underlying59 HI.out HZ0.out HZ1.out HZ2.out rfl (by decide) _ _ _ rfl (World.ownsRow.alloc HFa.out.own _) ⟨_, 0, none⟩ 1 1 (Lib.byteCells [48]) rfl rfl (World.news_of_block (cs := #[.int .u8 48]) (t := 5) (fr := (0, 0)) (heap_alloc_new _ _)) (by simp [Lib.byteCells, Value.oneCell']) (Nat.le_trans (Nat.add_le_add_right HFa.out.len _) (by decide)) (by have := HFa.out.len; omega) (Nat.le_trans HFa.out.le (by simp)) ?_); intro vb wb hown hgrow hnil hblk; obtain ⟨gb, cb, Lb, hLb, rfl, hF⟩ := HFa.out.app [48] (Nat.succ_pos _) (by rw [HLa.out]; decide) hown hgrow hblk; have HFb := Lib.hid hF; have HLb := Lib.hid hLb; clear hown hgrow hnil hblk hF hLb)
      | (at_builtin; (refine wpList_append_own_at _ rfl (.tmp 120) (.tmp 122) 59 rfl B 5 i0 (.int .u8 0) 1 1 Tryz.underlying59 HI.out HZ0.out HZ1.out HZ2.out rfl (by decide) _ _ _ rfl (World.ownsRow.alloc HFb.out.own _) ⟨_, 0, none⟩ 1 1 (Lib.byteCells [101]) rfl rfl (World.news_of_block (cs := #[.int .u8 101]) (t := 5) (fr := (0, 0)) (heap_alloc_new _ _)) (by simp [Lib.byteCells, Value.oneCell']) (Nat.le_trans (Nat.add_le_add_right HFb.out.len _) (by decide)) (by have := HFb.out.len; omega) (Nat.le_trans HFb.out.le (by simp)) ?_); intro vc wc hown hgrow hnil hblk; obtain ⟨gc, cc, Lc, hLc, rfl, hF⟩ := HFb.out.app [101] (Nat.succ_pos _) (by rw [HLb.out]; rw [HLa.out]; decide) hown hgrow hblk; have HFc := Lib.hid hF; have HLc := Lib.hid hLc; clear hown hgrow hnil hblk hF hLc)
      | (at_builtin; (refine wpList_append_own_at _ rfl (.tmp 132) (.tmp 134) 59 rfl B 5 i0 (.int .u8 0) 1 1 Tryz.underlying59 HI.out HZ0.out HZ1.out HZ2.out rfl (by decide) _ _ _ rfl (World.ownsRow.alloc HFc.out.own _) ⟨_, 0, none⟩ 1 1 (Lib.byteCells [43]) rfl rfl (World.news_of_block (cs := #[.int .u8 43]) (t := 5) (fr := (0, 0)) (heap_alloc_new _ _)) (by simp [Lib.byteCells, Value.oneCell']) (Nat.le_trans (Nat.add_le_add_right HFc.out.len _) (by decide)) (by have := HFc.out.len; omega) (Nat.le_trans HFc.out.le (by simp)) ?_); intro vd wd hown hgrow hnil hblk; obtain ⟨gd, cd, Ld, hLd, rfl, hF⟩ := HFc.out.app [43] (Nat.succ_pos _) (by rw [HLc.out]; rw [HLb.out]; rw [HLa.out]; decide) hown hgrow hblk; have HFd := Lib.hid hF; have HLd := Lib.hid hLd; clear hown hgrow hnil hblk hF hLd)
      | (at_builtin; go_must (refine wpList_append_own_at _ rfl (.tmp 155) (.tmp 159) 59 rfl B 5 i0 (.int .u8 0) 1 1 Tryz.underlying59 HI.out HZ0.out HZ1.out HZ2.out rfl (by decide) _ _ _ rfl (World.ownsRow.alloc HFd.out.own _) ⟨_, 0, none⟩ 2 2 (Lib.byteCells [48, 48]) rfl rfl (World.news_of_block (cs := #[.int .u8 48, .int .u8 48]) (t := 5) (fr := (0, 0)) (heap_alloc_new _ _)) (by simp [Lib.byteCells, Value.oneCell']) (Nat.le_trans (Nat.add_le_add_right HFd.out.len _) (by decide)) (by have := HFd.out.len; omega) (Nat.le_trans HFd.out.le (by simp)) ?_); intro ve we hown hgrow hnil hblk; obtain ⟨ge, ce, Le, hLe, rfl, hF⟩ := HFd.out.app [48, 48] (Nat.succ_pos _) (by rw [HLd.out]; rw [HLc.out]; rw [HLb.out]; rw [HLa.out]; decide) hown hgrow hblk; have HFe := Lib.hid hF; have HLe := Lib.hid hLe; clear hown hgrow hnil hblk hF hLe))
    go_ret
    have e : Le = PF.fmtE true [] 0 := by
      rw [HLe.out, HLd.out, HLc.out, HLb.out, HLa.out]
      decide
    rw [e] at HFe ⊢
    exact ⟨_, rfl, ge, ce, rfl, HFe.out⟩
  | false =>
    go_enter Tryz.func222, Tryz.ntmps222
    go_wp2_with (first
      | (at_builtin; (refine wpList_append_own_at _ rfl (.tmp 87) (.tmp 89) 59 rfl B 5 i0 (.int .u8 0) 1 1 Tryz.underlying59 HI.out HZ0.out HZ1.out HZ2.out rfl (by decide) _ _ _ rfl (World.ownsRow.alloc HS0.out.own _) ⟨_, 0, none⟩ 1 1 (Lib.byteCells [48]) rfl rfl (World.news_of_block (cs := #[.int .u8 48]) (t := 5) (fr := (0, 0)) (heap_alloc_new _ _)) (by simp [Lib.byteCells, Value.oneCell']) (Nat.le_trans (Nat.add_le_add_right HS0.out.len _) (by decide)) (by have := HS0.out.len; omega) (Nat.le_trans HS0.out.le (by simp)) ?_); intro va wa hown hgrow hnil hblk; obtain ⟨ga, ca, La, hLa, rfl, hF⟩ := HS0.out.app [48] (Nat.succ_pos _) (by  decide) hown hgrow hblk; have HFa := Lib.hid hF; have HLa := Lib.hid hLa; clear hown hgrow hnil hblk hF hLa)
      | (at_builtin; (refine wpList_append_own_at _ rfl (.tmp 120) (.tmp 122) 59 rfl B 5 i0 (.int .u8 0) 1 1 Tryz.underlying59 HI.out HZ0.out HZ1.out HZ2.out rfl (by decide) _ _ _ rfl (World.ownsRow.alloc HFa.out.own _) ⟨_, 0, none⟩ 1 1 (Lib.byteCells [101]) rfl rfl (World.news_of_block (cs := #[.int .u8 101]) (t := 5) (fr := (0, 0)) (heap_alloc_new _ _)) (by simp [Lib.byteCells, Value.oneCell']) (Nat.le_trans (Nat.add_le_add_right HFa.out.len _) (by decide)) (by have := HFa.out.len; omega) (Nat.le_trans HFa.out.le (by simp)) ?_); intro vb wb hown hgrow hnil hblk; obtain ⟨gb, cb, Lb, hLb, rfl, hF⟩ := HFa.out.app [101] (Nat.succ_pos _) (by rw [HLa.out]; decide) hown hgrow hblk; have HFb := Lib.hid hF; have HLb := Lib.hid hLb; clear hown hgrow hnil hblk hF hLb)
      | (at_builtin; (refine wpList_append_own_at _ rfl (.tmp 132) (.tmp 134) 59 rfl B 5 i0 (.int .u8 0) 1 1 Tryz.underlying59 HI.out HZ0.out HZ1.out HZ2.out rfl (by decide) _ _ _ rfl (World.ownsRow.alloc HFb.out.own _) ⟨_, 0, none⟩ 1 1 (Lib.byteCells [43]) rfl rfl (World.news_of_block (cs := #[.int .u8 43]) (t := 5) (fr := (0, 0)) (heap_alloc_new _ _)) (by simp [Lib.byteCells, Value.oneCell']) (Nat.le_trans (Nat.add_le_add_right HFb.out.len _) (by decide)) (by have := HFb.out.len; omega) (Nat.le_trans HFb.out.le (by simp)) ?_); intro vc wc hown hgrow hnil hblk; obtain ⟨gc, cc, Lc, hLc, rfl, hF⟩ := HFb.out.app [43] (Nat.succ_pos _) (by rw [HLb.out]; rw [HLa.out]; decide) hown hgrow hblk; have HFc := Lib.hid hF; have HLc := Lib.hid hLc; clear hown hgrow hnil hblk hF hLc)
      | (at_builtin; go_must (refine wpList_append_own_at _ rfl (.tmp 155) (.tmp 159) 59 rfl B 5 i0 (.int .u8 0) 1 1 Tryz.underlying59 HI.out HZ0.out HZ1.out HZ2.out rfl (by decide) _ _ _ rfl (World.ownsRow.alloc HFc.out.own _) ⟨_, 0, none⟩ 2 2 (Lib.byteCells [48, 48]) rfl rfl (World.news_of_block (cs := #[.int .u8 48, .int .u8 48]) (t := 5) (fr := (0, 0)) (heap_alloc_new _ _)) (by simp [Lib.byteCells, Value.oneCell']) (Nat.le_trans (Nat.add_le_add_right HFc.out.len _) (by decide)) (by have := HFc.out.len; omega) (Nat.le_trans HFc.out.le (by simp)) ?_); intro vd wd hown hgrow hnil hblk; obtain ⟨gd, cd, Ld, hLd, rfl, hF⟩ := HFc.out.app [48, 48] (Nat.succ_pos _) (by rw [HLc.out]; rw [HLb.out]; rw [HLa.out]; decide) hown hgrow hblk; have HFd := Lib.hid hF; have HLd := Lib.hid hLd; clear hown hgrow hnil hblk hF hLd))
    go_ret
    have e : Ld = PF.fmtE false [] 0 := by
      rw [HLd.out, HLc.out, HLb.out, HLa.out]
      decide
    rw [e] at HFd ⊢
    exact ⟨_, rfl, gd, cd, rfl, HFd.out⟩
set_option maxHeartbeats 4000000 in
theorem efg_f0 (neg : Bool) (w0 w1 : World) (B b g c : Nat) (h : Fs w0 B b [] [] g c w1) :
    Calls Tryz.prog 222 #[.slice (some ⟨g, 0, none⟩) 0 c, .bool neg, .slice none 0 0, .int .i64 0, .int .i64 0, .int .i64 (-1), .int .u8 102, .bool true] w1 fun e w' => ∃ v, e = .returned v ∧ DstAt w0 B b [] (PF.fmtF neg [] 0) v w' := by
  obtain ⟨i0, hi, hz0, hz1, hz2⟩ := info_parts One.info5
  have HI := Lib.hid hi
  have HZ0 := Lib.hid hz0
  have HZ1 := Lib.hid hz1
  have HZ2 := Lib.hid hz2
  have HS0 := Lib.hid h
  clear hi hz0 hz1 hz2 h
  cases neg with
  | true =>
    go_enter Tryz.func222, Tryz.ntmps222
    go_wp2_with (first
      | (at_builtin; (refine wpList_append_own_at _ rfl (.tmp 179) (.tmp 180) 59 rfl B 5 i0 (.int .u8 0) 1 1 Tryz.underlying59 HI.out HZ0.out HZ1.out HZ2.out rfl (by decide) _ _ _ rfl (World.ownsRow.alloc HS0.out.own _) ⟨_, 0, none⟩ 1 1 (Lib.byteCells [45]) rfl rfl (World.news_of_block (cs := #[.int .u8 45]) (t := 5) (fr := (0, 0)) (heap_alloc_new _ _)) (by simp [Lib.byteCells, Value.oneCell']) (Nat.le_trans (Nat.add_le_add_right HS0.out.len _) (by decide)) (by have := HS0.out.len; omega) (Nat.le_trans HS0.out.le (by simp)) ?_); intro va wa hown hgrow hnil hblk; obtain ⟨ga, ca, La, hLa, rfl, hF⟩ := HS0.out.app [45] (Nat.succ_pos _) (by  decide) hown hgrow hblk; have HFa := Lib.hid hF; have HLa := Lib.hid hLa; clear hown hgrow hnil hblk hF hLa)
      | (at_builtin; go_must (refine wpList_append_own_at _ rfl (.tmp 209) (.tmp 210) 59 rfl B 5 i0 (.int .u8 0) 1 1 Tryz.underlying59 HI.out HZ0.out HZ1.out HZ2.out rfl (by decide) _ _ _ rfl (World.ownsRow.alloc HFa.out.own _) ⟨_, 0, none⟩ 1 1 (Lib.byteCells [48]) rfl rfl (World.news_of_block (cs := #[.int .u8 48]) (t := 5) (fr := (0, 0)) (heap_alloc_new _ _)) (by simp [Lib.byteCells, Value.oneCell']) (Nat.le_trans (Nat.add_le_add_right HFa.out.len _) (by decide)) (by have := HFa.out.len; omega) (Nat.le_trans HFa.out.le (by simp)) ?_); intro vb wb hown hgrow hnil hblk; obtain ⟨gb, cb, Lb, hLb, rfl, hF⟩ := HFa.out.app [48] (Nat.succ_pos _) (by rw [HLa.out]; decide) hown hgrow hblk; have HFb := Lib.hid hF; have HLb := Lib.hid hLb; clear hown hgrow hnil hblk hF hLb))
    go_ret
    have e : Lb = PF.fmtF true [] 0 := by
      rw [HLb.out, HLa.out]
      decide
    rw [e] at HFb ⊢
    exact ⟨_, rfl, gb, cb, rfl, HFb.out⟩
  | false =>
    go_enter Tryz.func222, Tryz.ntmps222
    go_wp2_with (first
      | (at_builtin; go_must (refine wpList_append_own_at _ rfl (.tmp 209) (.tmp 210) 59 rfl B 5 i0 (.int .u8 0) 1 1 Tryz.underlying59 HI.out HZ0.out HZ1.out HZ2.out rfl (by decide) _ _ _ rfl (World.ownsRow.alloc HS0.out.own _) ⟨_, 0, none⟩ 1 1 (Lib.byteCells [48]) rfl rfl (World.news_of_block (cs := #[.int .u8 48]) (t := 5) (fr := (0, 0)) (heap_alloc_new _ _)) (by simp [Lib.byteCells, Value.oneCell']) (Nat.le_trans (Nat.add_le_add_right HS0.out.len _) (by decide)) (by have := HS0.out.len; omega) (Nat.le_trans HS0.out.le (by simp)) ?_); intro va wa hown hgrow hnil hblk; obtain ⟨ga, ca, La, hLa, rfl, hF⟩ := HS0.out.app [48] (Nat.succ_pos _) (by  decide) hown hgrow hblk; have HFa := Lib.hid hF; have HLa := Lib.hid hLa; clear hown hgrow hnil hblk hF hLa))
    go_ret
    have e : La = PF.fmtF false [] 0 := by
      rw [HLa.out]
      decide
    rw [e] at HFa ⊢
    exact ⟨_, rfl, ga, ca, rfl, HFa.out⟩
end Go.Proofs.YtagiddbfhlokcaaGreatDoor.Ff
/- Printing a float: ftoa64. Conditions: the tables of powers. -/
namespace Go.Proofs.YtagiddbfhlokcaaGreatDoor.Ff
open Go.RowKit Go.Sort
set_option maxRecDepth 100000
/-- What printing a float reads of the world. -/
structure FEnv (T : Nat → Nat × Nat) (w : World) : Prop where
  pow : Pow T w
  tab : Lib.TabIs Tryz.prog w "internal/strconv.uint64pow10" .u64 Lib.pow10Tab
theorem FEnv.later {T : Nat → Nat × Nat} {w w' : World} {B : Nat} (h : FEnv T w) (hb : Below B w w') (h8 : 15 < B) : FEnv T w' := by
  refine ⟨h.pow.below hb h8, ?_⟩
  have ht := h.tab
  have hg : Tryz.prog.globalNamed "internal/strconv.uint64pow10" = some 1 := by kernel_rfl
  unfold Lib.TabIs World.var? at ht ⊢
  rw [hg] at ht ⊢
  simp only [Option.bind_some] at ht ⊢
  rw [hb.block 1 (by omega)]
  exact ht
theorem FEnv.drew {T : Nat → Nat × Nat} {w : World} (h : FEnv T w) : FEnv T w.drew := ⟨⟨h.pow.c0, h.pow.c1⟩, h.tab⟩
theorem bits219 (x : Nat) (w : World) : (callFunc 219 #[.float .f64 x]).run Tryz.prog w = .ok (.value (.int .u64 x)) w := by
  rw [run_callFunc_extern (e := Extern.MathFloatBits.float64bits) Tryz.func219 (by kernel_rfl) (by kernel_rfl) (by kernel_rfl) (by kernel_rfl)]
  rfl
theorem and_2047 (i : Nat) (hi : i < 9223372036854775808) : bits BinOp.and IntKind.i64 (i : Int) 2047 = ((i % 2048 : Nat) : Int) := by
  have h := bits_mask .i64 63 (by decide) (fun n h0 h1 => by rw [two63] at h1; rw [IntKind.wrap_i64]; omega) 11 (by decide) (i : Int) (by omega) (by rw [two63]; omega)
  have e : ((2 : Int) ^ 11 - 1) = 2047 := by decide
  rw [e] at h
  rw [h]
  omega
/-- A row of the callee's own. -/
def RowAt (w0 : World) (B : Nat) (l : List UInt8) (v : Value) (w : World) : Prop := ∃ g c, v = .slice (some ⟨g, 0, none⟩) l.length c ∧ w.ownsRow B 5 1 (.slice (some ⟨g, 0, none⟩) l.length c) l.length (Lib.byteCells l) ∧ Below B w0 w
theorem DstAt.row {w0 w : World} {B b : Nat} {D l : List UInt8} {v : Value} (h : DstAt w0 B b D l v w) : RowAt w0 B l v w := by
  obtain ⟨g, c, e, f⟩ := h
  exact ⟨g, c, e, f.own, f.bel⟩
theorem fsh_blen {n : Nat} (h : 0 < n) : (64 : Int) - (PF.blen n : Int) = ((63 - n.log2 : Nat) : Int) ∨ 64 ≤ n.log2 := by
  unfold PF.blen
  rw [if_neg (by omega)]
  omega
set_option maxHeartbeats 8000000 in
theorem ftoa_e (T : Nat → Nat × Nat) (hT : TabLt T) (hP : PF.TabPow (tabF T)) (x : Nat) (hx : x < 18446744073709551616) (hfin : PF.Fin x) (w0 : World) (g : Nat) (hown : w0.ownsRow g 5 1 (.slice (some ⟨g, 0, none⟩) 0 24) 0 []) (hg : 15 < g) (henv : FEnv T w0) :
    Calls Tryz.prog 187 #[.slice (some ⟨g, 0, none⟩) 0 24, .float .f64 x, .int .u8 101, .int .i64 (-1)] w0 fun e w' => ∃ v, e = .returned v ∧ RowAt w0 g (PF.fmtE (decide (9223372036854775808 ≤ x)) (PF.fDec (tabF T) (x % 9223372036854775808)).1 (PF.fDec (tabF T) (x % 9223372036854775808)).2) v w' := by
  obtain ⟨neg, hneg⟩ : ∃ b, decide (9223372036854775808 ≤ x) = b := ⟨_, rfl⟩
  obtain ⟨r, hr⟩ : ∃ r, x % 9223372036854775808 = r := ⟨_, rfl⟩
  have hr2 : r < 9218868437227405312 := by rw [← hr]; exact hfin
  obtain ⟨q, hq⟩ : ∃ q, r / 4503599627370496 = q := ⟨_, rfl⟩
  obtain ⟨f, hf⟩ : ∃ f, r % 4503599627370496 = f := ⟨_, rfl⟩
  have hq2 : q ≤ 2046 := by omega
  have hf2 : f < 4503599627370496 := by omega
  rw [hneg, hr]
  obtain ⟨R, hRR⟩ : ∃ R, PF.fmtE neg (PF.fDec (tabF T) r).1 (PF.fDec (tabF T) r).2 = R := ⟨_, rfl⟩
  have HRR := Lib.hid hRR
  rw [hRR]
  clear hRR
  have h65 := bits219 x
  have b0 : ((x : Int) / 9223372036854775808 != 0) = neg := by
    rw [← hneg]
    by_cases h : 9223372036854775808 ≤ x
    · rw [decide_eq_true h, bne_iff_ne]; omega
    · rw [decide_eq_false h, bne_eq_false_iff_eq]; omega
  have b3 : bits BinOp.and IntKind.i64 ((x : Int) / 4503599627370496) 2047 = (q : Int) := by
    have := and_2047 (x / 4503599627370496) (by omega)
    rw [show x / 4503599627370496 % 2048 = q by omega] at this
    exact this
  have b1 : bits BinOp.and IntKind.u64 (x : Int) 4503599627370495 = (f : Int) := by
    have := bits_and_u64_nat x 4503599627370495 hx (by omega)
    rw [show (4503599627370495 : Nat) = 2 ^ 52 - 1 from rfl, Nat.and_two_pow_sub_one_eq_mod] at this
    have e : x % 2 ^ 52 = f := by omega
    rw [e] at this
    exact this
  have b2 : bits BinOp.or IntKind.u64 (f : Int) 4503599627370496 = ((f + 4503599627370496 : Nat) : Int) := by
    have := bits_or_u64_nat f 4503599627370496 (by omega) (by omega)
    have e : f ||| 4503599627370496 = f + 4503599627370496 := by
      have := Nat.two_pow_add_eq_or_of_lt (i := 52) hf2 1
      rw [Nat.or_comm, ← this]
      omega
    rw [e] at this
    exact this
  have c1 : ((q : Int) == 2047) = false := by rw [beq_eq_false_iff_ne]; omega
  have hgs := (hown.lt g rfl).2
  have HG := Lib.hid hgs
  have HO := Lib.hid hown
  have HE := Lib.hid henv
  have HT := Lib.hid hT
  have HP := Lib.hid hP
  have HR := Lib.hid hr2
  have HQF := Lib.hid (show r / 4503599627370496 = q ∧ r % 4503599627370496 = f from ⟨hq, hf⟩)
  clear hgs hown henv hT hP hr hr2 hq hf hneg hfin
  go_enter Tryz.func187, Tryz.ntmps187
  go_wp2_with fail
  go_quiet (fail)
  obtain ⟨k, hk⟩ : ∃ k, PF.fExp r = k := ⟨_, rfl⟩
  obtain ⟨n, hn⟩ : ∃ n, PF.fMan r = n := ⟨_, rfl⟩
  have HK := Lib.hid hk
  have HN := Lib.hid hn
  go_upto_if 78 with (fail)
  generalize htz : ((q : Int) == 0) = tz
  go_cut [14, 15] from 77 (fun e m wx => e = .int .i64 ((k : Int) + 1) ∧ m = .int .u64 (n : Int) ∧ w0.drewN nq = wx)
  case first =>
    cases tz with
    | true =>
      have hq0 : q = 0 := by have := beq_iff_eq.1 htz; omega
      have hk0 : k = 0 := by rw [← hk]; unfold PF.fExp; rw [HQF.out.1, hq0]
      have hn0 : n = f := by rw [← hn]; unfold PF.fMan; rw [HQF.out.1, hq0, if_pos rfl]; exact HQF.out.2
      clear htz hk hn
      go_wp2_with fail
      go_meet
      exact ⟨by rw [hk0]; rfl, by rw [hn0], rfl⟩
    | false =>
      have hq0 : q ≠ 0 := by have := beq_eq_false_iff_ne.1 htz; omega
      have hk0 : (k : Int) + 1 = q := by rw [← hk]; unfold PF.fExp; rw [HQF.out.1]; omega
      have hn0 : n = f + 4503599627370496 := by rw [← hn]; unfold PF.fMan; rw [HQF.out.1, if_neg hq0, HQF.out.2]
      clear htz hk hn
      go_wp2_with fail
      go_meet
      exact ⟨by rw [hk0], by rw [hn0]; rfl, rfl⟩
  case rest =>
    obtain ⟨rfl, rfl, rfl⟩ := hcut
    have hk45 : k ≤ 2045 := by rw [← hk]; unfold PF.fExp; rw [HQF.out.1]; omega
    clear htz b0 b1 b2 b3 c1 hk hn h65
    by_cases hn0 : n = 0
    · subst hn0
      have hr0 : r = 0 := by
        have h1 := HN.out
        have h2 := HQF.out
        unfold PF.fMan at h1
        split at h1 <;> omega
      have HF := Lib.hid (show Fs w0 g 0 [] [] g 24 (w0.drewN nq) from { own := HO.out, ds := fun t ht => absurd ht (Nat.not_lt_zero t), gb := fun h => absurd h (Nat.lt_irrefl 0), bel := below_drewN (Below.refl _ _) _, le := Nat.le_of_lt HG.out, bw := fun h => absurd h (Nat.lt_irrefl 0), len := Nat.zero_le _ })
      subst hr0
      have e : R = PF.fmtE neg [] 0 := HRR.out.symm
      go_wp2_with (go_at_call 222; go_must (refine (efg_e0 neg _ _ _ _ _ _ HF.out).mono ?_); rintro e w4 ⟨v, rfl, h4⟩)
      go_ret
      rw [e]
      exact ⟨v, rfl, h4.row⟩
    · have hr0 : 0 < r := by
        have h1 := HN.out
        have h2 := HQF.out
        unfold PF.fMan at h1
        split at h1 <;> omega
      obtain ⟨s, hs⟩ : ∃ s, PF.fSh r = s := ⟨_, rfl⟩
      obtain ⟨hN, hrk⟩ := PF.f_norm hr0 HR.out
      rw [HK.out, HN.out] at hN hrk
      rw [hs] at hN
      obtain ⟨s11, s63, _, _⟩ := hN.shift
      obtain ⟨Bn, hB⟩ : ∃ b, PF.blen n = b := ⟨_, rfl⟩
      have hs64 : (64 : Int) - (Bn : Int) = (s : Int) := by
        have h1 := fsh_blen (n := n) (by omega)
        have h2 : n.log2 < 53 := (Nat.log2_lt (by omega)).2 hN.n1
        have h3 : s = 63 - n.log2 := by rw [← hs]; unfold PF.fSh; rw [HN.out]
        rw [hB] at h1
        omega
      obtain ⟨m, hm⟩ : ∃ m, n * 2 ^ s = m := ⟨_, rfl⟩
      have hn53 := hN.n1
      have hm0 := hN.m0
      have hm1 := hN.m1
      rw [hm] at hm0 hm1
      have hshl : IntKind.u64.wrap ((n : Int) * 2 ^ s) = (m : Int) := by
        rw [w64, ← hm, Int.natCast_mul, Int.natCast_pow]
        have : (n : Int) * ((2 : Nat) : Int) ^ s = (m : Int) := by rw [← hm, Int.natCast_mul, Int.natCast_pow]
        rw [this]
        rw [show ((2 : Int)) = ((2 : Nat) : Int) from rfl, this]
        omega
      obtain ⟨Rs, hRs, hnear, d0, d1, pp1, pp2⟩ := PF.short_near HP.out hN
      rw [hm] at hRs
      have M132 := Lib.hid (fun w => len132 n (by omega) Bn hB w)
      have M229 := Lib.hid (fun w hw h15 => short229 T HT.out m hm0 hm1 ((k : Int) - 1074 - s) (by omega) (by omega) w hw h15)
      rw [hRs] at M229
      have hbA := (below_drewN (Below.refl w0.heap.size w0) nq).alloc (Nat.le_refl _) (.cells One.zeros32 281)
      have HEA := Lib.hid (HE.out.later hbA (by have := HG.out; omega))
      have HBA := Lib.hid hbA
      have HZA : Hid (((w0.drewN nq).alloc (.cells One.zeros32 281)).heap[w0.heap.size]? = some (.cells One.zeros32 281 (0, 0))) := Lib.hid (heap_alloc_new (w0.drewN nq) _)
      have HDD := Lib.hid (show PF.fDec (tabF T) r = (PF.trim48 (Lib.decDigits Rs.1), (Lib.nDigits Rs.1 : Int) + Rs.2) from by
        have e : PF.fShort (tabF T) r = Rs := by unfold PF.fShort; rw [HK.out, HN.out, hs, hm]; exact hRs
        unfold PF.fDec
        simp only
        rw [Nat.mod_eq_of_lt (by have := HR.out; omega), if_neg (by omega), e])
      clear hbA hB hRs hnear hs hN hrk hm
      go_wp2_with fail
      refine (M132.out _).mono ?_
      rintro e w1 ⟨rfl, rfl⟩
      go_wp2_with fail
      rw [show (k : Int) + 1 + -1023 - (s : Int) - 52 = (k : Int) - 1074 - s by omega]
      refine (M229.out _ HEA.out.pow (by have := HG.out; simp; omega)).mono ?_
      rintro e w2 ⟨rfl, hb2⟩
      have HB2 := Lib.hid (HBA.out.trans (hb2.mono (by simp)))
      have HZ2 := Lib.hid ((hb2.block w0.heap.size (by simp)).trans HZA.out)
      have HB2S := Lib.hid hb2
      have HE2 := Lib.hid (HEA.out.later hb2 (by have := HG.out; simp; omega))
      have HZ3 : Hid (w2.drew.heap[w0.heap.size]? = some (.cells One.zeros32 281 (0, 0))) := HZ2
      clear hb2
      obtain ⟨d, hd⟩ : ∃ d, Rs.1 = d := ⟨_, rfl⟩
      obtain ⟨pp, hpp⟩ : ∃ p, Rs.2 = p := ⟨_, rfl⟩
      rw [hd] at HDD d0 d1
      rw [hpp] at HDD pp1 pp2
      rw [hd, hpp]
      have hn17 := PF.nDigits17 d0 d1
      have MN := Lib.hid (fun w htab => nd_111 d (by omega) w htab)
      have hnd : nd d = Lib.nDigits d := by unfold nd; rw [if_neg (by omega)]
      rw [hnd] at MN
      obtain ⟨D, hD⟩ : ∃ D, PF.trim48 (Lib.decDigits d) = D := ⟨_, rfl⟩
      obtain ⟨dp, hdp⟩ : ∃ dp, (Lib.nDigits d : Int) + pp = dp := ⟨_, rfl⟩
      obtain ⟨z, tz, _, _, c0, t0, hct, _⟩ := PF.trim_dec d0
      rw [hD] at tz hct
      have hL1 : 1 ≤ D.length := by rw [hct]; simp
      have MS := Lib.hid (fun w h => set_224 d d0 (by omega) (by omega) pp (by omega) (by omega) w w0.heap.size h)
      rw [hD, hdp] at MS HDD
      obtain ⟨L, hL⟩ : ∃ L, D.length = L := ⟨_, rfl⟩
      rw [hL] at MS hL1 tz
      have HL := Lib.hid hL
      have dp1 : -900 ≤ dp := by omega
      have dp2 : dp ≤ 900 := by omega
      have hL17 : L ≤ 17 := by omega
      obtain ⟨P, rfl⟩ : ∃ P, L = P + 1 := ⟨L - 1, by omega⟩
      have hcs : ((P + 1 : Nat) : Int) = (P : Int) + 1 := rfl
      rw [hcs] at MS
      have mx1 : max ((P : Int) + 1 - 1) 0 = (P : Int) := by omega
      have mx2 : max (P : Int) 0 = (P : Int) := by omega
      clear hcs
      clear hD hdp hct hL tz
      go_wp2_with fail
      go_region_law (first
        | (go_simp; go_at_call 111; refine (MN.out _ HE2.out.drew.tab).mono ?_; rintro e w' ⟨rfl, rfl⟩)
        | (go_simp; go_at_call 224; refine (MS.out _ HZ3.out).mono ?_; rintro e w3 ⟨rfl, hc, hb3⟩))
      have hb4 : Below w0.heap.size w0 w3 := HB2.out.trans (show Below w0.heap.size w2 w3 from ⟨hb3.os, hb3.tape, hb3.output, hb3.size, hb3.block⟩)
      have hsz : w0.heap.size < w3.heap.size := by have h1 := HB2S.out.size; have h2 := hb3.size; simp at h1 h2; omega
      have HST := Lib.hid (show Fs w0 g w0.heap.size D [] g 24 w3 from { own := One.own_later HO.out hb4, ds := hc, gb := fun _ e => by have := HG.out; omega, bel := hb4.mono (Nat.le_of_lt HG.out), le := by have := HG.out; omega, bw := fun _ => hsz, len := Nat.zero_le _ })
      clear hc hb3 hb4 hsz
      have e : R = PF.fmtE neg D dp := by rw [← HRR.out, HDD.out]
      go_wp2_with (go_at_call 222; go_must (refine (efg_e D P HL.out (by omega) dp dp1 dp2 neg _ _ _ _ _ _ HST.out).mono ?_); rintro e w4 ⟨v, rfl, h4⟩)
      go_ret
      rw [e]
      exact ⟨v, rfl, h4.row⟩
set_option maxHeartbeats 8000000 in
theorem ftoa_f (T : Nat → Nat × Nat) (hT : TabLt T) (hP : PF.TabPow (tabF T)) (x : Nat) (hx : x < 18446744073709551616) (hfin : PF.Fin x) (w0 : World) (g : Nat) (hown : w0.ownsRow g 5 1 (.slice (some ⟨g, 0, none⟩) 0 24) 0 []) (hg : 15 < g) (henv : FEnv T w0) :
    Calls Tryz.prog 187 #[.slice (some ⟨g, 0, none⟩) 0 24, .float .f64 x, .int .u8 102, .int .i64 (-1)] w0 fun e w' => ∃ v, e = .returned v ∧ RowAt w0 g (PF.fmtF (decide (9223372036854775808 ≤ x)) (PF.fDec (tabF T) (x % 9223372036854775808)).1 (PF.fDec (tabF T) (x % 9223372036854775808)).2) v w' := by
  obtain ⟨neg, hneg⟩ : ∃ b, decide (9223372036854775808 ≤ x) = b := ⟨_, rfl⟩
  obtain ⟨r, hr⟩ : ∃ r, x % 9223372036854775808 = r := ⟨_, rfl⟩
  have hr2 : r < 9218868437227405312 := by rw [← hr]; exact hfin
  obtain ⟨q, hq⟩ : ∃ q, r / 4503599627370496 = q := ⟨_, rfl⟩
  obtain ⟨f, hf⟩ : ∃ f, r % 4503599627370496 = f := ⟨_, rfl⟩
  have hq2 : q ≤ 2046 := by omega
  have hf2 : f < 4503599627370496 := by omega
  rw [hneg, hr]
  obtain ⟨R, hRR⟩ : ∃ R, PF.fmtF neg (PF.fDec (tabF T) r).1 (PF.fDec (tabF T) r).2 = R := ⟨_, rfl⟩
  have HRR := Lib.hid hRR
  rw [hRR]
  clear hRR
  have h65 := bits219 x
  have b0 : ((x : Int) / 9223372036854775808 != 0) = neg := by
    rw [← hneg]
    by_cases h : 9223372036854775808 ≤ x
    · rw [decide_eq_true h, bne_iff_ne]; omega
    · rw [decide_eq_false h, bne_eq_false_iff_eq]; omega
  have b3 : bits BinOp.and IntKind.i64 ((x : Int) / 4503599627370496) 2047 = (q : Int) := by
    have := and_2047 (x / 4503599627370496) (by omega)
    rw [show x / 4503599627370496 % 2048 = q by omega] at this
    exact this
  have b1 : bits BinOp.and IntKind.u64 (x : Int) 4503599627370495 = (f : Int) := by
    have := bits_and_u64_nat x 4503599627370495 hx (by omega)
    rw [show (4503599627370495 : Nat) = 2 ^ 52 - 1 from rfl, Nat.and_two_pow_sub_one_eq_mod] at this
    have e : x % 2 ^ 52 = f := by omega
    rw [e] at this
    exact this
  have b2 : bits BinOp.or IntKind.u64 (f : Int) 4503599627370496 = ((f + 4503599627370496 : Nat) : Int) := by
    have := bits_or_u64_nat f 4503599627370496 (by omega) (by omega)
    have e : f ||| 4503599627370496 = f + 4503599627370496 := by
      have := Nat.two_pow_add_eq_or_of_lt (i := 52) hf2 1
      rw [Nat.or_comm, ← this]
      omega
    rw [e] at this
    exact this
  have c1 : ((q : Int) == 2047) = false := by rw [beq_eq_false_iff_ne]; omega
  have hgs := (hown.lt g rfl).2
  have HG := Lib.hid hgs
  have HO := Lib.hid hown
  have HE := Lib.hid henv
  have HT := Lib.hid hT
  have HP := Lib.hid hP
  have HR := Lib.hid hr2
  have HQF := Lib.hid (show r / 4503599627370496 = q ∧ r % 4503599627370496 = f from ⟨hq, hf⟩)
  clear hgs hown henv hT hP hr hr2 hq hf hneg hfin
  go_enter Tryz.func187, Tryz.ntmps187
  go_wp2_with fail
  go_quiet (fail)
  obtain ⟨k, hk⟩ : ∃ k, PF.fExp r = k := ⟨_, rfl⟩
  obtain ⟨n, hn⟩ : ∃ n, PF.fMan r = n := ⟨_, rfl⟩
  have HK := Lib.hid hk
  have HN := Lib.hid hn
  go_upto_if 78 with (fail)
  generalize htz : ((q : Int) == 0) = tz
  go_cut [14, 15] from 77 (fun e m wx => e = .int .i64 ((k : Int) + 1) ∧ m = .int .u64 (n : Int) ∧ w0.drewN nq = wx)
  case first =>
    cases tz with
    | true =>
      have hq0 : q = 0 := by have := beq_iff_eq.1 htz; omega
      have hk0 : k = 0 := by rw [← hk]; unfold PF.fExp; rw [HQF.out.1, hq0]
      have hn0 : n = f := by rw [← hn]; unfold PF.fMan; rw [HQF.out.1, hq0, if_pos rfl]; exact HQF.out.2
      clear htz hk hn
      go_wp2_with fail
      go_meet
      exact ⟨by rw [hk0]; rfl, by rw [hn0], rfl⟩
    | false =>
      have hq0 : q ≠ 0 := by have := beq_eq_false_iff_ne.1 htz; omega
      have hk0 : (k : Int) + 1 = q := by rw [← hk]; unfold PF.fExp; rw [HQF.out.1]; omega
      have hn0 : n = f + 4503599627370496 := by rw [← hn]; unfold PF.fMan; rw [HQF.out.1, if_neg hq0, HQF.out.2]
      clear htz hk hn
      go_wp2_with fail
      go_meet
      exact ⟨by rw [hk0], by rw [hn0]; rfl, rfl⟩
  case rest =>
    obtain ⟨rfl, rfl, rfl⟩ := hcut
    have hk45 : k ≤ 2045 := by rw [← hk]; unfold PF.fExp; rw [HQF.out.1]; omega
    clear htz b0 b1 b2 b3 c1 hk hn h65
    by_cases hn0 : n = 0
    · subst hn0
      have hr0 : r = 0 := by
        have h1 := HN.out
        have h2 := HQF.out
        unfold PF.fMan at h1
        split at h1 <;> omega
      have HF := Lib.hid (show Fs w0 g 0 [] [] g 24 (w0.drewN nq) from { own := HO.out, ds := fun t ht => absurd ht (Nat.not_lt_zero t), gb := fun h => absurd h (Nat.lt_irrefl 0), bel := below_drewN (Below.refl _ _) _, le := Nat.le_of_lt HG.out, bw := fun h => absurd h (Nat.lt_irrefl 0), len := Nat.zero_le _ })
      subst hr0
      have e : R = PF.fmtF neg [] 0 := HRR.out.symm
      go_wp2_with (go_at_call 222; go_must (refine (efg_f0 neg _ _ _ _ _ _ HF.out).mono ?_); rintro e w4 ⟨v, rfl, h4⟩)
      go_ret
      rw [e]
      exact ⟨v, rfl, h4.row⟩
    · have hr0 : 0 < r := by
        have h1 := HN.out
        have h2 := HQF.out
        unfold PF.fMan at h1
        split at h1 <;> omega
      obtain ⟨s, hs⟩ : ∃ s, PF.fSh r = s := ⟨_, rfl⟩
      obtain ⟨hN, hrk⟩ := PF.f_norm hr0 HR.out
      rw [HK.out, HN.out] at hN hrk
      rw [hs] at hN
      obtain ⟨s11, s63, _, _⟩ := hN.shift
      obtain ⟨Bn, hB⟩ : ∃ b, PF.blen n = b := ⟨_, rfl⟩
      have hs64 : (64 : Int) - (Bn : Int) = (s : Int) := by
        have h1 := fsh_blen (n := n) (by omega)
        have h2 : n.log2 < 53 := (Nat.log2_lt (by omega)).2 hN.n1
        have h3 : s = 63 - n.log2 := by rw [← hs]; unfold PF.fSh; rw [HN.out]
        rw [hB] at h1
        omega
      obtain ⟨m, hm⟩ : ∃ m, n * 2 ^ s = m := ⟨_, rfl⟩
      have hn53 := hN.n1
      have hm0 := hN.m0
      have hm1 := hN.m1
      rw [hm] at hm0 hm1
      have hshl : IntKind.u64.wrap ((n : Int) * 2 ^ s) = (m : Int) := by
        rw [w64, ← hm, Int.natCast_mul, Int.natCast_pow]
        have : (n : Int) * ((2 : Nat) : Int) ^ s = (m : Int) := by rw [← hm, Int.natCast_mul, Int.natCast_pow]
        rw [this]
        rw [show ((2 : Int)) = ((2 : Nat) : Int) from rfl, this]
        omega
      obtain ⟨Rs, hRs, hnear, d0, d1, pp1, pp2⟩ := PF.short_near HP.out hN
      rw [hm] at hRs
      have M132 := Lib.hid (fun w => len132 n (by omega) Bn hB w)
      have M229 := Lib.hid (fun w hw h15 => short229 T HT.out m hm0 hm1 ((k : Int) - 1074 - s) (by omega) (by omega) w hw h15)
      rw [hRs] at M229
      have hbA := (below_drewN (Below.refl w0.heap.size w0) nq).alloc (Nat.le_refl _) (.cells One.zeros32 281)
      have HEA := Lib.hid (HE.out.later hbA (by have := HG.out; omega))
      have HBA := Lib.hid hbA
      have HZA : Hid (((w0.drewN nq).alloc (.cells One.zeros32 281)).heap[w0.heap.size]? = some (.cells One.zeros32 281 (0, 0))) := Lib.hid (heap_alloc_new (w0.drewN nq) _)
      have HDD := Lib.hid (show PF.fDec (tabF T) r = (PF.trim48 (Lib.decDigits Rs.1), (Lib.nDigits Rs.1 : Int) + Rs.2) from by
        have e : PF.fShort (tabF T) r = Rs := by unfold PF.fShort; rw [HK.out, HN.out, hs, hm]; exact hRs
        unfold PF.fDec
        simp only
        rw [Nat.mod_eq_of_lt (by have := HR.out; omega), if_neg (by omega), e])
      clear hbA hB hRs hnear hs hN hrk hm
      go_wp2_with fail
      refine (M132.out _).mono ?_
      rintro e w1 ⟨rfl, rfl⟩
      go_wp2_with fail
      rw [show (k : Int) + 1 + -1023 - (s : Int) - 52 = (k : Int) - 1074 - s by omega]
      refine (M229.out _ HEA.out.pow (by have := HG.out; simp; omega)).mono ?_
      rintro e w2 ⟨rfl, hb2⟩
      have HB2 := Lib.hid (HBA.out.trans (hb2.mono (by simp)))
      have HZ2 := Lib.hid ((hb2.block w0.heap.size (by simp)).trans HZA.out)
      have HB2S := Lib.hid hb2
      have HE2 := Lib.hid (HEA.out.later hb2 (by have := HG.out; simp; omega))
      have HZ3 : Hid (w2.drew.heap[w0.heap.size]? = some (.cells One.zeros32 281 (0, 0))) := HZ2
      clear hb2
      obtain ⟨d, hd⟩ : ∃ d, Rs.1 = d := ⟨_, rfl⟩
      obtain ⟨pp, hpp⟩ : ∃ p, Rs.2 = p := ⟨_, rfl⟩
      rw [hd] at HDD d0 d1
      rw [hpp] at HDD pp1 pp2
      rw [hd, hpp]
      have hn17 := PF.nDigits17 d0 d1
      have MN := Lib.hid (fun w htab => nd_111 d (by omega) w htab)
      have hnd : nd d = Lib.nDigits d := by unfold nd; rw [if_neg (by omega)]
      rw [hnd] at MN
      obtain ⟨D, hD⟩ : ∃ D, PF.trim48 (Lib.decDigits d) = D := ⟨_, rfl⟩
      obtain ⟨dp, hdp⟩ : ∃ dp, (Lib.nDigits d : Int) + pp = dp := ⟨_, rfl⟩
      obtain ⟨z, tz, _, _, c0, t0, hct, _⟩ := PF.trim_dec d0
      rw [hD] at tz hct
      have hL1 : 1 ≤ D.length := by rw [hct]; simp
      have MS := Lib.hid (fun w h => set_224 d d0 (by omega) (by omega) pp (by omega) (by omega) w w0.heap.size h)
      rw [hD, hdp] at MS HDD
      obtain ⟨L, hL⟩ : ∃ L, D.length = L := ⟨_, rfl⟩
      rw [hL] at MS hL1 tz
      have HL := Lib.hid hL
      have dp1 : -900 ≤ dp := by omega
      have dp2 : dp ≤ 900 := by omega
      have hL17 : L ≤ 17 := by omega
      obtain ⟨Q, hQ⟩ : ∃ Q, max ((L : Int) - dp) 0 = Q := ⟨_, rfl⟩
      have HQ := Lib.hid hQ.symm
      clear hD hdp hct hL tz
      go_wp2_with fail
      go_region_law (first
        | (go_simp; go_at_call 111; refine (MN.out _ HE2.out.drew.tab).mono ?_; rintro e w' ⟨rfl, rfl⟩)
        | (go_simp; go_at_call 224; refine (MS.out _ HZ3.out).mono ?_; rintro e w3 ⟨rfl, hc, hb3⟩))
      have hb4 : Below w0.heap.size w0 w3 := HB2.out.trans (show Below w0.heap.size w2 w3 from ⟨hb3.os, hb3.tape, hb3.output, hb3.size, hb3.block⟩)
      have hsz : w0.heap.size < w3.heap.size := by have h1 := HB2S.out.size; have h2 := hb3.size; simp at h1 h2; omega
      have HST := Lib.hid (show Fs w0 g w0.heap.size D [] g 24 w3 from { own := One.own_later HO.out hb4, ds := hc, gb := fun _ e => by have := HG.out; omega, bel := hb4.mono (Nat.le_of_lt HG.out), le := by have := HG.out; omega, bw := fun _ => hsz, len := Nat.zero_le _ })
      clear hc hb3 hb4 hsz
      have e : R = PF.fmtF neg D dp := by rw [← HRR.out, HDD.out]
      go_wp2_with (go_at_call 222; go_must (refine (efg_f D L HL.out hL1 (by omega) dp dp1 dp2 neg Q HQ.out _ _ _ _ _ _ HST.out).mono ?_); rintro e w4 ⟨v, rfl, h4⟩)
      go_ret
      rw [e]
      exact ⟨v, rfl, h4.row⟩
end Go.Proofs.YtagiddbfhlokcaaGreatDoor.Ff
/- Printing a float: FormatFloat at 'e' and at 'f'. Conditions: the tables of powers. -/
namespace Go.Proofs.YtagiddbfhlokcaaGreatDoor.Ff
open Go.RowKit
set_option maxRecDepth 100000
/-- A float's bits, cut in two. -/
def txE (T : Nat → Nat × Nat) (x : Nat) : List UInt8 := PF.fmtE (decide (9223372036854775808 ≤ x)) (PF.fDec (tabF T) (x % 9223372036854775808)).1 (PF.fDec (tabF T) (x % 9223372036854775808)).2
def txF (T : Nat → Nat × Nat) (x : Nat) : List UInt8 := PF.fmtF (decide (9223372036854775808 ≤ x)) (PF.fDec (tabF T) (x % 9223372036854775808)).1 (PF.fDec (tabF T) (x % 9223372036854775808)).2
theorem iform_e (T : Nat → Nat × Nat) (hT : TabLt T) (hP : PF.TabPow (tabF T)) (x : Nat) (hx : x < 18446744073709551616) (hfin : PF.Fin x) (w0 : World) (henv : FEnv T w0) (h8 : 15 < w0.heap.size) :
    Calls Tryz.prog 150 #[.float .f64 x, .int .u8 101, .int .i64 (-1), .int .i64 64] w0 fun e w' => e = .returned (.string ⟨(txE T x).toArray⟩) ∧ Below w0.heap.size w0 w' := by
  obtain ⟨i0, hi, hz0, hz1, hz2⟩ := info_parts One.info5
  have HI := Lib.hid hi
  have HZ0 := Lib.hid hz0
  have HZ1 := Lib.hid hz1
  have HZ2 := Lib.hid hz2
  have HE := Lib.hid henv
  have H8 := Lib.hid h8
  have M := Lib.hid (fun w0 g hown hg henv => ftoa_e T hT hP x hx hfin w0 g hown hg henv)
  have e : PF.fmtE (decide (9223372036854775808 ≤ x)) (PF.fDec (tabF T) (x % 9223372036854775808)).1 (PF.fDec (tabF T) (x % 9223372036854775808)).2 = txE T x := rfl
  rw [e] at M
  obtain ⟨R, hR⟩ : ∃ R, txE T x = R := ⟨_, rfl⟩
  rw [hR] at M ⊢
  clear hi hz0 hz1 hz2 henv h8 e hR hT hP hfin
  go_enter Tryz.func150, Tryz.ntmps150
  go_wp2_with (first
    | (refine wpList_make_own w0 rfl _ _ 59 rfl w0.heap.size 5 i0 (.int .u8 0) 1 Tryz.underlying59 HI.out HZ0.out HZ1.out .i64 .i64 24 24 rfl rfl rfl (by rw [HZ2.out]; omega) (by unfold maxLen; omega) (Nat.le_refl _) ?_; intro w1 hown hgrow; have HO1 := Lib.hid hown; have HB1 := Lib.hid ((Below.refl w0.heap.size w0).grown hgrow (Nat.le_refl _) (fun j hj => by cases hj)); have HE1 := Lib.hid (HE.out.later HB1.out H8.out); clear hown hgrow)
    | (go_at_call 187; refine (M.out _ w0.heap.size HO1.out H8.out HE1.out).mono ?_; rintro e w' ⟨v, rfl, g2, c2, rfl, ho, hb⟩; have hcv := One.str_of_own R ho; have HB2 := Lib.hid hb; clear ho hb))
  go_ret
  exact ⟨rfl, HB1.out.trans HB2.out⟩
theorem form_e (T : Nat → Nat × Nat) (hT : TabLt T) (hP : PF.TabPow (tabF T)) (x : Nat) (hx : x < 18446744073709551616) (hfin : PF.Fin x) (w0 : World) (henv : FEnv T w0) (h8 : 15 < w0.heap.size) :
    Calls Tryz.prog 101 #[.float .f64 x, .int .u8 101, .int .i64 (-1), .int .i64 64] w0 fun e w' => e = .returned (.string ⟨(txE T x).toArray⟩) ∧ Below w0.heap.size w0 w' := by
  have M := Lib.hid (iform_e T hT hP x hx hfin w0 henv h8)
  clear hT hP hfin henv h8
  go_enter Tryz.func101, Tryz.ntmps101
  go_wp2_with (go_at_call 150; refine M.out.mono ?_; rintro e w' ⟨rfl, hb⟩)
  go_ret
  exact ⟨rfl, hb⟩
theorem iform_f (T : Nat → Nat × Nat) (hT : TabLt T) (hP : PF.TabPow (tabF T)) (x : Nat) (hx : x < 18446744073709551616) (hfin : PF.Fin x) (w0 : World) (henv : FEnv T w0) (h8 : 15 < w0.heap.size) :
    Calls Tryz.prog 150 #[.float .f64 x, .int .u8 102, .int .i64 (-1), .int .i64 64] w0 fun e w' => e = .returned (.string ⟨(txF T x).toArray⟩) ∧ Below w0.heap.size w0 w' := by
  obtain ⟨i0, hi, hz0, hz1, hz2⟩ := info_parts One.info5
  have HI := Lib.hid hi
  have HZ0 := Lib.hid hz0
  have HZ1 := Lib.hid hz1
  have HZ2 := Lib.hid hz2
  have HE := Lib.hid henv
  have H8 := Lib.hid h8
  have M := Lib.hid (fun w0 g hown hg henv => ftoa_f T hT hP x hx hfin w0 g hown hg henv)
  have e : PF.fmtF (decide (9223372036854775808 ≤ x)) (PF.fDec (tabF T) (x % 9223372036854775808)).1 (PF.fDec (tabF T) (x % 9223372036854775808)).2 = txF T x := rfl
  rw [e] at M
  obtain ⟨R, hR⟩ : ∃ R, txF T x = R := ⟨_, rfl⟩
  rw [hR] at M ⊢
  clear hi hz0 hz1 hz2 henv h8 e hR hT hP hfin
  go_enter Tryz.func150, Tryz.ntmps150
  go_wp2_with (first
    | (refine wpList_make_own w0 rfl _ _ 59 rfl w0.heap.size 5 i0 (.int .u8 0) 1 Tryz.underlying59 HI.out HZ0.out HZ1.out .i64 .i64 24 24 rfl rfl rfl (by rw [HZ2.out]; omega) (by unfold maxLen; omega) (Nat.le_refl _) ?_; intro w1 hown hgrow; have HO1 := Lib.hid hown; have HB1 := Lib.hid ((Below.refl w0.heap.size w0).grown hgrow (Nat.le_refl _) (fun j hj => by cases hj)); have HE1 := Lib.hid (HE.out.later HB1.out H8.out); clear hown hgrow)
    | (go_at_call 187; refine (M.out _ w0.heap.size HO1.out H8.out HE1.out).mono ?_; rintro e w' ⟨v, rfl, g2, c2, rfl, ho, hb⟩; have hcv := One.str_of_own R ho; have HB2 := Lib.hid hb; clear ho hb))
  go_ret
  exact ⟨rfl, HB1.out.trans HB2.out⟩
theorem form_f (T : Nat → Nat × Nat) (hT : TabLt T) (hP : PF.TabPow (tabF T)) (x : Nat) (hx : x < 18446744073709551616) (hfin : PF.Fin x) (w0 : World) (henv : FEnv T w0) (h8 : 15 < w0.heap.size) :
    Calls Tryz.prog 101 #[.float .f64 x, .int .u8 102, .int .i64 (-1), .int .i64 64] w0 fun e w' => e = .returned (.string ⟨(txF T x).toArray⟩) ∧ Below w0.heap.size w0 w' := by
  have M := Lib.hid (iform_f T hT hP x hx hfin w0 henv h8)
  clear hT hP hfin henv h8
  go_enter Tryz.func101, Tryz.ntmps101
  go_wp2_with (go_at_call 150; refine M.out.mono ?_; rintro e w' ⟨rfl, hb⟩)
  go_ret
  exact ⟨rfl, hb⟩
end Go.Proofs.YtagiddbfhlokcaaGreatDoor.Ff
