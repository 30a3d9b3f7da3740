/- Several texts of this proof, laid together. Conditions: as each says. -/
import Derived.Test.YtagiddbfhlokcaaGreatDoorVBQ
import Derived.Test.YtagiddbfhlokcaaGreatDoorVBI
import Derived.Laws.IdiomStrings
import Derived.Test.YtagiddbfhlokcaaGreatDoorVBG
/- The law LineParses: both readers of a line answer alike. Conditions: the text's length; the tables. -/
namespace Go.Proofs.YtagiddbfhlokcaaGreatDoor.Ser
open Go.RowKit Go.Sort
set_option maxRecDepth 100000
theorem wrap_u64 (z : Int) : 0 ≤ IntKind.wrap .u64 z ∧ IntKind.wrap .u64 z < 18446744073709551616 := by
  simp only [IntKind.wrap]
  constructor
  · exact Int.emod_nonneg _ (by decide)
  · exact Int.emod_lt_of_pos _ (by decide)
theorem V0_val (l : List UInt8) : ∃ k b t n, V0 l = (val k b t, n) ∧ 0 ≤ b ∧ b < 18446744073709551616 := by
  unfold V0 valP
  split
  · exact ⟨_, _, _, _, rfl, by decide, by decide⟩
  split
  · exact ⟨_, _, _, _, rfl, by decide, by decide⟩
  split
  · unfold unqV
    split
    · exact ⟨_, _, _, _, rfl, by decide, by decide⟩
    · split
      · exact ⟨_, _, _, _, rfl, by decide, by decide⟩
      · exact ⟨_, _, _, _, rfl, by decide, by decide⟩
  split
  · split
    · exact ⟨_, _, _, _, rfl, (wrap_u64 _).1, (wrap_u64 _).2⟩
    · exact ⟨_, _, _, _, rfl, by decide, by decide⟩
  split
  · split
    · exact ⟨_, _, _, _, rfl, by decide, by decide⟩
    · refine ⟨_, _, _, _, rfl, by omega, ?_⟩
      have := (PF.atof_fin (T := tabF TT) (fun p => (tt_lt _).1) ff_ok l).2.2
      omega
  · exact ⟨_, _, _, _, rfl, by decide, by decide⟩
theorem readers_of {w : World} (hm : laidMet Tryz.prog Laid.lst w) : Readers V0 w ∧ RReaders V0 w := by
  obtain ⟨B2, o2, B, o, hp⟩ := penv_of hm
  obtain ⟨tp, p, her⟩ := er_of hm
  refine ⟨⟨fun l hl w2 h => parse22 l hl w2 (hp.below h) ((h.cell (cell_lt her)).trans her) (.inr ⟨_, _, rfl⟩), fun l hl w2 h => int43 l (by omega) w2 ((h.cell (cell_lt her)).trans her) (.inr ⟨_, _, rfl⟩), V0_val⟩, ⟨fun l hl w2 h => parse21 l hl w2 (hp.below h) ((h.cell (cell_lt her)).trans her) (.inr ⟨_, _, rfl⟩), V0_val⟩⟩
theorem Readers.later {V : List UInt8 → Value × Int} {w w' : World} (h : Readers V w) (hb : Below w.heap.size w w') : Readers V w' :=
  ⟨fun l hl w2 h2 => h.v l hl w2 (hb.trans (h2.mono hb.size)), fun l hl w2 h2 => h.i l hl w2 (hb.trans (h2.mono hb.size)), h.f⟩
theorem RReaders.later {V : List UInt8 → Value × Int} {w w' : World} (h : RReaders V w) (hb : Below w.heap.size w w') : RReaders V w' :=
  ⟨fun l hl w2 h2 => h.v l hl w2 (hb.trans (h2.mono hb.size)), h.f⟩
end Go.Proofs.YtagiddbfhlokcaaGreatDoor.Ser
/- The law LineParses walked. Conditions: the text's length; the tables. -/
namespace Go.Proofs.YtagiddbfhlokcaaGreatDoor.Ser
open Go.RowKit Go.Sort
set_option maxRecDepth 100000
def cont (R : LR) : ByteArray × List Tg × List Fd × Int := R.2.getD (⟨#[]⟩, [], [], 0)
/-- A row's value holds what was read. -/
structure RowIs (R : LR) (w : World) (nm : ByteArray) (a : Option Addr) (n : Nat) (fa : Option Addr) (m : Nat) (t : Int) : Prop where
  name : nm = (cont R).1
  tn : n = (cont R).2.1.length
  fn : m = (cont R).2.2.1.length
  tm : t = (cont R).2.2.2
  tags : TagsAt w a n (kOf (cont R).2.1) (vOf (cont R).2.1)
  fields : FieldsAt w fa (cont R).2.2.1
theorem RowIs.later {R : LR} {w w' : World} {nm : ByteArray} {a fa : Option Addr} {n m : Nat} {t : Int} (h : RowIs R w nm a n fa m t) (hb : Below w.heap.size w w') : RowIs R w' nm a n fa m t :=
  ⟨h.name, h.tn, h.fn, h.tm, fun i hi => by
    obtain ⟨b, off, h1, h2, h3, h4⟩ := h.tags i hi
    exact ⟨b, off, h1, Nat.lt_of_lt_of_le h2 hb.size, by rw [← h3]; exact hb.cell h2, by rw [← h4]; exact hb.cell h2⟩, h.fields.later hb⟩
theorem RowIs.same {R : LR} {w : World} {nm nm' : ByteArray} {a fa a' fa' : Option Addr} {n m n' m' : Nat} {t t' : Int} (c fc c' fc' : Nat) (h : RowIs R w nm a n fa m t) (h' : RowIs R w nm' a' n' fa' m' t') (hs : (cont R).2.1.length ≤ 8 ∧ (cont R).2.2.1.length ≤ 16) :
    Calls Tryz.prog 13 #[.agg #[.string nm, .slice a n c, .slice fa m fc, .int .i64 t], .agg #[.string nm', .slice a' n' c', .slice fa' m' fc', .int .i64 t']] w (Answer (.bool true) w) := by
  obtain ⟨rfl, rfl, rfl, rfl, h1, h2⟩ := h
  obtain ⟨rfl, rfl, rfl, rfl, h3, h4⟩ := h'
  exact same13 _ _ _ _ _ _ _ _ _ _ _ _ _ _ _ (by omega) (by omega) h1 h3 h2 h4
end Go.Proofs.YtagiddbfhlokcaaGreatDoor.Ser
/- The law LineTurned walked. Conditions: the row's memory; the tables. -/
namespace Go.Proofs.YtagiddbfhlokcaaGreatDoor.Ser
open Go.RowKit Go.Sort Ff
set_option maxRecDepth 100000
theorem tabpow_tt : PF.TabPow (tabF TT) := by
  have key : (List.range 696).all (fun k => decide (0 < PF.aD ((k : Int) - 348)) && decide ((TT k).1 < PF.two64) && decide ((TT k).2 < PF.two64) && decide (9223372036854775808 ≤ (TT k).1) && decide (PF.aP ((k : Int) - 348) * 2 ^ 127 ≤ ((TT k).1 * PF.two64 - (TT k).2) * PF.aD ((k : Int) - 348)) && decide (((TT k).1 * PF.two64 - (TT k).2) * PF.aD ((k : Int) - 348) < PF.aP ((k : Int) - 348) * 2 ^ 127 + PF.aD ((k : Int) - 348))) = true := by decide +kernel
  intro p h1 h2
  have h := List.all_eq_true.1 key (p + 348).toNat (List.mem_range.2 (by omega))
  rw [show (((p + 348).toNat : Nat) : Int) - 348 = p by omega] at h
  simp only [Bool.and_eq_true, decide_eq_true_eq] at h
  obtain ⟨⟨⟨⟨⟨a, b⟩, c⟩, d⟩, e⟩, f⟩ := h
  exact ⟨a, b, c, d, e, f⟩
theorem fenv_of {W : World} (h : laidMet Tryz.prog Laid.lst W) : FEnv TT W ∧ 15 < W.heap.size := by
  obtain ⟨B2, o2, B, o, hp⟩ := penv_of h
  obtain ⟨h1, h2⟩ := one_env h
  exact ⟨⟨hp.pow, h1.tab⟩, h2⟩
end Go.Proofs.YtagiddbfhlokcaaGreatDoor.Ser
/- The law ValueBack walked. Conditions: the tables. -/
namespace Go.Proofs.YtagiddbfhlokcaaGreatDoor.Ser
open Go.RowKit Go.Sort Ff
set_option maxRecDepth 100000
theorem tabten_ff : PF.TabTen FF := by
  have key : (List.range 23).all (fun k => decide (FF k < 9218868437227405312) && decide (PF.magR (FF k) = 10 ^ k * 2 ^ 1074)) = true := by decide +kernel
  intro k hk
  have h := List.all_eq_true.1 key k (List.mem_range.2 (by omega))
  rw [Bool.and_eq_true, decide_eq_true_eq, decide_eq_true_eq] at h
  exact h
theorem V0_pv {k : Int} {x : Nat} {t : ByteArray} (hx : x < 18446744073709551616) (h : formV k (x : Int) t = true) : V0 (pv TT k x t) = (val k (x : Int) t, 0) := valP_pv tabpow_tt tabten_ff hx h
set_option maxHeartbeats 4000000 in
theorem back_23 (k : Int) (x : Nat) (t : ByteArray) (hx : x < 18446744073709551616) (w : World) (henv : FEnv TT w) (h15 : 15 < w.heap.size) (HV : Readers V0 w) :
    Calls Tryz.prog 23 #[.agg #[.int .i64 k, .int .u64 (x : Int), .string t]] w (Answer (.bool true) w) := by
  have hba : Below w.heap.size w (w.alloc (.cells #[.int .i64 k, .int .u64 (x : Int), .string t] 53 (0, 0))) := (Below.refl _ _).alloc (Nat.le_refl _) _
  have hnew := newest w (.cells #[.int .i64 k, .int .u64 (x : Int), .string t] 53 (0, 0))
  have hlt : w.heap.size < (w.alloc (.cells #[.int .i64 k, .int .u64 (x : Int), .string t] 53 (0, 0))).heap.size := by simp
  have M27 := Lib.hid (fun w2 (hb : Below w.heap.size w w2) => vprint_27 TT tt_lt tabpow_tt k x t hx w2 (henv.later hb h15) (Nat.lt_of_lt_of_le h15 hb.size))
  have M59 := Lib.hid (fun w2 => formed59 k x t hx w2)
  have M22 := Lib.hid (fun (h : formV k (x : Int) t = true) w2 (hb : Below w.heap.size w w2) => HV.v (pv TT k x t) (by have := pv_len tabpow_tt hx h; omega) w2 hb)
  have HP := Lib.hid (fun h => V0_pv (k := k) (x := x) (t := t) hx h)
  unfold RPost at M27
  obtain ⟨r, hr⟩ : ∃ r, formV k (x : Int) t = r := ⟨_, rfl⟩
  rw [hr] at M27 M59 M22 HP
  obtain ⟨L, hL⟩ : ∃ L, pv TT k x t = L := ⟨_, rfl⟩
  rw [hL] at M27 M22 HP
  clear henv h15 HV hr hL
  have z0 : (w.alloc (.cells #[.int .i64 k, .int .u64 (x : Int), .string t] 53 (0, 0))).cell? ⟨w.heap.size, 0, none⟩ = some (.int .i64 k) := Lib.cell_of_heap hnew 0
  have z1 : (w.alloc (.cells #[.int .i64 k, .int .u64 (x : Int), .string t] 53 (0, 0))).cell? ⟨w.heap.size, 1, none⟩ = some (.int .u64 (x : Int)) := Lib.cell_of_heap hnew 1
  have z2 : (w.alloc (.cells #[.int .i64 k, .int .u64 (x : Int), .string t] 53 (0, 0))).cell? ⟨w.heap.size, 2, none⟩ = some (.string t) := Lib.cell_of_heap hnew 2
  have HBA := Lib.hid hba
  have HNEW := Lib.hid hnew
  have HLT := Lib.hid hlt
  clear hba hnew hlt
  go_enter Tryz.func23, Tryz.ntmps23
  go_wp2_with fail
  refine (M27.out _ HBA.out).mono ?_
  rintro e w2 ⟨rfl, hb2⟩
  have hk := (hb2.block _ HLT.out).trans HNEW.out
  have c0 : w2.cell? ⟨w.heap.size, 0, none⟩ = some (.int .i64 k) := Lib.cell_of_heap hk 0
  have c1 : w2.cell? ⟨w.heap.size, 1, none⟩ = some (.int .u64 (x : Int)) := Lib.cell_of_heap hk 1
  have c2 : w2.cell? ⟨w.heap.size, 2, none⟩ = some (.string t) := Lib.cell_of_heap hk 2
  have HK := Lib.hid hk
  have HB2 := Lib.hid (HBA.out.trans (hb2.mono HBA.out.size))
  have HL2 := Lib.hid (Nat.lt_of_lt_of_le HLT.out hb2.size)
  clear hb2 hk z0 z1 z2
  cases r with
  | false =>
    go_wp2_with (go_at_call 59; refine (M59.out _).mono ?_; rintro e w3 ⟨rfl, hb3⟩; have HB3 := Lib.hid hb3; clear hb3)
    go_ret
    exact ⟨rfl, HB2.out.trans (HB3.out.mono HB2.out.size)⟩
  | true =>
    rw [if_pos rfl, if_pos rfl]
    go_wp2_with fail
    refine (M22.out trivial _ HB2.out).mono ?_
    rw [HP.out trivial]
    unfold val
    rintro e w3 ⟨rfl, hb3⟩
    have hk := (hb3.block _ HL2.out).trans HK.out
    have d0 : w3.cell? ⟨w.heap.size, 0, none⟩ = some (.int .i64 k) := Lib.cell_of_heap hk 0
    have d1 : w3.cell? ⟨w.heap.size, 1, none⟩ = some (.int .u64 (x : Int)) := Lib.cell_of_heap hk 1
    have d2 : w3.cell? ⟨w.heap.size, 2, none⟩ = some (.string t) := Lib.cell_of_heap hk 2
    have hl3 : w.heap.size < w3.heap.size := Nat.lt_of_lt_of_le HL2.out hb3.size
    have HB3 := Lib.hid (HB2.out.trans (hb3.mono HB2.out.size))
    clear hb3 hk c0 c1 c2
    go_wp2_with fail
    go_ret
    exact ⟨rfl, HB3.out.alloc HB3.out.size _⟩
set_option maxHeartbeats 4000000 in
theorem law7 (k : Int) (x : Nat) (t : ByteArray) (hx : x < 18446744073709551616) (b : Nat) (hb : b < 18446744073709551616) (w : World) (hm : laidMet Tryz.prog Laid.lst w) :
    Calls Tryz.prog 7 #[.agg #[.int .i64 k, .int .u64 (x : Int), .string t], .int .u64 (b : Int)] w (Answer (.bool true) w) := by
  obtain ⟨h1, h2⟩ := readers_of hm
  obtain ⟨henv, h15⟩ := fenv_of hm
  obtain ⟨hone, h15'⟩ := one_env hm
  have hba : Below w.heap.size w (w.alloc (.cells #[.int .i64 k, .int .u64 (x : Int), .string t] 53 (0, 0))) := (Below.refl _ _).alloc (Nat.le_refl _) _
  have hnew := newest w (.cells #[.int .i64 k, .int .u64 (x : Int), .string t] 53 (0, 0))
  have hlt : w.heap.size < (w.alloc (.cells #[.int .i64 k, .int .u64 (x : Int), .string t] 53 (0, 0))).heap.size := by simp
  have MA := Lib.hid (One.awake15 (w.alloc (.cells #[.int .i64 k, .int .u64 (x : Int), .string t] 53 (0, 0))) (hone.later hba h15') (Nat.lt_of_lt_of_le h15' hba.size))
  have MB := Lib.hid (fun (k : Int) (x : Nat) (t : ByteArray) (hx : x < 18446744073709551616) w2 (hb : Below w.heap.size w w2) => back_23 k x t hx w2 (henv.later hb h15) (Nat.lt_of_lt_of_le h15 hb.size) (h1.later hb))
  have HBA := Lib.hid hba
  have HNEW := Lib.hid hnew
  have HLT := Lib.hid hlt
  have HX := Lib.hid hx
  have HBB := Lib.hid hb
  have hz1 : ∀ w : World, (Instr.build 53 #[(0, .int .i64 1), (1, .int .u64 (b : Int))]).run Tryz.prog w = .ok (.agg #[.int .i64 1, .int .u64 (b : Int), .string ⟨#[]⟩]) w := fun w => by kernel_rfl
  have hz2 : ∀ w : World, (Instr.build 53 #[(0, .int .i64 2), (1, .int .u64 (b : Int))]).run Tryz.prog w = .ok (.agg #[.int .i64 2, .int .u64 (b : Int), .string ⟨#[]⟩]) w := fun w => by kernel_rfl
  clear hm h1 h2 henv h15 hone h15' hba hnew hlt hx hb
  go_enter Tryz.func7, Tryz.ntmps7
  go_wp2_with fail
  refine MA.out.mono ?_
  rintro e w2 ⟨rfl, hb2⟩
  have hk := (hb2.block _ HLT.out).trans HNEW.out
  have c0 : w2.cell? ⟨w.heap.size, 0, none⟩ = some (.int .i64 k) := Lib.cell_of_heap hk 0
  have c1 : w2.cell? ⟨w.heap.size, 1, none⟩ = some (.int .u64 (x : Int)) := Lib.cell_of_heap hk 1
  have c2 : w2.cell? ⟨w.heap.size, 2, none⟩ = some (.string t) := Lib.cell_of_heap hk 2
  have HB2 := Lib.hid (HBA.out.trans (hb2.mono HBA.out.size))
  clear hb2 hk
  go_wp2_with fail
  refine (MB.out k x t HX.out w2 HB2.out).mono ?_
  rintro e w3 ⟨rfl, hb3⟩
  have HB3 := Lib.hid (HB2.out.trans (hb3.mono HB2.out.size))
  clear hb3
  go_wp2_with fail
  refine (MB.out 1 b ⟨#[]⟩ HBB.out w3 HB3.out).mono ?_
  rintro e w4 ⟨rfl, hb4⟩
  have HB4 := Lib.hid (HB3.out.trans (hb4.mono HB3.out.size))
  clear hb4
  go_wp2_with fail
  refine (MB.out 2 b ⟨#[]⟩ HBB.out w4 HB4.out).mono ?_
  rintro e w5 ⟨rfl, hb5⟩
  have HB5 := Lib.hid (HB4.out.trans (hb5.mono HB4.out.size))
  clear hb5
  go_wp2_with fail
  go_ret
  exact ⟨rfl, HB5.out⟩
end Go.Proofs.YtagiddbfhlokcaaGreatDoor.Ser
