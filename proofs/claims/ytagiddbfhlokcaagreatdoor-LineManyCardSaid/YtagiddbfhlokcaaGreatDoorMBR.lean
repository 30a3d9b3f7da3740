/- Several texts of this proof, laid together. Conditions: as each says. -/
import Derived.Test.YtagiddbfhlokcaaGreatDoorMBQ
import Derived.Test.YtagiddbfhlokcaaGreatDoorMBI
import Derived.Laws.IdiomStrings
import Derived.Test.YtagiddbfhlokcaaGreatDoorMBG
/- The law LineParses: both readers of a line answer alike. Conditions: the text's length; the tables. -/
namespace Go.Proofs.YtagiddbfhlokcaaGreatDoor.Ser
open Go.RowKit Go.Sort
set_option maxRecDepth 100000
theorem wrap_u64 (z : Int) : 0 ≤ IntKind.wrap .u64 z ∧ IntKind.wrap .u64 z < 18446744073709551616 := by
  simp only [IntKind.wrap]
  constructor
  · exact Int.emod_nonneg _ (by decide)
  · exact Int.emod_lt_of_pos _ (by decide)
theorem V0_val (l : List UInt8) : ∃ k b t n, V0 l = (val k b t, n) ∧ 0 ≤ b ∧ b < 18446744073709551616 := by
  unfold V0 valP
  split
  · exact ⟨_, _, _, _, rfl, by decide, by decide⟩
  split
  · exact ⟨_, _, _, _, rfl, by decide, by decide⟩
  split
  · unfold unqV
    split
    · exact ⟨_, _, _, _, rfl, by decide, by decide⟩
    · split
      · exact ⟨_, _, _, _, rfl, by decide, by decide⟩
      · exact ⟨_, _, _, _, rfl, by decide, by decide⟩
  split
  · split
    · exact ⟨_, _, _, _, rfl, (wrap_u64 _).1, (wrap_u64 _).2⟩
    · exact ⟨_, _, _, _, rfl, by decide, by decide⟩
  split
  · split
    · exact ⟨_, _, _, _, rfl, by decide, by decide⟩
    · refine ⟨_, _, _, _, rfl, by omega, ?_⟩
      have := (PF.atof_fin (T := tabF TT) (fun p => (tt_lt _).1) ff_ok l).2.2
      omega
  · exact ⟨_, _, _, _, rfl, by decide, by decide⟩
theorem readers_of {w : World} (hm : laidMet Tryz.prog Laid.lst w) : Readers V0 w ∧ RReaders V0 w := by
  obtain ⟨B2, o2, B, o, hp⟩ := penv_of hm
  obtain ⟨tp, p, her⟩ := er_of hm
  refine ⟨⟨fun l hl w2 h => parse22 l hl w2 (hp.below h) ((h.cell (cell_lt her)).trans her) (.inr ⟨_, _, rfl⟩), fun l hl w2 h => int43 l (by omega) w2 ((h.cell (cell_lt her)).trans her) (.inr ⟨_, _, rfl⟩), V0_val⟩, ⟨fun l hl w2 h => parse21 l hl w2 (hp.below h) ((h.cell (cell_lt her)).trans her) (.inr ⟨_, _, rfl⟩), V0_val⟩⟩
theorem Readers.later {V : List UInt8 → Value × Int} {w w' : World} (h : Readers V w) (hb : Below w.heap.size w w') : Readers V w' :=
  ⟨fun l hl w2 h2 => h.v l hl w2 (hb.trans (h2.mono hb.size)), fun l hl w2 h2 => h.i l hl w2 (hb.trans (h2.mono hb.size)), h.f⟩
theorem chk_some {o : LR} (h : chk o = true) : ∃ nm ts fs, o = (0, some (nm, ts, fs, 10)) ∧ fs.length = 2 ∧ (fE fs 0).1 = ⟨#[110]⟩ := by
  obtain ⟨e, r⟩ := o
  unfold chk at h
  simp only [Bool.and_eq_true, decide_eq_true_eq] at h
  obtain ⟨h1, h2⟩ := h
  cases r with
  | none => cases h2
  | some r =>
    obtain ⟨nm, ts, fs, tm⟩ := r
    simp only [Bool.and_eq_true, decide_eq_true_eq] at h2
    obtain ⟨⟨h3, h4⟩, h5⟩ := h2
    subst h1 h3
    exact ⟨nm, ts, fs, rfl, h4, h5⟩
set_option maxHeartbeats 4000000 in
theorem awake10 (w : World) (HV : Readers V0 w) : Calls Tryz.prog 10 #[] w (Answer (.bool true) w) := by
  obtain ⟨nm, ts, fs, ho, hlen, hkey⟩ := chk_some chk0
  have MP := parse15 l0 (by decide) 0 w HV
  rw [ho] at MP
  have hb0 : bs l0 = ⟨#[99, 112, 117, 44, 104, 111, 115, 116, 61, 97, 32, 118, 61, 49, 46, 53, 44, 110, 61, 51, 105, 32, 49, 48]⟩ := by decide
  rw [hb0] at MP
  have MPP := Lib.hid MP
  have HL := Lib.hid hlen
  have HKY := Lib.hid hkey
  clear ho MP hb0 HV hlen hkey
  go_enter Tryz.func10, Tryz.ntmps10
  go_wp2_with fail
  refine MPP.out.mono ?_
  rintro e w1 ⟨hb1, v, vf, rfl, hrt, hrf, hap⟩
  obtain ⟨a1, c1, rfl⟩ := hrt.slice
  obtain ⟨a2, c2, rfl⟩ := hrf.slice
  simp only at hrt hrf
  have hf := hrf.at
  obtain ⟨b, off, ha, hbw, e0, _, _, _⟩ := hf 0 (by rw [HL.out]; decide)
  subst ha
  rw [HKY.out] at e0
  rw [HL.out]
  have HB1 := Lib.hid hb1
  simp only [Nat.zero_mul, Nat.add_zero] at e0
  clear hrt hrf hap hf hb1
  go_upto_region 2 with (fail)
  refine wp_gen (fun wx => Below w.heap.size w wx ∧ wx.heap[w1.heap.size]? = some (.cells #[.string nm, .slice a1 ts.length c1, .slice (some ⟨b, off, none⟩) 2 c2, .int .i64 10] 27 (0, 0)) ∧ wx.cell? ⟨b, off, none⟩ = some (.string ⟨#[110]⟩)) ⟨HB1.out.alloc HB1.out.size _, newest _ _, ((((Below.refl w1.heap.size w1).alloc (Nat.le_refl _) _).cell (p := ⟨b, off, none⟩) hbw)).trans e0⟩ ?_
  rintro w2 ⟨hb2, hk2, hg2⟩
  have c2' : w2.cell? ⟨w1.heap.size, 2, none⟩ = some (.slice (some ⟨b, off, none⟩) 2 c2) := Lib.cell_of_heap hk2 2
  have c3' : w2.cell? ⟨w1.heap.size, 3, none⟩ = some (.int .i64 10) := Lib.cell_of_heap hk2 3
  have HB2 := Lib.hid hb2
  clear hb2 hk2 e0 hbw
  go_wp2_with fail
  go_ret
  exact ⟨rfl, HB2.out⟩
end Go.Proofs.YtagiddbfhlokcaaGreatDoor.Ser
/- The law LineParses walked. Conditions: the text's length; the tables. -/
namespace Go.Proofs.YtagiddbfhlokcaaGreatDoor.Ser
open Go.RowKit Go.Sort
set_option maxRecDepth 100000
def cont (R : LR) : ByteArray × List Tg × List Fd × Int := R.2.getD (⟨#[]⟩, [], [], 0)
/-- A row's value holds what was read. -/
structure RowIs (R : LR) (w : World) (nm : ByteArray) (a : Option Addr) (n : Nat) (fa : Option Addr) (m : Nat) (t : Int) : Prop where
  name : nm = (cont R).1
  tn : n = (cont R).2.1.length
  fn : m = (cont R).2.2.1.length
  tm : t = (cont R).2.2.2
  tags : TagsAt w a n (kOf (cont R).2.1) (vOf (cont R).2.1)
  fields : FieldsAt w fa (cont R).2.2.1
theorem RowIs.later {R : LR} {w w' : World} {nm : ByteArray} {a fa : Option Addr} {n m : Nat} {t : Int} (h : RowIs R w nm a n fa m t) (hb : Below w.heap.size w w') : RowIs R w' nm a n fa m t :=
  ⟨h.name, h.tn, h.fn, h.tm, fun i hi => by
    obtain ⟨b, off, h1, h2, h3, h4⟩ := h.tags i hi
    exact ⟨b, off, h1, Nat.lt_of_lt_of_le h2 hb.size, by rw [← h3]; exact hb.cell h2, by rw [← h4]; exact hb.cell h2⟩, h.fields.later hb⟩
end Go.Proofs.YtagiddbfhlokcaaGreatDoor.Ser
/- The law LineTurned walked. Conditions: the row's memory; the tables. -/
namespace Go.Proofs.YtagiddbfhlokcaaGreatDoor.Ser
open Go.RowKit Go.Sort Ff
set_option maxRecDepth 100000
theorem tabpow_tt : PF.TabPow (tabF TT) := by
  have key : (List.range 696).all (fun k => decide (0 < PF.aD ((k : Int) - 348)) && decide ((TT k).1 < PF.two64) && decide ((TT k).2 < PF.two64) && decide (9223372036854775808 ≤ (TT k).1) && decide (PF.aP ((k : Int) - 348) * 2 ^ 127 ≤ ((TT k).1 * PF.two64 - (TT k).2) * PF.aD ((k : Int) - 348)) && decide (((TT k).1 * PF.two64 - (TT k).2) * PF.aD ((k : Int) - 348) < PF.aP ((k : Int) - 348) * 2 ^ 127 + PF.aD ((k : Int) - 348))) = true := by decide +kernel
  intro p h1 h2
  have h := List.all_eq_true.1 key (p + 348).toNat (List.mem_range.2 (by omega))
  rw [show (((p + 348).toNat : Nat) : Int) - 348 = p by omega] at h
  simp only [Bool.and_eq_true, decide_eq_true_eq] at h
  obtain ⟨⟨⟨⟨⟨a, b⟩, c⟩, d⟩, e⟩, f⟩ := h
  exact ⟨a, b, c, d, e, f⟩
theorem fenv_of {W : World} (h : laidMet Tryz.prog Laid.lst W) : FEnv TT W ∧ 15 < W.heap.size := by
  obtain ⟨B2, o2, B, o, hp⟩ := penv_of h
  obtain ⟨h1, h2⟩ := one_env h
  exact ⟨⟨hp.pow, h1.tab⟩, h2⟩
end Go.Proofs.YtagiddbfhlokcaaGreatDoor.Ser
/- The law ValueBack walked. Conditions: the tables. -/
namespace Go.Proofs.YtagiddbfhlokcaaGreatDoor.Ser
open Go.RowKit Go.Sort Ff
set_option maxRecDepth 100000
theorem tabten_ff : PF.TabTen FF := by
  have key : (List.range 23).all (fun k => decide (FF k < 9218868437227405312) && decide (PF.magR (FF k) = 10 ^ k * 2 ^ 1074)) = true := by decide +kernel
  intro k hk
  have h := List.all_eq_true.1 key k (List.mem_range.2 (by omega))
  rw [Bool.and_eq_true, decide_eq_true_eq, decide_eq_true_eq] at h
  exact h
end Go.Proofs.YtagiddbfhlokcaaGreatDoor.Ser
