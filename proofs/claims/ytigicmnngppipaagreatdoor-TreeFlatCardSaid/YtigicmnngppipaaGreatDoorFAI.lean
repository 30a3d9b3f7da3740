/- Several texts of this proof, laid together. Conditions: as each says. -/
import Derived.Test.YtigicmnngppipaaGreatDoorFAH
import Derived.Lib.SmallJoins
import Derived.Deep.RegionHeld
import Derived.Deep.QuietTactic
import Derived.Lib.BitFns
import Derived.Laws.FloatArith
/- A mantissa and an exponent put together; the scaling. No condition. -/
namespace Go.Proofs.YtigicmnngppipaaGreatDoor
open Go.RowKit
set_option maxRecDepth 100000
theorem and52 (m : Nat) (hm : m < 18446744073709551616) : bits BinOp.and IntKind.u64 (m : Int) 4503599627370496 = ((m / 4503599627370496 % 2 * 4503599627370496 : Nat) : Int) := by
  have h := bits_and_u64_nat m 4503599627370496 hm (by omega)
  rw [PF.and_pow m 52] at h
  exact h
theorem and63 (m : Nat) (hm : m < 18446744073709551616) : bits BinOp.and IntKind.u64 (m : Int) 9223372036854775808 = ((m / 9223372036854775808 % 2 * 9223372036854775808 : Nat) : Int) := by
  have h := bits_and_u64_nat m 9223372036854775808 hm (by omega)
  rw [PF.and_pow m 63] at h
  exact h
/-- An error of the inner package: its number. -/
def errV (b : Bool) : Value := if b then .iface 222 (.int .i64 1) else .nilIface
theorem run214 (n : Int) (w : World) : (callFunc 254 #[.int .u64 n]).run Tryz.prog w = .ok (.value (.float .f64 n.toNat)) w := by
  rw [run_callFunc_extern Tryz.func254 (by kernel_rfl) (by kernel_rfl) (by kernel_rfl) (e := Extern.MathFloatBits.float64frombits) (by kernel_rfl)]
  rfl
theorem pack247 (neg : Bool) (r : Nat) (hr : r ≤ 9007199254740992) (e : Int) (h1 : -1074 ≤ e) (h2 : e ≤ 5000) (w : World) :
    Calls Tryz.prog 263 #[.int .u64 ((PF.sgn neg + r : Nat) : Int), .int .i64 e] w fun x w' => x = .returned (.tuple #[.float .f64 (PF.pack (PF.sgn neg + r) e).1, errV (PF.pack (PF.sgn neg + r) e).2]) ∧ w = w' := by
  have hs : PF.sgn neg = 0 ∨ PF.sgn neg = 9223372036854775808 := by cases neg <;> simp [PF.sgn]
  have h214 := run214
  have hm := and52 (PF.sgn neg + r) (by omega)
  by_cases hc : (PF.sgn neg + r) / 4503599627370496 % 2 = 0
  · have hp : PF.pack (PF.sgn neg + r) e = (PF.sgn neg + r, false) := by unfold PF.pack; rw [if_pos hc]
    rw [hp]
    rw [hc] at hm
    obtain ⟨m, hmm⟩ : ∃ m, PF.sgn neg + r = m := ⟨_, rfl⟩
    rw [hmm] at hm ⊢
    clear hp hc hs hmm
    unfold errV
    go_enter Tryz.func263, Tryz.ntmps263
    go_wp2_with fail
    go_ret2
    exact ⟨rfl, rfl⟩
  · have hc1 : (PF.sgn neg + r) / 4503599627370496 % 2 = 1 := by omega
    rw [hc1] at hm
    by_cases he : 972 ≤ e
    · have hp : PF.pack (PF.sgn neg + r) e = ((PF.sgn neg + r) / 9223372036854775808 % 2 * 9223372036854775808 + 9218868437227405312, true) := by unfold PF.pack; rw [if_neg hc, if_pos he]
      rw [hp]
      have h63 := and63 (PF.sgn neg + r) (by omega)
      have hor : bits BinOp.or IntKind.u64 (((PF.sgn neg + r) / 9223372036854775808 % 2 * 9223372036854775808 : Nat) : Int) 9218868437227405312 = (((PF.sgn neg + r) / 9223372036854775808 % 2 * 9223372036854775808 + 9218868437227405312 : Nat) : Int) := by
        have e1 : (PF.sgn neg + r) / 9223372036854775808 % 2 * 9223372036854775808 = PF.sgn neg := by omega
        rw [e1]
        have := bits_or_u64_nat (PF.sgn neg) 9218868437227405312 (by omega) (by omega)
        rw [PF.or_sgn neg _ (by omega)] at this
        exact this
      obtain ⟨q, hq⟩ : ∃ q, (PF.sgn neg + r) / 9223372036854775808 % 2 * 9223372036854775808 = q := ⟨_, rfl⟩
      rw [hq] at h63 hor ⊢
      obtain ⟨m, hmm⟩ : ∃ m, PF.sgn neg + r = m := ⟨_, rfl⟩
      rw [hmm] at hm h63 ⊢
      obtain ⟨z, hz⟩ : ∃ z, q + 9218868437227405312 = z := ⟨_, rfl⟩
      rw [hz] at hor ⊢
      clear hp hc hc1 hs hmm hq hz
      unfold errV
      go_enter Tryz.func263, Tryz.ntmps263
      go_wp2_with fail
      go_ret2
      exact ⟨rfl, rfl⟩
    · have hp : PF.pack (PF.sgn neg + r) e = (PF.sgn neg + r - 4503599627370496 + (1075 + e).toNat * 4503599627370496, false) := by unfold PF.pack; rw [if_neg hc, if_neg he]
      rw [hp]
      obtain ⟨lo, rfl, hlo⟩ : ∃ lo, r = 4503599627370496 + lo ∧ lo < 4503599627370496 := ⟨r - 4503599627370496, by omega, by omega⟩
      have ha : bits BinOp.andNot IntKind.u64 ((PF.sgn neg + (4503599627370496 + lo) : Nat) : Int) 4503599627370496 = ((PF.sgn neg + lo : Nat) : Int) := by
        have h := u64_andNot_nat (PF.sgn neg + (4503599627370496 + lo)) 4503599627370496 (by omega) (by omega)
        have e : (18446744073709551615 - 4503599627370496 : Nat) = 18442240474082181119 := by decide
        rw [e, PF.andNot52 neg lo hlo] at h
        exact h
      obtain ⟨x, hx⟩ : ∃ x, (1075 + e).toNat = x := ⟨_, rfl⟩
      have ho : bits BinOp.or IntKind.u64 ((PF.sgn neg + lo : Nat) : Int) ((x * 4503599627370496 : Nat) : Int) = ((PF.sgn neg + (4503599627370496 + lo) - 4503599627370496 + x * 4503599627370496 : Nat) : Int) := by
        have := bits_or_u64_nat (PF.sgn neg + lo) (x * 4503599627370496) (by omega) (by omega)
        rw [PF.or_exp neg lo x hlo (by omega)] at this
        have e : PF.sgn neg + lo + x * 4503599627370496 = PF.sgn neg + (4503599627370496 + lo) - 4503599627370496 + x * 4503599627370496 := by omega
        exact this.trans (congrArg (fun n : Nat => (n : Int)) e)
      have hw : (1075 + e) * 4503599627370496 = ((x * 4503599627370496 : Nat) : Int) := by omega
      rw [hx]
      obtain ⟨z, hz⟩ : ∃ z, PF.sgn neg + (4503599627370496 + lo) - 4503599627370496 + x * 4503599627370496 = z := ⟨_, rfl⟩
      obtain ⟨y, hy⟩ : ∃ y, x * 4503599627370496 = y := ⟨_, rfl⟩
      obtain ⟨a, ha'⟩ : ∃ a, PF.sgn neg + lo = a := ⟨_, rfl⟩
      obtain ⟨m, hmm⟩ : ∃ m, PF.sgn neg + (4503599627370496 + lo) = m := ⟨_, rfl⟩
      rw [hz] at ho ⊢
      rw [hy] at ho hw
      rw [ha'] at ha ho
      rw [hmm] at hm ha ⊢
      have hy2 : y < 18446744073709551616 := by omega
      clear hp hc1 hc hr hs hz ha' hmm hy hx hlo lo neg x
      unfold errV
      go_enter Tryz.func263, Tryz.ntmps263
      go_wp2_with fail
      go_ret2
      exact ⟨rfl, rfl⟩
end Go.Proofs.YtigicmnngppipaaGreatDoor
/- The table's cell for an exponent; the scaling. Condition: the cells of the table of powers. -/
namespace Go.Proofs.YtigicmnngppipaaGreatDoor
open Go.RowKit
set_option maxRecDepth 100000
structure Pow (T : Nat → Nat × Nat) (w : World) : Prop where
  c0 : ∀ k : Nat, k < 696 → w.cell? ⟨13, k * 2, none⟩ = some (.int .u64 ((T k).1 : Int))
  c1 : ∀ k : Nat, k < 696 → w.cell? ⟨13, k * 2 + 1, none⟩ = some (.int .u64 ((T k).2 : Int))
def Pre (w : World) (b : Nat) (x y z : Value) : Prop := w.heap[b]? = some (.cells #[x, y, z] 260 (0, 0))
theorem Pre.c0 {w : World} {b : Nat} {x y z : Value} (h : Pre w b x y z) : w.cell? ⟨b, 0, none⟩ = some x := by rw [Lib.cell_of_heap h]; rfl
theorem Pre.c1 {w : World} {b : Nat} {x y z : Value} (h : Pre w b x y z) : w.cell? ⟨b, 1, none⟩ = some y := by rw [Lib.cell_of_heap h]; rfl
theorem Pre.c2 {w : World} {b : Nat} {x y z : Value} (h : Pre w b x y z) : w.cell? ⟨b, 2, none⟩ = some z := by rw [Lib.cell_of_heap h]; rfl
theorem Pre.set0 {w : World} {b : Nat} {x y z : Value} (h : Pre w b x y z) (v : Value) : Pre (w.setCell ⟨b, 0, none⟩ v) b v y z := Joins.block_setCell (i := 0) h v
theorem Pre.set1 {w : World} {b : Nat} {x y z : Value} (h : Pre w b x y z) (v : Value) : Pre (w.setCell ⟨b, 1, none⟩ v) b x v z := Joins.block_setCell (i := 1) h v
theorem Pre.set2 {w : World} {b : Nat} {x y z : Value} (h : Pre w b x y z) (v : Value) : Pre (w.setCell ⟨b, 2, none⟩ v) b x y v := Joins.block_setCell (i := 2) h v
theorem Pow.set {T : Nat → Nat × Nat} {w : World} {b i : Nat} (h : Pow T w) (hb : 13 < b) (v : Value) : Pow T (w.setCell ⟨b, i, none⟩ v) :=
  ⟨fun k hk => by rw [World.cell?_setCell_far _ _ _ _ (by simp; omega)]; exact h.c0 k hk, fun k hk => by rw [World.cell?_setCell_far _ _ _ _ (by simp; omega)]; exact h.c1 k hk⟩
theorem prescale241 (T : Nat → Nat × Nat) (k : Nat) (hk : k < 696) (e lp : Int) (he : -100000 ≤ e) (he2 : e ≤ 100000) (hl : -100000 ≤ lp) (hl2 : lp ≤ 100000) (w : World) (b : Nat) (x y z : Value) (h : Pre w b x y z) (hp : Pow T w) (hb : 13 < b) :
    Calls Tryz.prog 210 #[.pointer (some ⟨b, 0, none⟩), .int .i64 e, .int .i64 ((k : Int) - 348), .int .i64 lp] w fun x w' => x = .returned (.tuple #[]) ∧ Pre w' b (.int .u64 ((T k).1 : Int)) (.int .u64 ((T k).2 : Int)) (.int .i64 (-(e + lp + 3))) ∧ Below b w w' := by
  have p0 := hp.c0 k hk
  have c0 := h.c0
  have h1 := h.set0 (.int .u64 ((T k).1 : Int))
  have p1 := (hp.set (i := 0) hb (.int .u64 ((T k).1 : Int))).c1 k hk
  have c1 := h1.c1
  have h2 := h1.set1 (.int .u64 ((T k).2 : Int))
  have c2 := h2.c2
  have f0 := Lib.frozen_of_heap h 0
  have f1 := Lib.frozen_of_heap h1 1
  have f2 := Lib.frozen_of_heap h2 2
  have H3 := Lib.hid (h2.set2 (.int .i64 (-(e + lp + 3))))
  have k1 : (k : Int) - 348 - -348 = (k : Int) := by omega
  clear h h1 h2 hp
  go_enter Tryz.func210, Tryz.ntmps210
  go_wp2
  go_end0
  exact ⟨rfl, H3.out, (((Below.refl b w).setCell (p := ⟨b, 0, none⟩) (Nat.le_refl _) _).setCell (p := ⟨b, 1, none⟩) (Nat.le_refl _) _).setCell (p := ⟨b, 2, none⟩) (Nat.le_refl _) _⟩
end Go.Proofs.YtigicmnngppipaaGreatDoor
/- The scaled product. No condition. -/
namespace Go.Proofs.YtigicmnngppipaaGreatDoor
open Go.RowKit
set_option maxRecDepth 100000
theorem and63i : ∀ s : Fin 64, bits BinOp.and IntKind.i64 (s.val : Int) 63 = (s.val : Int) := by decide +kernel
theorem bool213q (b : Bool) (w : World) (n : Nat) : Calls Tryz.prog 238 #[.bool b] (w.drewN n) fun e w' => e = .returned (.int .u64 (b.toNat : Int)) ∧ ∃ m, w' = w.drewN m :=
  (bool213 b (w.drewN n)).mono fun _ _ ⟨h1, h2⟩ => ⟨h1, n, h2.symm⟩
theorem mulv (x y : Nat) (hx : x < 18446744073709551616) (hy : y < 18446744073709551616) (w : World) (hi lo : Nat) (h1 : x * y / PF.two64 = hi) (h2 : x * y % PF.two64 = lo) :
    Calls Tryz.prog 237 #[.int .u64 (x : Int), .int .u64 (y : Int)] w fun e w' => e = .returned (.tuple #[.int .u64 (hi : Int), .int .u64 (lo : Int)]) ∧ w = w' := by
  refine (Tryz.bits_Mul64 x y hx hy w).mono ?_
  rintro e w' ⟨rfl, h⟩
  subst h1 h2
  exact ⟨rfl, h.symm⟩
theorem uscale242 (x c1 c2 s : Nat) (hx : x < 18446744073709551616) (hc1 : c1 < 18446744073709551616) (hc2 : c2 < 18446744073709551616) (hs : s < 64) (w : World) (b : Nat) (h : Pre w b (.int .u64 (c1 : Int)) (.int .u64 (c2 : Int)) (.int .i64 (s : Int))) :
    Calls Tryz.prog 212 #[.int .u64 (x : Int), .pointer (some ⟨b, 0, none⟩)] w fun e w' => e = .returned (.int .u64 (PF.usc x (c1, c2) s : Int)) ∧ ∃ n, w' = w.drewN n := by
  have k0 := h.c0
  have k1 := h.c1
  have k2 := h.c2
  have b7 := and63i ⟨s, hs⟩
  simp only at b7
  obtain ⟨hi, h1⟩ : ∃ hi, x * c1 / PF.two64 = hi := ⟨_, rfl⟩
  obtain ⟨mid, h2⟩ : ∃ mid, x * c1 % PF.two64 = mid := ⟨_, rfl⟩
  obtain ⟨mid2, h3⟩ : ∃ mid2, x * c2 / PF.two64 = mid2 := ⟨_, rfl⟩
  obtain ⟨lo2, h4⟩ : ∃ lo2, x * c2 % PF.two64 = lo2 := ⟨_, rfl⟩
  have m1 := fun w => mulv x c1 hx hc1 w hi mid h1 h2
  have m2 := fun w => mulv x c2 hx hc2 w mid2 lo2 h3 h4
  have M1 := Lib.hid m1
  have M2 := Lib.hid m2
  have t64 : PF.two64 = 18446744073709551616 := rfl
  have lhi : hi < 18446744073709551616 := by
    rw [← h1, t64, Nat.div_lt_iff_lt_mul (by omega)]
    exact Nat.mul_lt_mul'' hx hc1
  have lmid : mid < 18446744073709551616 := by rw [← h2]; exact Nat.mod_lt _ (by decide)
  have lmid2 : mid2 < 18446744073709551616 := by
    rw [← h3, t64, Nat.div_lt_iff_lt_mul (by omega)]
    exact Nat.mul_lt_mul'' hx hc2
  unfold PF.usc
  dsimp only
  rw [h1, h2, h3]
  clear h m1 m2 h1 h2 h3 h4
  obtain ⟨q, hq⟩ : ∃ q : Nat, hi / 2 ^ s = q := ⟨_, rfl⟩
  have p2 : 0 < 2 ^ s := Nat.two_pow_pos s
  have lq : q ≤ hi := by rw [← hq]; exact Nat.div_le_self _ _
  have qi : (hi : Int) / 2 ^ s = (q : Int) := by rw [← hq]; norm_cast
  have ql : q * 2 ^ s ≤ hi := by rw [← hq]; exact Nat.div_mul_le_self _ _
  obtain ⟨r, hr⟩ : ∃ r : Nat, q * 2 ^ s = r := ⟨_, rfl⟩
  have wr : IntKind.u64.wrap ((q : Int) * 2 ^ s) = (r : Int) := by
    have e : (q : Int) * 2 ^ s = (r : Int) := by rw [← hr]; norm_cast
    rw [e, IntKind.wrap_u64]
    omega
  rw [hq, hr]
  rw [hr] at ql
  by_cases hc : r = hi
  · rw [if_pos hc]
    subst hc
    obtain ⟨g, hg⟩ : ∃ g : Nat, (r + PF.two64 - (decide (mid < mid2)).toNat) % PF.two64 = g := ⟨_, rfl⟩
    obtain ⟨q2, hq2⟩ : ∃ q2 : Nat, g / 2 ^ s = q2 := ⟨_, rfl⟩
    obtain ⟨d, hd⟩ : ∃ d : Nat, (mid + PF.two64 - mid2) % PF.two64 = d := ⟨_, rfl⟩
    rw [hg, hq2, hd]
    have lg : g < 18446744073709551616 := by rw [← hg]; exact Nat.mod_lt _ (by decide)
    have lq2 : q2 ≤ g := by rw [← hq2]; exact Nat.div_le_self _ _
    have q2i : (g : Int) / 2 ^ s = (q2 : Int) := by rw [← hq2]; norm_cast
    have bt : (decide (mid < mid2)).toNat ≤ 1 := by cases decide (mid < mid2) <;> decide
    have wg : IntKind.u64.wrap ((r : Int) - ((decide (mid < mid2)).toNat : Int)) = (g : Int) := by
      rw [IntKind.wrap_u64, ← hg, t64]
      omega
    have wd : IntKind.u64.wrap ((mid : Int) - (mid2 : Int)) = (d : Int) := by
      rw [IntKind.wrap_u64, ← hd, t64]
      omega
    have bt2 : (decide (1 < d)).toNat ≤ 1 := by cases decide (1 < d) <;> decide
    have bo := bits_or_u64_nat q2 (decide (1 < d)).toNat (by omega) (by omega)
    obtain ⟨B2, hB2⟩ : ∃ B, decide (1 < d) = B := ⟨_, rfl⟩
    have hb2 : decide ((1 : Int) < (d : Int)) = B2 := by rw [← hB2]; exact decide_eq_decide.2 (by omega)
    have ht : ((r : Int) != (r : Int)) = false := by simp
    rw [hB2] at bo ⊢
    clear hg hq2 hd bt bt2 hB2 hr hq p2 t64
    go_enter Tryz.func212, Tryz.ntmps212
    go_wp2_with fail
    refine (M1.out _).mono ?_
    rintro e w' ⟨rfl, rfl⟩
    go_wp2_with fail
    refine (M2.out _).mono ?_
    rintro e w' ⟨rfl, rfl⟩
    go_wp2_with fail
    refine (bool213 _ _).mono ?_
    rintro e w' ⟨rfl, rfl⟩
    go_wp2_with fail
    go_quiet ((go_at_call 238; exact bool213q _ _ _))
    go_wp2_with fail
    go_ret
    exact ⟨rfl, _, rfl⟩
  · rw [if_neg hc]
    have ht : ((r : Int) != (hi : Int)) = true := by simp; omega
    have bo : bits BinOp.or IntKind.u64 (q : Int) 1 = ((q ||| 1 : Nat) : Int) := bits_or_u64_nat q 1 (by omega) (by omega)
    clear hr hq p2 t64
    go_enter Tryz.func212, Tryz.ntmps212
    go_wp2_with fail
    refine (M1.out _).mono ?_
    rintro e w' ⟨rfl, rfl⟩
    go_wp2_with fail
    go_ret
    exact ⟨by rfl, 0, rfl⟩
end Go.Proofs.YtigicmnngppipaaGreatDoor
/- A number of at most 19 digits times a power of ten. Condition: the cells of the table of powers. -/
namespace Go.Proofs.YtigicmnngppipaaGreatDoor
open Go.RowKit
set_option maxRecDepth 100000
theorem blen_eq : ∀ n : Nat, n < 18446744073709551616 → Lib.bitLen n = PF.blen n := by
  intro n
  induction n using Nat.strongRecOn with
  | ind n ih =>
    intro h
    by_cases h0 : n = 0
    · subst h0; decide
    · rw [Lib.bitLen_half n h0 h, ih (n / 2) (by omega) (by omega)]
      unfold PF.blen
      rw [if_neg h0]
      by_cases h1 : n / 2 = 0
      · have : n = 1 := by omega
        subst this
        decide
      · rw [if_neg h1, Nat.log2_def n, if_pos (by omega)]
        omega
theorem len132 (d : Nat) (hd : d < 18446744073709551616) (b : Nat) (hb : PF.blen d = b) (w : World) : Calls Tryz.prog 150 #[.int .u64 (d : Int)] w fun e w' => e = .returned (.int .i64 (b : Int)) ∧ w = w' := by
  refine (Tryz.bits_Len64 (d : Int) w (by omega) (by omega)).mono ?_
  rintro e w' ⟨rfl, h⟩
  rw [Int.toNat_natCast, blen_eq d hd, hb]
  exact ⟨rfl, h.symm⟩
def tabF (T : Nat → Nat × Nat) (p : Int) : Nat × Nat := T (p + 348).toNat
def TabLt (T : Nat → Nat × Nat) : Prop := ∀ k, (T k).1 < 18446744073709551616 ∧ (T k).2 < 18446744073709551616
set_option maxHeartbeats 1000000 in
theorem par216 (T : Nat → Nat × Nat) (hT : TabLt T) (d : Nat) (hd : d < 18446744073709551616) (p : Int) (hp : -345 ≤ p) (hp2 : p ≤ 310) (neg : Bool) (w : World) (hw : Pow T w) (h15 : 13 < w.heap.size) :
    Calls Tryz.prog 256 #[.int .u64 (d : Int), .int .i64 p, .int .u64 ((PF.sgn neg : Nat) : Int)] w fun x w' => x = .returned (.tuple #[.float .f64 (PF.par64 (tabF T) d p neg).1, errV (PF.par64 (tabF T) d p neg).2]) ∧ Below w.heap.size w w' := by
  obtain ⟨k, hk, hk2⟩ : ∃ k : Nat, p = (k : Int) - 348 ∧ k < 696 := ⟨(p + 348).toNat, by omega, by omega⟩
  obtain ⟨b, hb⟩ : ∃ b, PF.blen d = b := ⟨_, rfl⟩
  have hb64 : b ≤ 64 := by rw [← hb]; exact PF.blen_le hd
  obtain ⟨L, hL⟩ : ∃ L, PF.lpow p = L := ⟨_, rfl⟩
  have hL1 : -1200 ≤ L := by rw [← hL]; unfold PF.lpow; omega
  have hL2 : L ≤ 1200 := by rw [← hL]; unfold PF.lpow; omega
  obtain ⟨E, hE⟩ : ∃ E, PF.pE d p = E := ⟨_, rfl⟩
  have hE2 : min (1074 : Int) (53 - (b : Int) - L) = E := by rw [← hE]; unfold PF.pE; rw [hb, hL]
  have hE3 : E ≤ 1074 := by omega
  have hE4 : -1300 ≤ E := by omega
  obtain ⟨c, hc⟩ : ∃ c : Nat, 64 - b = c := ⟨_, rfl⟩
  have hc2 : 64 - (b : Int) = (c : Int) := by omega
  obtain ⟨S, hS⟩ : ∃ S, PF.pS d p = S := ⟨_, rfl⟩
  have hS2 : -(E - (c : Int) + L + 3) = S := by rw [← hS]; unfold PF.pS; rw [hE, hb, hL, hc2]
  have hS8 : 8 ≤ S := by rw [← hS]; exact PF.pS_ge d p
  have m132 := fun w => len132 d hd b hb w
  have m240 := fun w => lpow_walk p (by omega) (by omega) w
  rw [hL] at m240
  have hpre : Pre (w.alloc (.cells #[.int .u64 0, .int .u64 0, .int .i64 0] 260)) w.heap.size (.int .u64 0) (.int .u64 0) (.int .i64 0) := heap_alloc_new w _
  have hpow : Pow T (w.alloc (.cells #[.int .u64 0, .int .u64 0, .int .i64 0] 260)) := ⟨fun k hk => (((Below.refl _ _).alloc (Nat.le_refl _) _).cell (p := ⟨13, k * 2, none⟩) h15).trans (hw.c0 k hk), fun k hk => (((Below.refl _ _).alloc (Nat.le_refl _) _).cell (p := ⟨13, k * 2 + 1, none⟩) h15).trans (hw.c1 k hk)⟩
  have m241 := prescale241 T k hk2 (E - (c : Int)) L (by omega) (by omega) (by omega) (by omega) _ _ _ _ _ hpre hpow h15
  rw [hS2, ← hk] at m241
  have M132 := Lib.hid m132
  have M240 := Lib.hid m240
  have M241 := Lib.hid m241
  have h214 := run214
  have hT1 := hT k
  have ek : tabF T p = T k := by unfold tabF; congr 1; omega
  have os : bits BinOp.or IntKind.u64 ((PF.sgn neg : Nat) : Int) 0 = ((PF.sgn neg : Nat) : Int) := by
    have h := bits_or_u64_nat (PF.sgn neg) 0 (by cases neg <;> simp [PF.sgn]) (by omega)
    rw [Nat.or_zero] at h
    exact h
  have hsg : PF.sgn neg < 18446744073709551616 := by cases neg <;> simp [PF.sgn]
  by_cases hS64 : 64 ≤ S
  · have e : PF.par64 (tabF T) d p neg = (PF.sgn neg, false) := by unfold PF.par64; rw [hS, if_pos hS64]
    rw [e]
    obtain ⟨sg, hsg'⟩ : ∃ sg, PF.sgn neg = sg := ⟨_, rfl⟩
    rw [hsg'] at os ⊢
    clear e hsg hsg' hT hT1 ek m132 m240 m241 hpre hpow hw hS hE hb hL hc hp hp2 hk hk2
    unfold errV
    go_enter Tryz.func256, Tryz.ntmps256
    go_wp2_with fail
    refine (M132.out _).mono ?_
    rintro e w' ⟨rfl, rfl⟩
    go_wp2_with fail
    refine (M240.out _).mono ?_
    rintro e w' ⟨rfl, rfl⟩
    go_wp2_with fail
    refine M241.out.mono ?_
    rintro e w1 ⟨rfl, h1, hb1⟩
    have HB := Lib.hid (((Below.refl w.heap.size w).alloc (Nat.le_refl _) _).trans hb1)
    have c2 := h1.c2
    clear h1 hb1
    go_wp2_with fail
    go_ret2
    exact ⟨by rfl, HB.out⟩
  · obtain ⟨s, rfl⟩ : ∃ s : Nat, S = s := ⟨S.toNat, by omega⟩
    have hs64 : s < 64 := by omega
    obtain ⟨x, hx⟩ : ∃ x : Nat, d * 2 ^ c % 18446744073709551616 = x := ⟨_, rfl⟩
    have lx : x < 18446744073709551616 := by rw [← hx]; exact Nat.mod_lt _ (by omega)
    have wx : IntKind.u64.wrap ((d : Int) * 2 ^ c) = (x : Int) := by
      have e : (d : Int) * 2 ^ c = ((d * 2 ^ c : Nat) : Int) := by norm_cast
      rw [e, IntKind.wrap_u64, ← hx]
      obtain ⟨z, hz⟩ : ∃ z : Nat, d * 2 ^ c = z := ⟨_, rfl⟩
      rw [hz]
      omega
    obtain ⟨u, hu⟩ : ∃ u : Nat, PF.usc x (T k) s = u := ⟨_, rfl⟩
    have lu : u < 72057594037927936 := by rw [← hu]; exact PF.usc_lt x s (T k) lx hT1.1 (by omega)
    have m242 := fun w' h => uscale242 x (T k).1 (T k).2 s lx hT1.1 hT1.2 hs64 w' w.heap.size h
    obtain ⟨v, hv⟩ : ∃ v : Nat, (if decide (36028797018963966 ≤ u) then u / 2 ||| u % 2 else u) = v := ⟨_, rfl⟩
    obtain ⟨e', he'⟩ : ∃ e' : Int, -(E - (if decide (36028797018963966 ≤ u) then 1 else 0)) = e' := ⟨_, rfl⟩
    have e : PF.par64 (tabF T) d p neg = PF.pack (PF.sgn neg + PF.rnd v) e' := by
      unfold PF.par64
      rw [hS, if_neg hS64, ek, hb, hE, hc]
      have t64 : PF.two64 = 18446744073709551616 := rfl
      dsimp only
      rw [t64, hx, Int.toNat_natCast, hu, hv, he']
    rw [e]
    have lv : v < 36028797018963968 ∧ -1074 ≤ e' ∧ e' ≤ 5000 := by
      rw [← hv, ← he']
      by_cases hB : 36028797018963966 ≤ u
      · simp only [hB, decide_true, if_true]
        exact ⟨PF.half_or u lu, by omega, by omega⟩
      · simp only [hB, decide_false, if_false, Bool.false_eq_true]
        exact ⟨by omega, by omega, by omega⟩
    obtain ⟨r, hr⟩ : ∃ r : Nat, PF.rnd v = r := ⟨_, rfl⟩
    have lr : r ≤ 9007199254740992 := by rw [← hr]; unfold PF.rnd; omega
    have m245 := fun w => round245 v (by omega) w
    have m247 := fun w => pack247 neg r lr e' lv.2.1 lv.2.2 w
    rw [hr] at m245 ⊢
    have om : bits BinOp.or IntKind.u64 ((PF.sgn neg : Nat) : Int) (r : Int) = ((PF.sgn neg + r : Nat) : Int) := by
      have h := bits_or_u64_nat (PF.sgn neg) r hsg (by omega)
      rw [PF.or_sgn neg r (by omega)] at h
      exact h
    obtain ⟨res, hres⟩ : ∃ res, PF.pack (PF.sgn neg + r) e' = res := ⟨_, rfl⟩
    obtain ⟨m, hm⟩ : ∃ m, PF.sgn neg + r = m := ⟨_, rfl⟩
    rw [hres] at m247 ⊢
    rw [hm] at m247 om
    obtain ⟨sg, hsg'⟩ : ∃ sg, PF.sgn neg = sg := ⟨_, rfl⟩
    rw [hsg'] at om ⊢
    have M242 := Lib.hid m242
    have M245 := Lib.hid m245
    have M247 := Lib.hid m247
    have a1 : bits BinOp.and IntKind.u64 (u : Int) 1 = ((u % 2 : Nat) : Int) := by
      have h := bits_and_u64_nat u 1 (by omega) (by omega)
      rw [Nat.and_one_is_mod] at h
      exact h
    obtain ⟨y, hy⟩ : ∃ y : Nat, u % 2 = y := ⟨_, rfl⟩
    rw [hy] at a1 hv
    have m160t := bool160 true
    have m160f := bool160 false
    have HU := Lib.hid hu
    by_cases hB : 36028797018963966 ≤ u
    · simp only [hB, decide_true, if_true] at hv he'
      obtain ⟨q, hq⟩ : ∃ q : Nat, u / 2 = q := ⟨_, rfl⟩
      have qi : (u : Int) / 2 = (q : Int) := by omega
      have vo := bits_or_u64_nat q y (by omega) (by omega)
      rw [hq] at hv
      rw [hv] at vo
      have hBi : (36028797018963966 : Int) ≤ (u : Int) := by omega
      have ee : -(E - 1) = e' := he'
      clear hsg hsg' hT hT1 ek m132 m240 m241 hpre hpow hw hS hE hb hL hc hp hp2 hk hk2 m242 m245 m247 hres hm hr hv he' e hx lv lr hB hq hy hu os
      go_enter Tryz.func256, Tryz.ntmps256
      go_wp2_with fail
      refine (M132.out _).mono ?_
      rintro e w' ⟨rfl, rfl⟩
      go_wp2_with fail
      refine (M240.out _).mono ?_
      rintro e w' ⟨rfl, rfl⟩
      go_wp2_with fail
      refine M241.out.mono ?_
      rintro e w1 ⟨rfl, h1, hb1⟩
      have HB := Lib.hid (((Below.refl w.heap.size w).alloc (Nat.le_refl _) _).trans hb1)
      have c2 := h1.c2
      have H1 := Lib.hid h1
      clear h1 hb1
      go_wp2_with fail
      refine (M242.out _ H1.out).mono ?_
      rintro e w2 ⟨rfl, n, rfl⟩
      have hu := HU.out
      rw [show ((T k).1, (T k).2) = T k from rfl, hu]
      clear hu
      go_wp2_with fail
      refine (unmin53 _).mono ?_
      rintro e w' ⟨rfl, rfl⟩
      go_wp2_with fail
      refine (m160t _).mono ?_
      rintro e w' ⟨rfl, rfl⟩
      go_wp2_with fail
      refine (M245.out _).mono ?_
      rintro e w' ⟨rfl, rfl⟩
      go_wp2_with fail
      refine (M247.out _).mono ?_
      rintro e w' ⟨rfl, rfl⟩
      go_wp2_with fail
      go_ret2
      exact ⟨by rfl, Go.below_drewN HB.out n⟩
    · simp only [hB, decide_false, if_false, Bool.false_eq_true] at hv he'
      have vo := bits_or_u64_nat u y (by omega) (by omega)
      have uo : u ||| y = u := by rw [← hy]; exact PF.or_mod2 u
      rw [uo] at vo
      subst hv
      have hBi : decide ((36028797018963966 : Int) ≤ (u : Int)) = false := decide_eq_false (by omega)
      have ee : -(E - 0) = e' := he'
      rw [Int.sub_zero] at ee
      clear hsg hsg' hT hT1 ek m132 m240 m241 hpre hpow hw hS hE hb hL hc hp hp2 hk hk2 m242 m245 m247 hres hm hr he' e hx lv lr hB hy hu os uo
      go_enter Tryz.func256, Tryz.ntmps256
      go_wp2_with fail
      refine (M132.out _).mono ?_
      rintro e w' ⟨rfl, rfl⟩
      go_wp2_with fail
      refine (M240.out _).mono ?_
      rintro e w' ⟨rfl, rfl⟩
      go_wp2_with fail
      refine M241.out.mono ?_
      rintro e w1 ⟨rfl, h1, hb1⟩
      have HB := Lib.hid (((Below.refl w.heap.size w).alloc (Nat.le_refl _) _).trans hb1)
      have c2 := h1.c2
      have H1 := Lib.hid h1
      clear h1 hb1
      go_wp2_with fail
      refine (M242.out _ H1.out).mono ?_
      rintro e w2 ⟨rfl, n, rfl⟩
      have hu := HU.out
      rw [show ((T k).1, (T k).2) = T k from rfl, hu]
      clear hu
      go_wp2_with fail
      refine (unmin53 _).mono ?_
      rintro e w' ⟨rfl, rfl⟩
      go_wp2_with fail
      refine (m160f _).mono ?_
      rintro e w' ⟨rfl, rfl⟩
      go_wp2_with fail
      refine (M245.out _).mono ?_
      rintro e w' ⟨rfl, rfl⟩
      go_wp2_with fail
      refine (M247.out _).mono ?_
      rintro e w' ⟨rfl, rfl⟩
      go_wp2_with fail
      go_ret2
      exact ⟨by rfl, Go.below_drewN HB.out n⟩
end Go.Proofs.YtigicmnngppipaaGreatDoor
/- A float's sign turned. No condition. -/
namespace PF
theorem xor63 (x : Nat) (h : x < 9223372036854775808) : x ^^^ 9223372036854775808 = x + 9223372036854775808 := by
  have hl : x < 2 ^ 63 := h
  have e : x + 9223372036854775808 = x ||| 2 ^ 63 := by
    rw [Nat.or_comm, Nat.add_comm]
    exact Nat.two_pow_add_eq_or_of_lt hl 1
  rw [e]
  show x ^^^ 2 ^ 63 = _
  apply Nat.eq_of_testBit_eq
  intro i
  rw [Nat.testBit_xor, Nat.testBit_or, Nat.testBit_two_pow]
  by_cases hi : 63 = i
  · subst hi
    rw [Nat.testBit_lt_two_pow hl]
    simp
  · simp [hi]
end PF
/- The short way: a product or a quotient of floats. Conditions: the cells of the table of powers as floats; the number of a mantissa's bits. -/
namespace Go.Proofs.YtigicmnngppipaaGreatDoor
open Go.RowKit
set_option maxRecDepth 100000
set_option maxHeartbeats 2000000
structure Flo (T : Nat → Nat) (w : World) : Prop where
  info : w.cell? ⟨16, 0, none⟩ = some (.int .u64 52)
  ok : PF.TabOk T
  tab : ∃ g o, w.cell? ⟨19, 0, none⟩ = some (.slice (some ⟨g, o, none⟩) 23 23) ∧ ∀ k : Nat, k ≤ 22 → w.cell? ⟨g, o + k, none⟩ = some (.float .f64 (T k))
theorem neg63 (man : Nat) : Op.negFloat .f64 (floatOfInt .f64 (man : Int)) = floatOfInt .f64 (man : Int) + 9223372036854775808 := by
  have h : floatOfInt .f64 (man : Int) < 9223372036854775808 := by rw [PF.ofInt_eq]; exact PF.nearest_pos _ _
  exact PF.xor63 _ h
/-- The answer, and whether it is one. -/
def ExPost (o : Option Nat) (e : Ending) : Prop := (∃ r, o = some r ∧ e = .returned (.tuple #[.float .f64 r, .bool true])) ∨ (o = none ∧ ∃ x, e = .returned (.tuple #[.float .f64 x, .bool false]))
theorem ExPost.yes {o : Option Nat} {e : Ending} (r : Nat) (h : o = some r) (he : e = .returned (.tuple #[.float .f64 r, .bool true])) : ExPost o e := .inl ⟨r, h, he⟩
theorem ExPost.no {o : Option Nat} {e : Ending} (x : Nat) (h : o = none) (he : e = .returned (.tuple #[.float .f64 x, .bool false])) : ExPost o e := .inr ⟨h, x, he⟩
theorem exact215 (T : Nat → Nat) (man : Nat) (hm : man < 18446744073709551616) (p : Int) (hp : -1000 ≤ p) (hp2 : p ≤ 1000) (neg : Bool) (w : World) (hw : Flo T w) :
    Calls Tryz.prog 255 #[.int .u64 (man : Int), .int .i64 p, .bool neg] w fun e w' => ExPost (PF.exact64 T man p neg) e ∧ w = w' := by
  obtain ⟨hi, hok, g, o, h12, htab⟩ := hw
  by_cases hc : man / 4503599627370496 = 0
  · have qi : (man : Int) / 4503599627370496 = 0 := by omega
    have hfl := PF.flt_low man neg hm
    obtain ⟨F0, hF0⟩ : ∃ F0, floatOfInt .f64 (man : Int) = F0 := ⟨_, rfl⟩
    obtain ⟨f, hf⟩ : ∃ f, PF.flt man neg = f := ⟨_, rfl⟩
    have hn : neg = true → Op.negFloat .f64 F0 = f := by
      rintro rfl
      rw [← hF0, ← hf, neg63]; rfl
    have hn2 : neg = false → F0 = f := by
      rintro rfl
      rw [← hF0, ← hf]; rfl
    rw [hf] at hfl
    by_cases h0 : p = 0
    · have e : PF.exact64 T man p neg = some f := by unfold PF.exact64; rw [if_neg (by omega), if_pos h0, hf]
      rw [e]
      clear e hf hfl hc
      subst h0
      cases neg
      · have hn2 := hn2 rfl
        subst hn2
        clear hn
        go_enter Tryz.func255, Tryz.ntmps255
        go_wp2_with fail
        go_ret2
        exact ⟨.yes _ rfl rfl, rfl⟩
      · have hu : Op.unary .neg (.float .f64 F0) = pure (.float .f64 f) := by rw [← hn rfl]; rfl
        clear hn hn2
        go_enter Tryz.func255, Tryz.ntmps255
        go_wp2_with fail
        go_ret2
        exact ⟨.yes _ rfl rfl, rfl⟩
    · by_cases hU : 0 < p ∧ p ≤ 37
      · obtain ⟨k, rfl⟩ : ∃ k : Nat, p = k := ⟨p.toNat, by omega⟩
        have e : PF.exact64 T man k neg = PF.exU T f k := by unfold PF.exact64; rw [if_neg (by omega), if_neg h0, if_pos hU, hf, Int.toNat_natCast]
        rw [e]
        have k0 : (0 : Int) < (k : Int) := hU.1
        have k37 : (k : Int) ≤ 37 := hU.2
        clear e hf hc h0 hU
        unfold PF.exU
        by_cases h22 : 22 < k
        · obtain ⟨j, hj⟩ : ∃ j : Nat, k - 22 = j := ⟨_, rfl⟩
          have hj2 : (k : Int) - 22 = (j : Int) := by omega
          have hj23 : (j : Int) < 23 := by omega
          have k22 : (22 : Int) < (k : Int) := by omega
          have t1 := hok j (by omega)
          have t2 := hok 22 (by omega)
          have m1 := PF.mulF_eq (E := 1170) hfl.1 t1.1 (by omega) (by omega) (by omega) (by omega) (by omega)
          have m2 := PF.mulF_eq (E := 1400) m1.2.1 t2.1 (by omega) (by omega) (by omega) (by omega) (by omega)
          have c1 := htab j (by omega)
          have c2 := htab 22 (by omega)
          have emin : min k 22 = 22 := by omega
          dsimp only
          rw [if_pos h22, hj, emin]
          have r1 := fun w => run_float_arith (P := Tryz.prog) w .mul 148 .f64 f (T j) _ m1.1
          have r2 := fun w => run_float_arith (P := Tryz.prog) w .mul 148 .f64 (PF.mulF f (T j)) (T 22) _ m2.1
          obtain ⟨y, hy⟩ : ∃ y, PF.mulF f (T j) = y := ⟨_, rfl⟩
          rw [hy] at r1 r2 ⊢
          obtain ⟨z, hz⟩ : ∃ z, PF.mulF y (T 22) = z := ⟨_, rfl⟩
          rw [hz] at r2 ⊢
          clear m1 m2 t1 t2 hfl emin hj h22 htab hok hy hz
          by_cases b1 : PF.gtF y PF.e15 = true
          · rw [if_pos (by rw [b1]; rfl)]
            have b1 : (FloatKind.f64.format.order y 4831355200913801216 == some .gt) = true := b1
            cases neg
            · have hn2 := hn2 rfl
              subst hn2
              clear hn
              go_enter Tryz.func255, Tryz.ntmps255
              go_wp2_with fail
              go_ret2
              exact ⟨.no _ rfl rfl, rfl⟩
            · have hu : Op.unary .neg (.float .f64 F0) = pure (.float .f64 f) := by rw [← hn rfl]; rfl
              clear hn hn2
              go_enter Tryz.func255, Tryz.ntmps255
              go_wp2_with fail
              go_ret2
              exact ⟨.no _ rfl rfl, rfl⟩
          · have b1 : PF.gtF y PF.e15 = false := by simpa using b1
            have b1' : (FloatKind.f64.format.order y 4831355200913801216 == some .gt) = false := b1
            by_cases b2 : PF.ltF y PF.ne15 = true
            · rw [if_pos (by rw [b1, b2]; rfl)]
              have b2 : (FloatKind.f64.format.order y 14054727237768577024 == some .lt) = true := b2
              clear b1
              cases neg
              · have hn2 := hn2 rfl
                subst hn2
                clear hn
                go_enter Tryz.func255, Tryz.ntmps255
                go_wp2_with fail
                go_ret2
                exact ⟨.no _ rfl rfl, rfl⟩
              · have hu : Op.unary .neg (.float .f64 F0) = pure (.float .f64 f) := by rw [← hn rfl]; rfl
                clear hn hn2
                go_enter Tryz.func255, Tryz.ntmps255
                go_wp2_with fail
                go_ret2
                exact ⟨.no _ rfl rfl, rfl⟩
            · have b2 : PF.ltF y PF.ne15 = false := by simpa using b2
              rw [if_neg (by rw [b1, b2]; decide)]
              have b2' : (FloatKind.f64.format.order y 14054727237768577024 == some .lt) = false := b2
              clear b1 b2
              cases neg
              · have hn2 := hn2 rfl
                subst hn2
                clear hn
                go_enter Tryz.func255, Tryz.ntmps255
                go_wp2_with fail
                go_ret2
                exact ⟨.yes _ rfl rfl, rfl⟩
              · have hu : Op.unary .neg (.float .f64 F0) = pure (.float .f64 f) := by rw [← hn rfl]; rfl
                clear hn hn2
                go_enter Tryz.func255, Tryz.ntmps255
                go_wp2_with fail
                go_ret2
                exact ⟨.yes _ rfl rfl, rfl⟩
        · have k22 : (k : Int) ≤ 22 := by omega
          have t2 := hok k (by omega)
          have m2 := PF.mulF_eq (E := 1400) hfl.1 t2.1 (by omega) (by omega) (by omega) (by omega) (by omega)
          have c2 := htab k (by omega)
          have emin : min k 22 = k := by omega
          dsimp only
          rw [if_neg h22, emin]
          have r2 := fun w => run_float_arith (P := Tryz.prog) w .mul 148 .f64 f (T k) _ m2.1
          obtain ⟨z, hz⟩ : ∃ z, PF.mulF f (T k) = z := ⟨_, rfl⟩
          rw [hz] at r2 ⊢
          clear m2 t2 hfl emin h22 htab hok hz
          by_cases b1 : PF.gtF f PF.e15 = true
          · rw [if_pos (by rw [b1]; rfl)]
            have b1 : (FloatKind.f64.format.order f 4831355200913801216 == some .gt) = true := b1
            cases neg
            · have hn2 := hn2 rfl
              subst hn2
              clear hn
              go_enter Tryz.func255, Tryz.ntmps255
              go_wp2_with fail
              go_ret2
              exact ⟨.no _ rfl rfl, rfl⟩
            · have hu : Op.unary .neg (.float .f64 F0) = pure (.float .f64 f) := by rw [← hn rfl]; rfl
              clear hn hn2
              go_enter Tryz.func255, Tryz.ntmps255
              go_wp2_with fail
              go_ret2
              exact ⟨.no _ rfl rfl, rfl⟩
          · have b1 : PF.gtF f PF.e15 = false := by simpa using b1
            have b1' : (FloatKind.f64.format.order f 4831355200913801216 == some .gt) = false := b1
            by_cases b2 : PF.ltF f PF.ne15 = true
            · rw [if_pos (by rw [b1, b2]; rfl)]
              have b2 : (FloatKind.f64.format.order f 14054727237768577024 == some .lt) = true := b2
              clear b1
              cases neg
              · have hn2 := hn2 rfl
                subst hn2
                clear hn
                go_enter Tryz.func255, Tryz.ntmps255
                go_wp2_with fail
                go_ret2
                exact ⟨.no _ rfl rfl, rfl⟩
              · have hu : Op.unary .neg (.float .f64 F0) = pure (.float .f64 f) := by rw [← hn rfl]; rfl
                clear hn hn2
                go_enter Tryz.func255, Tryz.ntmps255
                go_wp2_with fail
                go_ret2
                exact ⟨.no _ rfl rfl, rfl⟩
            · have b2 : PF.ltF f PF.ne15 = false := by simpa using b2
              rw [if_neg (by rw [b1, b2]; decide)]
              have b2' : (FloatKind.f64.format.order f 14054727237768577024 == some .lt) = false := b2
              clear b1 b2
              cases neg
              · have hn2 := hn2 rfl
                subst hn2
                clear hn
                go_enter Tryz.func255, Tryz.ntmps255
                go_wp2_with fail
                go_ret2
                exact ⟨.yes _ rfl rfl, rfl⟩
              · have hu : Op.unary .neg (.float .f64 F0) = pure (.float .f64 f) := by rw [← hn rfl]; rfl
                clear hn hn2
                go_enter Tryz.func255, Tryz.ntmps255
                go_wp2_with fail
                go_ret2
                exact ⟨.yes _ rfl rfl, rfl⟩
      · by_cases hD : p < 0 ∧ -22 ≤ p
        · obtain ⟨k, rfl⟩ : ∃ k : Nat, p = -(k : Int) := ⟨(-p).toNat, by omega⟩
          have e : PF.exact64 T man (-(k : Int)) neg = some (PF.divF f (T k)) := by unfold PF.exact64; rw [if_neg (by omega), if_neg h0, if_neg hU, if_pos hD, hf]; congr 3; omega
          rw [e]
          have kn : -(k : Int) < 0 := hD.1
          have k22 : -22 ≤ -(k : Int) := hD.2
          have k23 : (k : Int) < 23 := by omega
          have kz : (-(k : Int) == 0) = false := by simp; omega
          have kp : decide (0 < -(k : Int)) = false := decide_eq_false (by omega)
          have t2 := hok k (by omega)
          have m2 := PF.divF_eq (E := 1500) hfl.1 t2.1 t2.2.1 (by omega) (by omega) (by omega) (by omega) (by omega) (by omega)
          have c2 := htab k (by omega)
          have r2 := fun w => run_float_arith (P := Tryz.prog) w .quo 148 .f64 f (T k) _ m2.1
          obtain ⟨z, hz⟩ : ∃ z, PF.divF f (T k) = z := ⟨_, rfl⟩
          rw [hz] at r2 ⊢
          clear m2 t2 hfl htab hok hz e hf hc h0 hU hD
          cases neg
          · have hn2 := hn2 rfl
            subst hn2
            clear hn
            go_enter Tryz.func255, Tryz.ntmps255
            go_wp2_with fail
            go_ret2
            exact ⟨.yes _ rfl rfl, rfl⟩
          · have hu : Op.unary .neg (.float .f64 F0) = pure (.float .f64 f) := by rw [← hn rfl]; rfl
            clear hn hn2
            go_enter Tryz.func255, Tryz.ntmps255
            go_wp2_with fail
            go_ret2
            exact ⟨.yes _ rfl rfl, rfl⟩
        · have e : PF.exact64 T man p neg = none := by unfold PF.exact64; rw [if_neg (by omega), if_neg h0, if_neg hU, if_neg hD]
          rw [e]
          have kz : (p == 0) = false := by simp; omega
          clear e hfl htab hok hf
          by_cases hpos : 0 < p
          · have k37 : decide (p ≤ 37) = false := decide_eq_false (by omega)
            have kn : decide (p < 0) = false := decide_eq_false (by omega)
            clear hU hD hc
            cases neg
            · have hn2 := hn2 rfl
              subst hn2
              clear hn
              go_enter Tryz.func255, Tryz.ntmps255
              go_wp2_with fail
              go_ret2
              exact ⟨.no _ rfl rfl, rfl⟩
            · have hu : Op.unary .neg (.float .f64 F0) = pure (.float .f64 f) := by rw [← hn rfl]; rfl
              clear hn hn2
              go_enter Tryz.func255, Tryz.ntmps255
              go_wp2_with fail
              go_ret2
              exact ⟨.no _ rfl rfl, rfl⟩
          · have kp : decide (0 < p) = false := decide_eq_false hpos
            have kn : p < 0 := by omega
            have k22 : decide (-22 ≤ p) = false := decide_eq_false (by omega)
            clear hU hD hc hpos
            cases neg
            · have hn2 := hn2 rfl
              subst hn2
              clear hn
              go_enter Tryz.func255, Tryz.ntmps255
              go_wp2_with fail
              go_ret2
              exact ⟨.no _ rfl rfl, rfl⟩
            · have hu : Op.unary .neg (.float .f64 F0) = pure (.float .f64 f) := by rw [← hn rfl]; rfl
              clear hn hn2
              go_enter Tryz.func255, Tryz.ntmps255
              go_wp2_with fail
              go_ret2
              exact ⟨.no _ rfl rfl, rfl⟩
  · have e : PF.exact64 T man p neg = none := by unfold PF.exact64; rw [if_pos hc]
    rw [e]
    obtain ⟨q, hq⟩ : ∃ q : Nat, man / 4503599627370496 = q := ⟨_, rfl⟩
    have qi : (man : Int) / 4503599627370496 = (q : Int) := by omega
    have qn : ((q : Int) != 0) = true := by simp; omega
    clear e hc hq
    go_enter Tryz.func255, Tryz.ntmps255
    go_wp2_with fail
    go_ret2
    exact ⟨.no _ rfl rfl, rfl⟩
end Go.Proofs.YtigicmnngppipaaGreatDoor
