/- Several texts of this proof, laid together. Conditions: as each says. -/
import Derived.Test.YtagiddbfhlokcaaGreatDoorMAN
import Derived.Lib.BitFns
import Derived.Test.YtagiddbfhlokcaaGreatDoorMAJ
import Derived.Laws.FloatArith
import Derived.Deep.Draws
import Derived.Deep.QuietTactic
import Derived.Laws.IdiomStrings
import Derived.IntWalk
/- A number of at most 19 digits times a power of ten. Condition: the cells of the table of powers. -/
namespace Go.Proofs.YtagiddbfhlokcaaGreatDoor
open Go.RowKit
set_option maxRecDepth 100000
theorem blen_eq : ∀ n : Nat, n < 18446744073709551616 → Lib.bitLen n = PF.blen n := by
  intro n
  induction n using Nat.strongRecOn with
  | ind n ih =>
    intro h
    by_cases h0 : n = 0
    · subst h0; decide
    · rw [Lib.bitLen_half n h0 h, ih (n / 2) (by omega) (by omega)]
      unfold PF.blen
      rw [if_neg h0]
      by_cases h1 : n / 2 = 0
      · have : n = 1 := by omega
        subst this
        decide
      · rw [if_neg h1, Nat.log2_def n, if_pos (by omega)]
        omega
theorem len132 (d : Nat) (hd : d < 18446744073709551616) (b : Nat) (hb : PF.blen d = b) (w : World) : Calls Tryz.prog 132 #[.int .u64 (d : Int)] w fun e w' => e = .returned (.int .i64 (b : Int)) ∧ w = w' := by
  refine (Tryz.bits_Len64 (d : Int) w (by omega) (by omega)).mono ?_
  rintro e w' ⟨rfl, h⟩
  rw [Int.toNat_natCast, blen_eq d hd, hb]
  exact ⟨rfl, h.symm⟩
def tabF (T : Nat → Nat × Nat) (p : Int) : Nat × Nat := T (p + 348).toNat
def TabLt (T : Nat → Nat × Nat) : Prop := ∀ k, (T k).1 < 18446744073709551616 ∧ (T k).2 < 18446744073709551616
set_option maxHeartbeats 1000000 in
theorem par216 (T : Nat → Nat × Nat) (hT : TabLt T) (d : Nat) (hd : d < 18446744073709551616) (p : Int) (hp : -345 ≤ p) (hp2 : p ≤ 310) (neg : Bool) (w : World) (hw : Pow T w) (h15 : 15 < w.heap.size) :
    Calls Tryz.prog 216 #[.int .u64 (d : Int), .int .i64 p, .int .u64 ((PF.sgn neg : Nat) : Int)] w fun x w' => x = .returned (.tuple #[.float .f64 (PF.par64 (tabF T) d p neg).1, errV (PF.par64 (tabF T) d p neg).2]) ∧ Below w.heap.size w w' := by
  obtain ⟨k, hk, hk2⟩ : ∃ k : Nat, p = (k : Int) - 348 ∧ k < 696 := ⟨(p + 348).toNat, by omega, by omega⟩
  obtain ⟨b, hb⟩ : ∃ b, PF.blen d = b := ⟨_, rfl⟩
  have hb64 : b ≤ 64 := by rw [← hb]; exact PF.blen_le hd
  obtain ⟨L, hL⟩ : ∃ L, PF.lpow p = L := ⟨_, rfl⟩
  have hL1 : -1200 ≤ L := by rw [← hL]; unfold PF.lpow; omega
  have hL2 : L ≤ 1200 := by rw [← hL]; unfold PF.lpow; omega
  obtain ⟨E, hE⟩ : ∃ E, PF.pE d p = E := ⟨_, rfl⟩
  have hE2 : min (1074 : Int) (53 - (b : Int) - L) = E := by rw [← hE]; unfold PF.pE; rw [hb, hL]
  have hE3 : E ≤ 1074 := by omega
  have hE4 : -1300 ≤ E := by omega
  obtain ⟨c, hc⟩ : ∃ c : Nat, 64 - b = c := ⟨_, rfl⟩
  have hc2 : 64 - (b : Int) = (c : Int) := by omega
  obtain ⟨S, hS⟩ : ∃ S, PF.pS d p = S := ⟨_, rfl⟩
  have hS2 : -(E - (c : Int) + L + 3) = S := by rw [← hS]; unfold PF.pS; rw [hE, hb, hL, hc2]
  have hS8 : 8 ≤ S := by rw [← hS]; exact PF.pS_ge d p
  have m132 := fun w => len132 d hd b hb w
  have m240 := fun w => lpow_walk p (by omega) (by omega) w
  rw [hL] at m240
  have hpre : Pre (w.alloc (.cells #[.int .u64 0, .int .u64 0, .int .i64 0] 306)) w.heap.size (.int .u64 0) (.int .u64 0) (.int .i64 0) := heap_alloc_new w _
  have hpow : Pow T (w.alloc (.cells #[.int .u64 0, .int .u64 0, .int .i64 0] 306)) := ⟨fun k hk => (((Below.refl _ _).alloc (Nat.le_refl _) _).cell (p := ⟨15, k * 2, none⟩) h15).trans (hw.c0 k hk), fun k hk => (((Below.refl _ _).alloc (Nat.le_refl _) _).cell (p := ⟨15, k * 2 + 1, none⟩) h15).trans (hw.c1 k hk)⟩
  have m241 := prescale241 T k hk2 (E - (c : Int)) L (by omega) (by omega) (by omega) (by omega) _ _ _ _ _ hpre hpow h15
  rw [hS2, ← hk] at m241
  have M132 := Lib.hid m132
  have M240 := Lib.hid m240
  have M241 := Lib.hid m241
  have h214 := run214
  have hT1 := hT k
  have ek : tabF T p = T k := by unfold tabF; congr 1; omega
  have os : bits BinOp.or IntKind.u64 ((PF.sgn neg : Nat) : Int) 0 = ((PF.sgn neg : Nat) : Int) := by
    have h := bits_or_u64_nat (PF.sgn neg) 0 (by cases neg <;> simp [PF.sgn]) (by omega)
    rw [Nat.or_zero] at h
    exact h
  have hsg : PF.sgn neg < 18446744073709551616 := by cases neg <;> simp [PF.sgn]
  by_cases hS64 : 64 ≤ S
  · have e : PF.par64 (tabF T) d p neg = (PF.sgn neg, false) := by unfold PF.par64; rw [hS, if_pos hS64]
    rw [e]
    obtain ⟨sg, hsg'⟩ : ∃ sg, PF.sgn neg = sg := ⟨_, rfl⟩
    rw [hsg'] at os ⊢
    clear e hsg hsg' hT hT1 ek m132 m240 m241 hpre hpow hw hS hE hb hL hc hp hp2 hk hk2
    unfold errV
    go_enter Tryz.func216, Tryz.ntmps216
    go_wp2_with fail
    refine (M132.out _).mono ?_
    rintro e w' ⟨rfl, rfl⟩
    go_wp2_with fail
    refine (M240.out _).mono ?_
    rintro e w' ⟨rfl, rfl⟩
    go_wp2_with fail
    refine M241.out.mono ?_
    rintro e w1 ⟨rfl, h1, hb1⟩
    have HB := Lib.hid (((Below.refl w.heap.size w).alloc (Nat.le_refl _) _).trans hb1)
    have c2 := h1.c2
    clear h1 hb1
    go_wp2_with fail
    go_ret2
    exact ⟨by rfl, HB.out⟩
  · obtain ⟨s, rfl⟩ : ∃ s : Nat, S = s := ⟨S.toNat, by omega⟩
    have hs64 : s < 64 := by omega
    obtain ⟨x, hx⟩ : ∃ x : Nat, d * 2 ^ c % 18446744073709551616 = x := ⟨_, rfl⟩
    have lx : x < 18446744073709551616 := by rw [← hx]; exact Nat.mod_lt _ (by omega)
    have wx : IntKind.u64.wrap ((d : Int) * 2 ^ c) = (x : Int) := by
      have e : (d : Int) * 2 ^ c = ((d * 2 ^ c : Nat) : Int) := by norm_cast
      rw [e, IntKind.wrap_u64, ← hx]
      obtain ⟨z, hz⟩ : ∃ z : Nat, d * 2 ^ c = z := ⟨_, rfl⟩
      rw [hz]
      omega
    obtain ⟨u, hu⟩ : ∃ u : Nat, PF.usc x (T k) s = u := ⟨_, rfl⟩
    have lu : u < 72057594037927936 := by rw [← hu]; exact PF.usc_lt x s (T k) lx hT1.1 (by omega)
    have m242 := fun w' h => uscale242 x (T k).1 (T k).2 s lx hT1.1 hT1.2 hs64 w' w.heap.size h
    obtain ⟨v, hv⟩ : ∃ v : Nat, (if decide (36028797018963966 ≤ u) then u / 2 ||| u % 2 else u) = v := ⟨_, rfl⟩
    obtain ⟨e', he'⟩ : ∃ e' : Int, -(E - (if decide (36028797018963966 ≤ u) then 1 else 0)) = e' := ⟨_, rfl⟩
    have e : PF.par64 (tabF T) d p neg = PF.pack (PF.sgn neg + PF.rnd v) e' := by
      unfold PF.par64
      rw [hS, if_neg hS64, ek, hb, hE, hc]
      have t64 : PF.two64 = 18446744073709551616 := rfl
      dsimp only
      rw [t64, hx, Int.toNat_natCast, hu, hv, he']
    rw [e]
    have lv : v < 36028797018963968 ∧ -1074 ≤ e' ∧ e' ≤ 5000 := by
      rw [← hv, ← he']
      by_cases hB : 36028797018963966 ≤ u
      · simp only [hB, decide_true, if_true]
        exact ⟨PF.half_or u lu, by omega, by omega⟩
      · simp only [hB, decide_false, if_false, Bool.false_eq_true]
        exact ⟨by omega, by omega, by omega⟩
    obtain ⟨r, hr⟩ : ∃ r : Nat, PF.rnd v = r := ⟨_, rfl⟩
    have lr : r ≤ 9007199254740992 := by rw [← hr]; unfold PF.rnd; omega
    have m245 := fun w => round245 v (by omega) w
    have m247 := fun w => pack247 neg r lr e' lv.2.1 lv.2.2 w
    rw [hr] at m245 ⊢
    have om : bits BinOp.or IntKind.u64 ((PF.sgn neg : Nat) : Int) (r : Int) = ((PF.sgn neg + r : Nat) : Int) := by
      have h := bits_or_u64_nat (PF.sgn neg) r hsg (by omega)
      rw [PF.or_sgn neg r (by omega)] at h
      exact h
    obtain ⟨res, hres⟩ : ∃ res, PF.pack (PF.sgn neg + r) e' = res := ⟨_, rfl⟩
    obtain ⟨m, hm⟩ : ∃ m, PF.sgn neg + r = m := ⟨_, rfl⟩
    rw [hres] at m247 ⊢
    rw [hm] at m247 om
    obtain ⟨sg, hsg'⟩ : ∃ sg, PF.sgn neg = sg := ⟨_, rfl⟩
    rw [hsg'] at om ⊢
    have M242 := Lib.hid m242
    have M245 := Lib.hid m245
    have M247 := Lib.hid m247
    have a1 : bits BinOp.and IntKind.u64 (u : Int) 1 = ((u % 2 : Nat) : Int) := by
      have h := bits_and_u64_nat u 1 (by omega) (by omega)
      rw [Nat.and_one_is_mod] at h
      exact h
    obtain ⟨y, hy⟩ : ∃ y : Nat, u % 2 = y := ⟨_, rfl⟩
    rw [hy] at a1 hv
    have m160t := bool160 true
    have m160f := bool160 false
    have HU := Lib.hid hu
    by_cases hB : 36028797018963966 ≤ u
    · simp only [hB, decide_true, if_true] at hv he'
      obtain ⟨q, hq⟩ : ∃ q : Nat, u / 2 = q := ⟨_, rfl⟩
      have qi : (u : Int) / 2 = (q : Int) := by omega
      have vo := bits_or_u64_nat q y (by omega) (by omega)
      rw [hq] at hv
      rw [hv] at vo
      have hBi : (36028797018963966 : Int) ≤ (u : Int) := by omega
      have ee : -(E - 1) = e' := he'
      clear hsg hsg' hT hT1 ek m132 m240 m241 hpre hpow hw hS hE hb hL hc hp hp2 hk hk2 m242 m245 m247 hres hm hr hv he' e hx lv lr hB hq hy hu os
      go_enter Tryz.func216, Tryz.ntmps216
      go_wp2_with fail
      refine (M132.out _).mono ?_
      rintro e w' ⟨rfl, rfl⟩
      go_wp2_with fail
      refine (M240.out _).mono ?_
      rintro e w' ⟨rfl, rfl⟩
      go_wp2_with fail
      refine M241.out.mono ?_
      rintro e w1 ⟨rfl, h1, hb1⟩
      have HB := Lib.hid (((Below.refl w.heap.size w).alloc (Nat.le_refl _) _).trans hb1)
      have c2 := h1.c2
      have H1 := Lib.hid h1
      clear h1 hb1
      go_wp2_with fail
      refine (M242.out _ H1.out).mono ?_
      rintro e w2 ⟨rfl, n, rfl⟩
      have hu := HU.out
      rw [show ((T k).1, (T k).2) = T k from rfl, hu]
      clear hu
      go_wp2_with fail
      refine (unmin53 _).mono ?_
      rintro e w' ⟨rfl, rfl⟩
      go_wp2_with fail
      refine (m160t _).mono ?_
      rintro e w' ⟨rfl, rfl⟩
      go_wp2_with fail
      refine (M245.out _).mono ?_
      rintro e w' ⟨rfl, rfl⟩
      go_wp2_with fail
      refine (M247.out _).mono ?_
      rintro e w' ⟨rfl, rfl⟩
      go_wp2_with fail
      go_ret2
      exact ⟨by rfl, below_drewN HB.out n⟩
    · simp only [hB, decide_false, if_false, Bool.false_eq_true] at hv he'
      have vo := bits_or_u64_nat u y (by omega) (by omega)
      have uo : u ||| y = u := by rw [← hy]; exact PF.or_mod2 u
      rw [uo] at vo
      subst hv
      have hBi : decide ((36028797018963966 : Int) ≤ (u : Int)) = false := decide_eq_false (by omega)
      have ee : -(E - 0) = e' := he'
      rw [Int.sub_zero] at ee
      clear hsg hsg' hT hT1 ek m132 m240 m241 hpre hpow hw hS hE hb hL hc hp hp2 hk hk2 m242 m245 m247 hres hm hr he' e hx lv lr hB hy hu os uo
      go_enter Tryz.func216, Tryz.ntmps216
      go_wp2_with fail
      refine (M132.out _).mono ?_
      rintro e w' ⟨rfl, rfl⟩
      go_wp2_with fail
      refine (M240.out _).mono ?_
      rintro e w' ⟨rfl, rfl⟩
      go_wp2_with fail
      refine M241.out.mono ?_
      rintro e w1 ⟨rfl, h1, hb1⟩
      have HB := Lib.hid (((Below.refl w.heap.size w).alloc (Nat.le_refl _) _).trans hb1)
      have c2 := h1.c2
      have H1 := Lib.hid h1
      clear h1 hb1
      go_wp2_with fail
      refine (M242.out _ H1.out).mono ?_
      rintro e w2 ⟨rfl, n, rfl⟩
      have hu := HU.out
      rw [show ((T k).1, (T k).2) = T k from rfl, hu]
      clear hu
      go_wp2_with fail
      refine (unmin53 _).mono ?_
      rintro e w' ⟨rfl, rfl⟩
      go_wp2_with fail
      refine (m160f _).mono ?_
      rintro e w' ⟨rfl, rfl⟩
      go_wp2_with fail
      refine (M245.out _).mono ?_
      rintro e w' ⟨rfl, rfl⟩
      go_wp2_with fail
      refine (M247.out _).mono ?_
      rintro e w' ⟨rfl, rfl⟩
      go_wp2_with fail
      go_ret2
      exact ⟨by rfl, below_drewN HB.out n⟩
end Go.Proofs.YtagiddbfhlokcaaGreatDoor
/- The short way: a product or a quotient of floats. Conditions: the cells of the table of powers as floats; the number of a mantissa's bits. -/
namespace Go.Proofs.YtagiddbfhlokcaaGreatDoor
open Go.RowKit
set_option maxRecDepth 100000
set_option maxHeartbeats 2000000
structure Flo (T : Nat → Nat) (w : World) : Prop where
  info : w.cell? ⟨7, 0, none⟩ = some (.int .u64 52)
  ok : PF.TabOk T
  tab : ∃ g o, w.cell? ⟨12, 0, none⟩ = some (.slice (some ⟨g, o, none⟩) 23 23) ∧ ∀ k : Nat, k ≤ 22 → w.cell? ⟨g, o + k, none⟩ = some (.float .f64 (T k))
theorem neg63 (man : Nat) : Op.negFloat .f64 (floatOfInt .f64 (man : Int)) = floatOfInt .f64 (man : Int) + 9223372036854775808 := by
  have h : floatOfInt .f64 (man : Int) < 9223372036854775808 := by rw [PF.ofInt_eq]; exact PF.nearest_pos _ _
  exact PF.xor63 _ h
/-- The answer, and whether it is one. -/
def ExPost (o : Option Nat) (e : Ending) : Prop := (∃ r, o = some r ∧ e = .returned (.tuple #[.float .f64 r, .bool true])) ∨ (o = none ∧ ∃ x, e = .returned (.tuple #[.float .f64 x, .bool false]))
theorem ExPost.yes {o : Option Nat} {e : Ending} (r : Nat) (h : o = some r) (he : e = .returned (.tuple #[.float .f64 r, .bool true])) : ExPost o e := .inl ⟨r, h, he⟩
theorem ExPost.no {o : Option Nat} {e : Ending} (x : Nat) (h : o = none) (he : e = .returned (.tuple #[.float .f64 x, .bool false])) : ExPost o e := .inr ⟨h, x, he⟩
theorem exact215 (T : Nat → Nat) (man : Nat) (hm : man < 18446744073709551616) (p : Int) (hp : -1000 ≤ p) (hp2 : p ≤ 1000) (neg : Bool) (w : World) (hw : Flo T w) :
    Calls Tryz.prog 215 #[.int .u64 (man : Int), .int .i64 p, .bool neg] w fun e w' => ExPost (PF.exact64 T man p neg) e ∧ w = w' := by
  obtain ⟨hi, hok, g, o, h12, htab⟩ := hw
  by_cases hc : man / 4503599627370496 = 0
  · have qi : (man : Int) / 4503599627370496 = 0 := by omega
    have hfl := PF.flt_low man neg hm
    obtain ⟨F0, hF0⟩ : ∃ F0, floatOfInt .f64 (man : Int) = F0 := ⟨_, rfl⟩
    obtain ⟨f, hf⟩ : ∃ f, PF.flt man neg = f := ⟨_, rfl⟩
    have hn : neg = true → Op.negFloat .f64 F0 = f := by
      rintro rfl
      rw [← hF0, ← hf, neg63]; rfl
    have hn2 : neg = false → F0 = f := by
      rintro rfl
      rw [← hF0, ← hf]; rfl
    rw [hf] at hfl
    by_cases h0 : p = 0
    · have e : PF.exact64 T man p neg = some f := by unfold PF.exact64; rw [if_neg (by omega), if_pos h0, hf]
      rw [e]
      clear e hf hfl hc
      subst h0
      cases neg
      · have hn2 := hn2 rfl
        subst hn2
        clear hn
        go_enter Tryz.func215, Tryz.ntmps215
        go_wp2_with fail
        go_ret2
        exact ⟨.yes _ rfl rfl, rfl⟩
      · have hu : Op.unary .neg (.float .f64 F0) = pure (.float .f64 f) := by rw [← hn rfl]; rfl
        clear hn hn2
        go_enter Tryz.func215, Tryz.ntmps215
        go_wp2_with fail
        go_ret2
        exact ⟨.yes _ rfl rfl, rfl⟩
    · by_cases hU : 0 < p ∧ p ≤ 37
      · obtain ⟨k, rfl⟩ : ∃ k : Nat, p = k := ⟨p.toNat, by omega⟩
        have e : PF.exact64 T man k neg = PF.exU T f k := by unfold PF.exact64; rw [if_neg (by omega), if_neg h0, if_pos hU, hf, Int.toNat_natCast]
        rw [e]
        have k0 : (0 : Int) < (k : Int) := hU.1
        have k37 : (k : Int) ≤ 37 := hU.2
        clear e hf hc h0 hU
        unfold PF.exU
        by_cases h22 : 22 < k
        · obtain ⟨j, hj⟩ : ∃ j : Nat, k - 22 = j := ⟨_, rfl⟩
          have hj2 : (k : Int) - 22 = (j : Int) := by omega
          have hj23 : (j : Int) < 23 := by omega
          have k22 : (22 : Int) < (k : Int) := by omega
          have t1 := hok j (by omega)
          have t2 := hok 22 (by omega)
          have m1 := PF.mulF_eq (E := 1170) hfl.1 t1.1 (by omega) (by omega) (by omega) (by omega) (by omega)
          have m2 := PF.mulF_eq (E := 1400) m1.2.1 t2.1 (by omega) (by omega) (by omega) (by omega) (by omega)
          have c1 := htab j (by omega)
          have c2 := htab 22 (by omega)
          have emin : min k 22 = 22 := by omega
          dsimp only
          rw [if_pos h22, hj, emin]
          have r1 := fun w => run_float_arith (P := Tryz.prog) w .mul 99 .f64 f (T j) _ m1.1
          have r2 := fun w => run_float_arith (P := Tryz.prog) w .mul 99 .f64 (PF.mulF f (T j)) (T 22) _ m2.1
          obtain ⟨y, hy⟩ : ∃ y, PF.mulF f (T j) = y := ⟨_, rfl⟩
          rw [hy] at r1 r2 ⊢
          obtain ⟨z, hz⟩ : ∃ z, PF.mulF y (T 22) = z := ⟨_, rfl⟩
          rw [hz] at r2 ⊢
          clear m1 m2 t1 t2 hfl emin hj h22 htab hok hy hz
          by_cases b1 : PF.gtF y PF.e15 = true
          · rw [if_pos (by rw [b1]; rfl)]
            have b1 : (FloatKind.f64.format.order y 4831355200913801216 == some .gt) = true := b1
            cases neg
            · have hn2 := hn2 rfl
              subst hn2
              clear hn
              go_enter Tryz.func215, Tryz.ntmps215
              go_wp2_with fail
              go_ret2
              exact ⟨.no _ rfl rfl, rfl⟩
            · have hu : Op.unary .neg (.float .f64 F0) = pure (.float .f64 f) := by rw [← hn rfl]; rfl
              clear hn hn2
              go_enter Tryz.func215, Tryz.ntmps215
              go_wp2_with fail
              go_ret2
              exact ⟨.no _ rfl rfl, rfl⟩
          · have b1 : PF.gtF y PF.e15 = false := by simpa using b1
            have b1' : (FloatKind.f64.format.order y 4831355200913801216 == some .gt) = false := b1
            by_cases b2 : PF.ltF y PF.ne15 = true
            · rw [if_pos (by rw [b1, b2]; rfl)]
              have b2 : (FloatKind.f64.format.order y 14054727237768577024 == some .lt) = true := b2
              clear b1
              cases neg
              · have hn2 := hn2 rfl
                subst hn2
                clear hn
                go_enter Tryz.func215, Tryz.ntmps215
                go_wp2_with fail
                go_ret2
                exact ⟨.no _ rfl rfl, rfl⟩
              · have hu : Op.unary .neg (.float .f64 F0) = pure (.float .f64 f) := by rw [← hn rfl]; rfl
                clear hn hn2
                go_enter Tryz.func215, Tryz.ntmps215
                go_wp2_with fail
                go_ret2
                exact ⟨.no _ rfl rfl, rfl⟩
            · have b2 : PF.ltF y PF.ne15 = false := by simpa using b2
              rw [if_neg (by rw [b1, b2]; decide)]
              have b2' : (FloatKind.f64.format.order y 14054727237768577024 == some .lt) = false := b2
              clear b1 b2
              cases neg
              · have hn2 := hn2 rfl
                subst hn2
                clear hn
                go_enter Tryz.func215, Tryz.ntmps215
                go_wp2_with fail
                go_ret2
                exact ⟨.yes _ rfl rfl, rfl⟩
              · have hu : Op.unary .neg (.float .f64 F0) = pure (.float .f64 f) := by rw [← hn rfl]; rfl
                clear hn hn2
                go_enter Tryz.func215, Tryz.ntmps215
                go_wp2_with fail
                go_ret2
                exact ⟨.yes _ rfl rfl, rfl⟩
        · have k22 : (k : Int) ≤ 22 := by omega
          have t2 := hok k (by omega)
          have m2 := PF.mulF_eq (E := 1400) hfl.1 t2.1 (by omega) (by omega) (by omega) (by omega) (by omega)
          have c2 := htab k (by omega)
          have emin : min k 22 = k := by omega
          dsimp only
          rw [if_neg h22, emin]
          have r2 := fun w => run_float_arith (P := Tryz.prog) w .mul 99 .f64 f (T k) _ m2.1
          obtain ⟨z, hz⟩ : ∃ z, PF.mulF f (T k) = z := ⟨_, rfl⟩
          rw [hz] at r2 ⊢
          clear m2 t2 hfl emin h22 htab hok hz
          by_cases b1 : PF.gtF f PF.e15 = true
          · rw [if_pos (by rw [b1]; rfl)]
            have b1 : (FloatKind.f64.format.order f 4831355200913801216 == some .gt) = true := b1
            cases neg
            · have hn2 := hn2 rfl
              subst hn2
              clear hn
              go_enter Tryz.func215, Tryz.ntmps215
              go_wp2_with fail
              go_ret2
              exact ⟨.no _ rfl rfl, rfl⟩
            · have hu : Op.unary .neg (.float .f64 F0) = pure (.float .f64 f) := by rw [← hn rfl]; rfl
              clear hn hn2
              go_enter Tryz.func215, Tryz.ntmps215
              go_wp2_with fail
              go_ret2
              exact ⟨.no _ rfl rfl, rfl⟩
          · have b1 : PF.gtF f PF.e15 = false := by simpa using b1
            have b1' : (FloatKind.f64.format.order f 4831355200913801216 == some .gt) = false := b1
            by_cases b2 : PF.ltF f PF.ne15 = true
            · rw [if_pos (by rw [b1, b2]; rfl)]
              have b2 : (FloatKind.f64.format.order f 14054727237768577024 == some .lt) = true := b2
              clear b1
              cases neg
              · have hn2 := hn2 rfl
                subst hn2
                clear hn
                go_enter Tryz.func215, Tryz.ntmps215
                go_wp2_with fail
                go_ret2
                exact ⟨.no _ rfl rfl, rfl⟩
              · have hu : Op.unary .neg (.float .f64 F0) = pure (.float .f64 f) := by rw [← hn rfl]; rfl
                clear hn hn2
                go_enter Tryz.func215, Tryz.ntmps215
                go_wp2_with fail
                go_ret2
                exact ⟨.no _ rfl rfl, rfl⟩
            · have b2 : PF.ltF f PF.ne15 = false := by simpa using b2
              rw [if_neg (by rw [b1, b2]; decide)]
              have b2' : (FloatKind.f64.format.order f 14054727237768577024 == some .lt) = false := b2
              clear b1 b2
              cases neg
              · have hn2 := hn2 rfl
                subst hn2
                clear hn
                go_enter Tryz.func215, Tryz.ntmps215
                go_wp2_with fail
                go_ret2
                exact ⟨.yes _ rfl rfl, rfl⟩
              · have hu : Op.unary .neg (.float .f64 F0) = pure (.float .f64 f) := by rw [← hn rfl]; rfl
                clear hn hn2
                go_enter Tryz.func215, Tryz.ntmps215
                go_wp2_with fail
                go_ret2
                exact ⟨.yes _ rfl rfl, rfl⟩
      · by_cases hD : p < 0 ∧ -22 ≤ p
        · obtain ⟨k, rfl⟩ : ∃ k : Nat, p = -(k : Int) := ⟨(-p).toNat, by omega⟩
          have e : PF.exact64 T man (-(k : Int)) neg = some (PF.divF f (T k)) := by unfold PF.exact64; rw [if_neg (by omega), if_neg h0, if_neg hU, if_pos hD, hf]; congr 3; omega
          rw [e]
          have kn : -(k : Int) < 0 := hD.1
          have k22 : -22 ≤ -(k : Int) := hD.2
          have k23 : (k : Int) < 23 := by omega
          have kz : (-(k : Int) == 0) = false := by simp; omega
          have kp : decide (0 < -(k : Int)) = false := decide_eq_false (by omega)
          have t2 := hok k (by omega)
          have m2 := PF.divF_eq (E := 1500) hfl.1 t2.1 t2.2.1 (by omega) (by omega) (by omega) (by omega) (by omega) (by omega)
          have c2 := htab k (by omega)
          have r2 := fun w => run_float_arith (P := Tryz.prog) w .quo 99 .f64 f (T k) _ m2.1
          obtain ⟨z, hz⟩ : ∃ z, PF.divF f (T k) = z := ⟨_, rfl⟩
          rw [hz] at r2 ⊢
          clear m2 t2 hfl htab hok hz e hf hc h0 hU hD
          cases neg
          · have hn2 := hn2 rfl
            subst hn2
            clear hn
            go_enter Tryz.func215, Tryz.ntmps215
            go_wp2_with fail
            go_ret2
            exact ⟨.yes _ rfl rfl, rfl⟩
          · have hu : Op.unary .neg (.float .f64 F0) = pure (.float .f64 f) := by rw [← hn rfl]; rfl
            clear hn hn2
            go_enter Tryz.func215, Tryz.ntmps215
            go_wp2_with fail
            go_ret2
            exact ⟨.yes _ rfl rfl, rfl⟩
        · have e : PF.exact64 T man p neg = none := by unfold PF.exact64; rw [if_neg (by omega), if_neg h0, if_neg hU, if_neg hD]
          rw [e]
          have kz : (p == 0) = false := by simp; omega
          clear e hfl htab hok hf
          by_cases hpos : 0 < p
          · have k37 : decide (p ≤ 37) = false := decide_eq_false (by omega)
            have kn : decide (p < 0) = false := decide_eq_false (by omega)
            clear hU hD hc
            cases neg
            · have hn2 := hn2 rfl
              subst hn2
              clear hn
              go_enter Tryz.func215, Tryz.ntmps215
              go_wp2_with fail
              go_ret2
              exact ⟨.no _ rfl rfl, rfl⟩
            · have hu : Op.unary .neg (.float .f64 F0) = pure (.float .f64 f) := by rw [← hn rfl]; rfl
              clear hn hn2
              go_enter Tryz.func215, Tryz.ntmps215
              go_wp2_with fail
              go_ret2
              exact ⟨.no _ rfl rfl, rfl⟩
          · have kp : decide (0 < p) = false := decide_eq_false hpos
            have kn : p < 0 := by omega
            have k22 : decide (-22 ≤ p) = false := decide_eq_false (by omega)
            clear hU hD hc hpos
            cases neg
            · have hn2 := hn2 rfl
              subst hn2
              clear hn
              go_enter Tryz.func215, Tryz.ntmps215
              go_wp2_with fail
              go_ret2
              exact ⟨.no _ rfl rfl, rfl⟩
            · have hu : Op.unary .neg (.float .f64 F0) = pure (.float .f64 f) := by rw [← hn rfl]; rfl
              clear hn hn2
              go_enter Tryz.func215, Tryz.ntmps215
              go_wp2_with fail
              go_ret2
              exact ⟨.no _ rfl rfl, rfl⟩
  · have e : PF.exact64 T man p neg = none := by unfold PF.exact64; rw [if_pos hc]
    rw [e]
    obtain ⟨q, hq⟩ : ∃ q : Nat, man / 4503599627370496 = q := ⟨_, rfl⟩
    have qi : (man : Int) / 4503599627370496 = (q : Int) := by omega
    have qn : ((q : Int) != 0) = true := by simp; omega
    clear e hc hq
    go_enter Tryz.func215, Tryz.ntmps215
    go_wp2_with fail
    go_ret2
    exact ⟨.no _ rfl rfl, rfl⟩
end Go.Proofs.YtagiddbfhlokcaaGreatDoor
/- A text that begins with a digit, perhaps behind a sign, is no special name. No condition. -/
namespace Go.Proofs.YtagiddbfhlokcaaGreatDoor
open Go.RowKit
set_option maxRecDepth 100000
theorem prefix237 (s : ByteArray) (c : UInt8) (h0 : 0 < s.size) (hc : s[0] = c) (hd : c.toNat ≤ 57) (w : World) :
    Calls Tryz.prog 237 #[.string s, .string ⟨#[105, 110, 102, 105, 110, 105, 116, 121]⟩] w fun e w' => e = .returned (.int .i64 0) ∧ w = w' := by
  obtain ⟨n, hn⟩ : ∃ n : Nat, min 8 s.size = n := ⟨_, rfl⟩
  have hn1 : (0 : Int) < (n : Int) := by omega
  have hmin : min (8 : Int) (s.size : Int) = (n : Int) := by omega
  have hc65 : ¬(65 : Int) ≤ (c.toNat : Int) := by omega
  have hne : ((c.toNat : Int) != 105) = true := by simp; omega
  have hx : ((ByteArray.mk #[105, 110, 102, 105, 110, 105, 116, 121])[0]'(by decide)).toNat = 105 := by rfl
  have h0i : (0 : Int) < (s.size : Int) := by omega
  clear hd
  go_enter Tryz.func237, Tryz.ntmps237
  go_wp2
  go_loopw [6] (fun i wr => i = .int .i64 0 ∧ w = wr) (fun _ _ => 0)
  case atStart => exact ⟨rfl, rfl⟩
  case round =>
    obtain ⟨rfl, rfl⟩ := hrel
    go_wp2
    go_ret
    exact ⟨rfl, rfl⟩
/-- The text behind a sign. -/
def Digit0 (s : ByteArray) : Prop := ∃ (h : 0 < s.size), 48 ≤ s[0].toNat ∧ s[0].toNat ≤ 57
theorem special204_digit (s : ByteArray) (hd : Digit0 s) (w : World) :
    Calls Tryz.prog 204 #[.string s] w fun e w' => e = .returned (.tuple #[.float .f64 0, .int .i64 0, .bool false]) ∧ w = w' := by
  obtain ⟨h0, hd1, hd2⟩ := hd
  obtain ⟨c, hc⟩ : ∃ c, s[0] = c := ⟨_, rfl⟩
  rw [hc] at hd1 hd2
  have e1 : ((c.toNat : Int) == 43) = false := by rw [beq_eq_false_iff_ne]; omega
  have e2 : ((c.toNat : Int) == 45) = false := by rw [beq_eq_false_iff_ne]; omega
  have e3 : ((c.toNat : Int) == 105) = false := by rw [beq_eq_false_iff_ne]; omega
  have e4 : ((c.toNat : Int) == 73) = false := by rw [beq_eq_false_iff_ne]; omega
  have e5 : ((c.toNat : Int) == 110) = false := by rw [beq_eq_false_iff_ne]; omega
  have e6 : ((c.toNat : Int) == 78) = false := by rw [beq_eq_false_iff_ne]; omega
  have h0i : ((s.size : Int) == 0) = false := by rw [beq_eq_false_iff_ne]; omega
  have h0j : (0 : Int) < (s.size : Int) := by omega
  clear hd1 hd2
  go_enter Tryz.func204, Tryz.ntmps204
  go_wp2
  go_ret3
  exact ⟨rfl, rfl⟩
def Digit1 (s : ByteArray) : Prop := ∃ (h : 1 < s.size), s[0].toNat = 45 ∧ 48 ≤ s[1].toNat ∧ s[1].toNat ≤ 57
theorem special204_minus (s : ByteArray) (hd : Digit1 s) (w : World) :
    Calls Tryz.prog 204 #[.string s] w fun e w' => e = .returned (.tuple #[.float .f64 0, .int .i64 0, .bool false]) ∧ w = w' := by
  obtain ⟨h0, hm, hd1, hd2⟩ := hd
  obtain ⟨c, hc⟩ : ∃ c, s[0] = c := ⟨_, rfl⟩
  obtain ⟨d, hd⟩ : ∃ d, s[1] = d := ⟨_, rfl⟩
  rw [hc] at hm
  rw [hd] at hd1 hd2
  have e1 : ((c.toNat : Int) == 43) = false := by rw [beq_eq_false_iff_ne]; omega
  have e2 : ((c.toNat : Int) == 45) = true := by rw [beq_iff_eq]; omega
  have h0i : ((s.size : Int) == 0) = false := by rw [beq_eq_false_iff_ne]; omega
  have h0j : (0 : Int) < (s.size : Int) := by omega
  have h1j : (1 : Int) ≤ (s.size : Int) := by omega
  have hp := fun w => prefix237 (s.extract 1 s.size) d (by rw [ByteArray.size_extract]; omega) (by rw [ByteArray.getElem_extract]; exact hd) (by omega) w
  have HP := Lib.hid hp
  clear hd1 hd2 hm hp
  go_enter Tryz.func204, Tryz.ntmps204
  go_wp2_with fail
  refine (HP.out _).mono ?_
  rintro e w' ⟨rfl, rfl⟩
  go_wp2_with fail
  go_ret3
  exact ⟨rfl, rfl⟩
end Go.Proofs.YtagiddbfhlokcaaGreatDoor
/- The bytes of a text that is read as a float; 'lower'. No condition. -/
namespace Go.Proofs.YtagiddbfhlokcaaGreatDoor
open Go.RowKit
set_option maxRecDepth 100000
def lowI (c : UInt8) : Int := bits BinOp.or IntKind.u8 (c.toNat : Int) 32
theorem lower200 (c : UInt8) (w : World) : Calls Tryz.prog 200 #[.int .u8 (c.toNat : Int)] w fun e w' => e = .returned (.int .u8 (lowI c)) ∧ w = w' := by
  unfold lowI
  go_enter Tryz.func200, Tryz.ntmps200
  go_wp2
  go_ret
  exact ⟨rfl, rfl⟩
theorem lowI_all : ∀ n : Fin 256, (n.val ≠ 88 → n.val ≠ 120 → bits BinOp.or IntKind.u8 (n.val : Int) 32 ≠ 120) ∧ (n.val = 101 ∨ n.val = 69 → bits BinOp.or IntKind.u8 (n.val : Int) 32 = 101) := by decide +kernel
theorem lowI_x (c : UInt8) (h1 : c.toNat ≠ 88) (h2 : c.toNat ≠ 120) : lowI c ≠ 120 := (lowI_all ⟨c.toNat, c.toNat_lt⟩).1 h1 h2
theorem lowI_e (c : UInt8) (h : c.toNat = 101 ∨ c.toNat = 69) : lowI c = 101 := (lowI_all ⟨c.toNat, c.toNat_lt⟩).2 h
/-- A byte that may stand in such a text. -/
def okB (c : UInt8) : Prop := (48 ≤ c.toNat ∧ c.toNat ≤ 57) ∨ c.toNat = 46 ∨ c.toNat = 101 ∨ c.toNat = 69 ∨ c.toNat = 43 ∨ c.toNat = 45
theorem isDig_iff (c : UInt8) : PF.isDig c = true ↔ 48 ≤ c.toNat ∧ c.toNat ≤ 57 := by simp [PF.isDig]
theorem okD_all {l : List UInt8} (h : PF.okD l = true) : l ≠ [] ∧ ∀ c ∈ l, 48 ≤ c.toNat ∧ c.toNat ≤ 57 := by
  unfold PF.okD at h
  simp only [Bool.and_eq_true, Bool.not_eq_true', List.all_eq_true] at h
  exact ⟨by intro e; rw [e] at h; simp at h, fun c hc => (isDig_iff c).1 (h.2 c hc)⟩
theorem okX_all {l : List UInt8} (h : PF.okX l = true) : ∀ c ∈ l, okB c := by
  cases l with
  | nil => intro c hc; cases hc
  | cons a r =>
    have h : (if a = 43 ∨ a = 45 then PF.okD r else PF.okD (a :: r)) = true := h
    split at h
    · rename_i ha
      intro c hc
      rcases List.mem_cons.1 hc with rfl | hc
      · rcases ha with rfl | rfl <;> simp [okB]
      · exact .inl ((okD_all h).2 c hc)
    · intro c hc
      exact .inl ((okD_all h).2 c hc)
theorem okM_all : ∀ {l : List UInt8} {dot saw : Bool}, PF.okM dot saw l = true → ∀ c ∈ l, okB c
  | [], _, _, _, c, hc => by cases hc
  | a :: r, dot, saw, h, c, hc => by
    unfold PF.okM at h
    split at h
    · rename_i hd
      rcases List.mem_cons.1 hc with rfl | hc
      · exact .inl ((isDig_iff c).1 hd)
      · exact okM_all h c hc
    · split at h
      · rename_i ha
        simp only [Bool.and_eq_true] at h
        rcases List.mem_cons.1 hc with rfl | hc
        · subst ha; simp [okB]
        · exact okM_all h.2 c hc
      · simp only [Bool.and_eq_true, Bool.or_eq_true, decide_eq_true_eq] at h
        rcases List.mem_cons.1 hc with rfl | hc
        · rcases h.1 with rfl | rfl <;> simp [okB]
        · exact okX_all h.2.2 c hc
theorem okM_head {a : UInt8} {r : List UInt8} (h : PF.okM false false (a :: r) = true) : 48 ≤ a.toNat ∧ a.toNat ≤ 57 := by
  unfold PF.okM at h
  split at h
  · rename_i hd; exact (isDig_iff a).1 hd
  · split at h <;> simp at h
end Go.Proofs.YtagiddbfhlokcaaGreatDoor
/- A shift to the left, digit by digit from behind. No condition. -/
namespace PF
/-- What is carried behind j digits. -/
def nJ (ds : List Nat) (k j : Nat) : Nat := val (ds.drop (ds.length - j)) * 2 ^ k / 10 ^ j
theorem nJ_zero (ds : List Nat) (k : Nat) : nJ ds k 0 = 0 := by
  unfold nJ
  rw [Nat.sub_zero, List.drop_length]
  simp [val]
theorem nJ_full (ds : List Nat) (k : Nat) : nJ ds k ds.length = val ds * 2 ^ k / 10 ^ ds.length := by
  unfold nJ
  rw [Nat.sub_self, List.drop_zero]
theorem nJ_lt {ds : List Nat} (hd : ∀ d ∈ ds, d ≤ 9) (k : Nat) {j : Nat} (hj : j ≤ ds.length) : nJ ds k j < 2 ^ k := by
  unfold nJ
  have h := val_lt (ds := ds.drop (ds.length - j)) fun d h => hd d (List.mem_of_mem_drop h)
  rw [List.length_drop, show ds.length - (ds.length - j) = j by omega] at h
  rw [Nat.div_lt_iff_lt_mul (Nat.pow_pos (by omega)), Nat.mul_comm]
  exact Nat.mul_lt_mul_of_pos_left h (Nat.two_pow_pos k)
theorem nJ_step {ds : List Nat} (k : Nat) {j : Nat} (hj : j < ds.length) : (nJ ds k j + ds.getD (ds.length - 1 - j) 0 * 2 ^ k) / 10 = nJ ds k (j + 1) ∧ (nJ ds k j + ds.getD (ds.length - 1 - j) 0 * 2 ^ k) % 10 = val ds * 2 ^ k / 10 ^ j % 10 := by
  have p10 : 0 < 10 ^ j := Nat.pow_pos (by omega)
  have hi : ds.length - (j + 1) < ds.length := by omega
  have e1 : ds.drop (ds.length - (j + 1)) = ds.getD (ds.length - 1 - j) 0 :: ds.drop (ds.length - j) := by
    rw [List.drop_eq_getElem_cons hi, show ds.length - (j + 1) + 1 = ds.length - j by omega]
    congr 1
    rw [List.getD_eq_getElem?_getD, List.getElem?_eq_getElem (by omega), Option.getD_some]
    congr 1
    omega
  have e2 : (ds.drop (ds.length - j)).length = j := by rw [List.length_drop]; omega
  have e3 : val (ds.drop (ds.length - (j + 1))) = ds.getD (ds.length - 1 - j) 0 * 10 ^ j + val (ds.drop (ds.length - j)) := by rw [e1, val_cons, e2]
  have e4 : val ds = val (ds.take (ds.length - (j + 1))) * 10 ^ (j + 1) + val (ds.drop (ds.length - (j + 1))) := by
    conv => lhs; rw [← List.take_append_drop (ds.length - (j + 1)) ds]
    rw [val_append, List.length_drop, show ds.length - (ds.length - (j + 1)) = j + 1 by omega]
  have e5 : nJ ds k j + ds.getD (ds.length - 1 - j) 0 * 2 ^ k = val (ds.drop (ds.length - (j + 1))) * 2 ^ k / 10 ^ j := by
    unfold nJ
    rw [e3, Nat.add_mul, Nat.mul_right_comm, Nat.add_comm (_ * 10 ^ j), Nat.add_mul_div_right _ _ p10]
  rw [e5]
  constructor
  · unfold nJ
    rw [Nat.div_div_eq_div_mul, ← Nat.pow_succ]
  · rw [e4, Nat.add_mul]
    generalize val (ds.take (ds.length - (j + 1))) = A
    generalize val (ds.drop (ds.length - (j + 1))) = B
    have : A * 10 ^ (j + 1) * 2 ^ k = 10 * (A * 2 ^ k) * 10 ^ j := by
      rw [Nat.pow_succ]
      simp only [Nat.mul_assoc, Nat.mul_left_comm, Nat.mul_comm]
    rw [this, Nat.add_comm, Nat.add_mul_div_right _ _ p10, Nat.add_mul_mod_self_left]
/-- The places that are written, from behind: where they lie among the digits. -/
theorem dgs_at {V K p : Nat} (hK : (dgs V).length = K) (hp : p < K) : (dgs V)[p]? = some (V / 10 ^ (K - 1 - p) % 10) := by
  have := dgs_get V p (by omega)
  rw [hK] at this
  exact this
theorem any_drop_step {l : List Nat} {m : Nat} (hm : m < l.length) : (l.drop m).any (· ≠ 0) = (decide (l[m] ≠ 0) || (l.drop (m + 1)).any (· ≠ 0)) := by
  rw [List.drop_eq_getElem_cons hm, List.any_cons]
end PF
