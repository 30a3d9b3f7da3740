/- Several texts of this proof, laid together. Conditions: as each says. -/
import Derived.Test.YtagiddbfhlokcaaGreatDoorLAB
import Derived.Laws.FloatArith
import Derived.Deep.Draws
import Derived.Deep.QuietTactic
import Derived.Laws.IdiomStrings
import Derived.IntWalk
import Derived.Lib.SmallJoins
import Derived.Lib.Builder
import Derived.Deep.LoopGhost
import Derived.Deep.Cut
import Derived.Deep.CutRange
/- The short way: a product or a quotient of floats. Conditions: the cells of the table of powers as floats; the number of a mantissa's bits. -/
namespace Go.Proofs.YtagiddbfhlokcaaGreatDoor
open Go.RowKit
set_option maxRecDepth 100000
set_option maxHeartbeats 2000000
structure Flo (T : Nat → Nat) (w : World) : Prop where
  info : w.cell? ⟨7, 0, none⟩ = some (.int .u64 52)
  ok : PF.TabOk T
  tab : ∃ g o, w.cell? ⟨12, 0, none⟩ = some (.slice (some ⟨g, o, none⟩) 23 23) ∧ ∀ k : Nat, k ≤ 22 → w.cell? ⟨g, o + k, none⟩ = some (.float .f64 (T k))
theorem neg63 (man : Nat) : Op.negFloat .f64 (floatOfInt .f64 (man : Int)) = floatOfInt .f64 (man : Int) + 9223372036854775808 := by
  have h : floatOfInt .f64 (man : Int) < 9223372036854775808 := by rw [PF.ofInt_eq]; exact PF.nearest_pos _ _
  exact PF.xor63 _ h
/-- The answer, and whether it is one. -/
def ExPost (o : Option Nat) (e : Ending) : Prop := (∃ r, o = some r ∧ e = .returned (.tuple #[.float .f64 r, .bool true])) ∨ (o = none ∧ ∃ x, e = .returned (.tuple #[.float .f64 x, .bool false]))
theorem ExPost.yes {o : Option Nat} {e : Ending} (r : Nat) (h : o = some r) (he : e = .returned (.tuple #[.float .f64 r, .bool true])) : ExPost o e := .inl ⟨r, h, he⟩
theorem ExPost.no {o : Option Nat} {e : Ending} (x : Nat) (h : o = none) (he : e = .returned (.tuple #[.float .f64 x, .bool false])) : ExPost o e := .inr ⟨h, x, he⟩
theorem exact215 (T : Nat → Nat) (man : Nat) (hm : man < 18446744073709551616) (p : Int) (hp : -1000 ≤ p) (hp2 : p ≤ 1000) (neg : Bool) (w : World) (hw : Flo T w) :
    Calls Tryz.prog 215 #[.int .u64 (man : Int), .int .i64 p, .bool neg] w fun e w' => ExPost (PF.exact64 T man p neg) e ∧ w = w' := by
  obtain ⟨hi, hok, g, o, h12, htab⟩ := hw
  by_cases hc : man / 4503599627370496 = 0
  · have qi : (man : Int) / 4503599627370496 = 0 := by omega
    have hfl := PF.flt_low man neg hm
    obtain ⟨F0, hF0⟩ : ∃ F0, floatOfInt .f64 (man : Int) = F0 := ⟨_, rfl⟩
    obtain ⟨f, hf⟩ : ∃ f, PF.flt man neg = f := ⟨_, rfl⟩
    have hn : neg = true → Op.negFloat .f64 F0 = f := by
      rintro rfl
      rw [← hF0, ← hf, neg63]; rfl
    have hn2 : neg = false → F0 = f := by
      rintro rfl
      rw [← hF0, ← hf]; rfl
    rw [hf] at hfl
    by_cases h0 : p = 0
    · have e : PF.exact64 T man p neg = some f := by unfold PF.exact64; rw [if_neg (by omega), if_pos h0, hf]
      rw [e]
      clear e hf hfl hc
      subst h0
      cases neg
      · have hn2 := hn2 rfl
        subst hn2
        clear hn
        go_enter Tryz.func215, Tryz.ntmps215
        go_wp2_with fail
        go_ret2
        exact ⟨.yes _ rfl rfl, rfl⟩
      · have hu : Op.unary .neg (.float .f64 F0) = pure (.float .f64 f) := by rw [← hn rfl]; rfl
        clear hn hn2
        go_enter Tryz.func215, Tryz.ntmps215
        go_wp2_with fail
        go_ret2
        exact ⟨.yes _ rfl rfl, rfl⟩
    · by_cases hU : 0 < p ∧ p ≤ 37
      · obtain ⟨k, rfl⟩ : ∃ k : Nat, p = k := ⟨p.toNat, by omega⟩
        have e : PF.exact64 T man k neg = PF.exU T f k := by unfold PF.exact64; rw [if_neg (by omega), if_neg h0, if_pos hU, hf, Int.toNat_natCast]
        rw [e]
        have k0 : (0 : Int) < (k : Int) := hU.1
        have k37 : (k : Int) ≤ 37 := hU.2
        clear e hf hc h0 hU
        unfold PF.exU
        by_cases h22 : 22 < k
        · obtain ⟨j, hj⟩ : ∃ j : Nat, k - 22 = j := ⟨_, rfl⟩
          have hj2 : (k : Int) - 22 = (j : Int) := by omega
          have hj23 : (j : Int) < 23 := by omega
          have k22 : (22 : Int) < (k : Int) := by omega
          have t1 := hok j (by omega)
          have t2 := hok 22 (by omega)
          have m1 := PF.mulF_eq (E := 1170) hfl.1 t1.1 (by omega) (by omega) (by omega) (by omega) (by omega)
          have m2 := PF.mulF_eq (E := 1400) m1.2.1 t2.1 (by omega) (by omega) (by omega) (by omega) (by omega)
          have c1 := htab j (by omega)
          have c2 := htab 22 (by omega)
          have emin : min k 22 = 22 := by omega
          dsimp only
          rw [if_pos h22, hj, emin]
          have r1 := fun w => run_float_arith (P := Tryz.prog) w .mul 99 .f64 f (T j) _ m1.1
          have r2 := fun w => run_float_arith (P := Tryz.prog) w .mul 99 .f64 (PF.mulF f (T j)) (T 22) _ m2.1
          obtain ⟨y, hy⟩ : ∃ y, PF.mulF f (T j) = y := ⟨_, rfl⟩
          rw [hy] at r1 r2 ⊢
          obtain ⟨z, hz⟩ : ∃ z, PF.mulF y (T 22) = z := ⟨_, rfl⟩
          rw [hz] at r2 ⊢
          clear m1 m2 t1 t2 hfl emin hj h22 htab hok hy hz
          by_cases b1 : PF.gtF y PF.e15 = true
          · rw [if_pos (by rw [b1]; rfl)]
            have b1 : (FloatKind.f64.format.order y 4831355200913801216 == some .gt) = true := b1
            cases neg
            · have hn2 := hn2 rfl
              subst hn2
              clear hn
              go_enter Tryz.func215, Tryz.ntmps215
              go_wp2_with fail
              go_ret2
              exact ⟨.no _ rfl rfl, rfl⟩
            · have hu : Op.unary .neg (.float .f64 F0) = pure (.float .f64 f) := by rw [← hn rfl]; rfl
              clear hn hn2
              go_enter Tryz.func215, Tryz.ntmps215
              go_wp2_with fail
              go_ret2
              exact ⟨.no _ rfl rfl, rfl⟩
          · have b1 : PF.gtF y PF.e15 = false := by simpa using b1
            have b1' : (FloatKind.f64.format.order y 4831355200913801216 == some .gt) = false := b1
            by_cases b2 : PF.ltF y PF.ne15 = true
            · rw [if_pos (by rw [b1, b2]; rfl)]
              have b2 : (FloatKind.f64.format.order y 14054727237768577024 == some .lt) = true := b2
              clear b1
              cases neg
              · have hn2 := hn2 rfl
                subst hn2
                clear hn
                go_enter Tryz.func215, Tryz.ntmps215
                go_wp2_with fail
                go_ret2
                exact ⟨.no _ rfl rfl, rfl⟩
              · have hu : Op.unary .neg (.float .f64 F0) = pure (.float .f64 f) := by rw [← hn rfl]; rfl
                clear hn hn2
                go_enter Tryz.func215, Tryz.ntmps215
                go_wp2_with fail
                go_ret2
                exact ⟨.no _ rfl rfl, rfl⟩
            · have b2 : PF.ltF y PF.ne15 = false := by simpa using b2
              rw [if_neg (by rw [b1, b2]; decide)]
              have b2' : (FloatKind.f64.format.order y 14054727237768577024 == some .lt) = false := b2
              clear b1 b2
              cases neg
              · have hn2 := hn2 rfl
                subst hn2
                clear hn
                go_enter Tryz.func215, Tryz.ntmps215
                go_wp2_with fail
                go_ret2
                exact ⟨.yes _ rfl rfl, rfl⟩
              · have hu : Op.unary .neg (.float .f64 F0) = pure (.float .f64 f) := by rw [← hn rfl]; rfl
                clear hn hn2
                go_enter Tryz.func215, Tryz.ntmps215
                go_wp2_with fail
                go_ret2
                exact ⟨.yes _ rfl rfl, rfl⟩
        · have k22 : (k : Int) ≤ 22 := by omega
          have t2 := hok k (by omega)
          have m2 := PF.mulF_eq (E := 1400) hfl.1 t2.1 (by omega) (by omega) (by omega) (by omega) (by omega)
          have c2 := htab k (by omega)
          have emin : min k 22 = k := by omega
          dsimp only
          rw [if_neg h22, emin]
          have r2 := fun w => run_float_arith (P := Tryz.prog) w .mul 99 .f64 f (T k) _ m2.1
          obtain ⟨z, hz⟩ : ∃ z, PF.mulF f (T k) = z := ⟨_, rfl⟩
          rw [hz] at r2 ⊢
          clear m2 t2 hfl emin h22 htab hok hz
          by_cases b1 : PF.gtF f PF.e15 = true
          · rw [if_pos (by rw [b1]; rfl)]
            have b1 : (FloatKind.f64.format.order f 4831355200913801216 == some .gt) = true := b1
            cases neg
            · have hn2 := hn2 rfl
              subst hn2
              clear hn
              go_enter Tryz.func215, Tryz.ntmps215
              go_wp2_with fail
              go_ret2
              exact ⟨.no _ rfl rfl, rfl⟩
            · have hu : Op.unary .neg (.float .f64 F0) = pure (.float .f64 f) := by rw [← hn rfl]; rfl
              clear hn hn2
              go_enter Tryz.func215, Tryz.ntmps215
              go_wp2_with fail
              go_ret2
              exact ⟨.no _ rfl rfl, rfl⟩
          · have b1 : PF.gtF f PF.e15 = false := by simpa using b1
            have b1' : (FloatKind.f64.format.order f 4831355200913801216 == some .gt) = false := b1
            by_cases b2 : PF.ltF f PF.ne15 = true
            · rw [if_pos (by rw [b1, b2]; rfl)]
              have b2 : (FloatKind.f64.format.order f 14054727237768577024 == some .lt) = true := b2
              clear b1
              cases neg
              · have hn2 := hn2 rfl
                subst hn2
                clear hn
                go_enter Tryz.func215, Tryz.ntmps215
                go_wp2_with fail
                go_ret2
                exact ⟨.no _ rfl rfl, rfl⟩
              · have hu : Op.unary .neg (.float .f64 F0) = pure (.float .f64 f) := by rw [← hn rfl]; rfl
                clear hn hn2
                go_enter Tryz.func215, Tryz.ntmps215
                go_wp2_with fail
                go_ret2
                exact ⟨.no _ rfl rfl, rfl⟩
            · have b2 : PF.ltF f PF.ne15 = false := by simpa using b2
              rw [if_neg (by rw [b1, b2]; decide)]
              have b2' : (FloatKind.f64.format.order f 14054727237768577024 == some .lt) = false := b2
              clear b1 b2
              cases neg
              · have hn2 := hn2 rfl
                subst hn2
                clear hn
                go_enter Tryz.func215, Tryz.ntmps215
                go_wp2_with fail
                go_ret2
                exact ⟨.yes _ rfl rfl, rfl⟩
              · have hu : Op.unary .neg (.float .f64 F0) = pure (.float .f64 f) := by rw [← hn rfl]; rfl
                clear hn hn2
                go_enter Tryz.func215, Tryz.ntmps215
                go_wp2_with fail
                go_ret2
                exact ⟨.yes _ rfl rfl, rfl⟩
      · by_cases hD : p < 0 ∧ -22 ≤ p
        · obtain ⟨k, rfl⟩ : ∃ k : Nat, p = -(k : Int) := ⟨(-p).toNat, by omega⟩
          have e : PF.exact64 T man (-(k : Int)) neg = some (PF.divF f (T k)) := by unfold PF.exact64; rw [if_neg (by omega), if_neg h0, if_neg hU, if_pos hD, hf]; congr 3; omega
          rw [e]
          have kn : -(k : Int) < 0 := hD.1
          have k22 : -22 ≤ -(k : Int) := hD.2
          have k23 : (k : Int) < 23 := by omega
          have kz : (-(k : Int) == 0) = false := by simp; omega
          have kp : decide (0 < -(k : Int)) = false := decide_eq_false (by omega)
          have t2 := hok k (by omega)
          have m2 := PF.divF_eq (E := 1500) hfl.1 t2.1 t2.2.1 (by omega) (by omega) (by omega) (by omega) (by omega) (by omega)
          have c2 := htab k (by omega)
          have r2 := fun w => run_float_arith (P := Tryz.prog) w .quo 99 .f64 f (T k) _ m2.1
          obtain ⟨z, hz⟩ : ∃ z, PF.divF f (T k) = z := ⟨_, rfl⟩
          rw [hz] at r2 ⊢
          clear m2 t2 hfl htab hok hz e hf hc h0 hU hD
          cases neg
          · have hn2 := hn2 rfl
            subst hn2
            clear hn
            go_enter Tryz.func215, Tryz.ntmps215
            go_wp2_with fail
            go_ret2
            exact ⟨.yes _ rfl rfl, rfl⟩
          · have hu : Op.unary .neg (.float .f64 F0) = pure (.float .f64 f) := by rw [← hn rfl]; rfl
            clear hn hn2
            go_enter Tryz.func215, Tryz.ntmps215
            go_wp2_with fail
            go_ret2
            exact ⟨.yes _ rfl rfl, rfl⟩
        · have e : PF.exact64 T man p neg = none := by unfold PF.exact64; rw [if_neg (by omega), if_neg h0, if_neg hU, if_neg hD]
          rw [e]
          have kz : (p == 0) = false := by simp; omega
          clear e hfl htab hok hf
          by_cases hpos : 0 < p
          · have k37 : decide (p ≤ 37) = false := decide_eq_false (by omega)
            have kn : decide (p < 0) = false := decide_eq_false (by omega)
            clear hU hD hc
            cases neg
            · have hn2 := hn2 rfl
              subst hn2
              clear hn
              go_enter Tryz.func215, Tryz.ntmps215
              go_wp2_with fail
              go_ret2
              exact ⟨.no _ rfl rfl, rfl⟩
            · have hu : Op.unary .neg (.float .f64 F0) = pure (.float .f64 f) := by rw [← hn rfl]; rfl
              clear hn hn2
              go_enter Tryz.func215, Tryz.ntmps215
              go_wp2_with fail
              go_ret2
              exact ⟨.no _ rfl rfl, rfl⟩
          · have kp : decide (0 < p) = false := decide_eq_false hpos
            have kn : p < 0 := by omega
            have k22 : decide (-22 ≤ p) = false := decide_eq_false (by omega)
            clear hU hD hc hpos
            cases neg
            · have hn2 := hn2 rfl
              subst hn2
              clear hn
              go_enter Tryz.func215, Tryz.ntmps215
              go_wp2_with fail
              go_ret2
              exact ⟨.no _ rfl rfl, rfl⟩
            · have hu : Op.unary .neg (.float .f64 F0) = pure (.float .f64 f) := by rw [← hn rfl]; rfl
              clear hn hn2
              go_enter Tryz.func215, Tryz.ntmps215
              go_wp2_with fail
              go_ret2
              exact ⟨.no _ rfl rfl, rfl⟩
  · have e : PF.exact64 T man p neg = none := by unfold PF.exact64; rw [if_pos hc]
    rw [e]
    obtain ⟨q, hq⟩ : ∃ q : Nat, man / 4503599627370496 = q := ⟨_, rfl⟩
    have qi : (man : Int) / 4503599627370496 = (q : Int) := by omega
    have qn : ((q : Int) != 0) = true := by simp; omega
    clear e hc hq
    go_enter Tryz.func215, Tryz.ntmps215
    go_wp2_with fail
    go_ret2
    exact ⟨.no _ rfl rfl, rfl⟩
end Go.Proofs.YtagiddbfhlokcaaGreatDoor
/- A text that begins with a digit, perhaps behind a sign, is no special name. No condition. -/
namespace Go.Proofs.YtagiddbfhlokcaaGreatDoor
open Go.RowKit
set_option maxRecDepth 100000
theorem prefix237 (s : ByteArray) (c : UInt8) (h0 : 0 < s.size) (hc : s[0] = c) (hd : c.toNat ≤ 57) (w : World) :
    Calls Tryz.prog 237 #[.string s, .string ⟨#[105, 110, 102, 105, 110, 105, 116, 121]⟩] w fun e w' => e = .returned (.int .i64 0) ∧ w = w' := by
  obtain ⟨n, hn⟩ : ∃ n : Nat, min 8 s.size = n := ⟨_, rfl⟩
  have hn1 : (0 : Int) < (n : Int) := by omega
  have hmin : min (8 : Int) (s.size : Int) = (n : Int) := by omega
  have hc65 : ¬(65 : Int) ≤ (c.toNat : Int) := by omega
  have hne : ((c.toNat : Int) != 105) = true := by simp; omega
  have hx : ((ByteArray.mk #[105, 110, 102, 105, 110, 105, 116, 121])[0]'(by decide)).toNat = 105 := by rfl
  have h0i : (0 : Int) < (s.size : Int) := by omega
  clear hd
  go_enter Tryz.func237, Tryz.ntmps237
  go_wp2
  go_loopw [6] (fun i wr => i = .int .i64 0 ∧ w = wr) (fun _ _ => 0)
  case atStart => exact ⟨rfl, rfl⟩
  case round =>
    obtain ⟨rfl, rfl⟩ := hrel
    go_wp2
    go_ret
    exact ⟨rfl, rfl⟩
/-- The text behind a sign. -/
def Digit0 (s : ByteArray) : Prop := ∃ (h : 0 < s.size), 48 ≤ s[0].toNat ∧ s[0].toNat ≤ 57
theorem special204_digit (s : ByteArray) (hd : Digit0 s) (w : World) :
    Calls Tryz.prog 204 #[.string s] w fun e w' => e = .returned (.tuple #[.float .f64 0, .int .i64 0, .bool false]) ∧ w = w' := by
  obtain ⟨h0, hd1, hd2⟩ := hd
  obtain ⟨c, hc⟩ : ∃ c, s[0] = c := ⟨_, rfl⟩
  rw [hc] at hd1 hd2
  have e1 : ((c.toNat : Int) == 43) = false := by rw [beq_eq_false_iff_ne]; omega
  have e2 : ((c.toNat : Int) == 45) = false := by rw [beq_eq_false_iff_ne]; omega
  have e3 : ((c.toNat : Int) == 105) = false := by rw [beq_eq_false_iff_ne]; omega
  have e4 : ((c.toNat : Int) == 73) = false := by rw [beq_eq_false_iff_ne]; omega
  have e5 : ((c.toNat : Int) == 110) = false := by rw [beq_eq_false_iff_ne]; omega
  have e6 : ((c.toNat : Int) == 78) = false := by rw [beq_eq_false_iff_ne]; omega
  have h0i : ((s.size : Int) == 0) = false := by rw [beq_eq_false_iff_ne]; omega
  have h0j : (0 : Int) < (s.size : Int) := by omega
  clear hd1 hd2
  go_enter Tryz.func204, Tryz.ntmps204
  go_wp2
  go_ret3
  exact ⟨rfl, rfl⟩
def Digit1 (s : ByteArray) : Prop := ∃ (h : 1 < s.size), s[0].toNat = 45 ∧ 48 ≤ s[1].toNat ∧ s[1].toNat ≤ 57
theorem special204_minus (s : ByteArray) (hd : Digit1 s) (w : World) :
    Calls Tryz.prog 204 #[.string s] w fun e w' => e = .returned (.tuple #[.float .f64 0, .int .i64 0, .bool false]) ∧ w = w' := by
  obtain ⟨h0, hm, hd1, hd2⟩ := hd
  obtain ⟨c, hc⟩ : ∃ c, s[0] = c := ⟨_, rfl⟩
  obtain ⟨d, hd⟩ : ∃ d, s[1] = d := ⟨_, rfl⟩
  rw [hc] at hm
  rw [hd] at hd1 hd2
  have e1 : ((c.toNat : Int) == 43) = false := by rw [beq_eq_false_iff_ne]; omega
  have e2 : ((c.toNat : Int) == 45) = true := by rw [beq_iff_eq]; omega
  have h0i : ((s.size : Int) == 0) = false := by rw [beq_eq_false_iff_ne]; omega
  have h0j : (0 : Int) < (s.size : Int) := by omega
  have h1j : (1 : Int) ≤ (s.size : Int) := by omega
  have hp := fun w => prefix237 (s.extract 1 s.size) d (by rw [ByteArray.size_extract]; omega) (by rw [ByteArray.getElem_extract]; exact hd) (by omega) w
  have HP := Lib.hid hp
  clear hd1 hd2 hm hp
  go_enter Tryz.func204, Tryz.ntmps204
  go_wp2_with fail
  refine (HP.out _).mono ?_
  rintro e w' ⟨rfl, rfl⟩
  go_wp2_with fail
  go_ret3
  exact ⟨rfl, rfl⟩
end Go.Proofs.YtagiddbfhlokcaaGreatDoor
/- The bytes of a text that is read as a float; 'lower'. No condition. -/
namespace Go.Proofs.YtagiddbfhlokcaaGreatDoor
open Go.RowKit
set_option maxRecDepth 100000
def lowI (c : UInt8) : Int := bits BinOp.or IntKind.u8 (c.toNat : Int) 32
theorem lower200 (c : UInt8) (w : World) : Calls Tryz.prog 200 #[.int .u8 (c.toNat : Int)] w fun e w' => e = .returned (.int .u8 (lowI c)) ∧ w = w' := by
  unfold lowI
  go_enter Tryz.func200, Tryz.ntmps200
  go_wp2
  go_ret
  exact ⟨rfl, rfl⟩
theorem lowI_all : ∀ n : Fin 256, (n.val ≠ 88 → n.val ≠ 120 → bits BinOp.or IntKind.u8 (n.val : Int) 32 ≠ 120) ∧ (n.val = 101 ∨ n.val = 69 → bits BinOp.or IntKind.u8 (n.val : Int) 32 = 101) := by decide +kernel
theorem lowI_x (c : UInt8) (h1 : c.toNat ≠ 88) (h2 : c.toNat ≠ 120) : lowI c ≠ 120 := (lowI_all ⟨c.toNat, c.toNat_lt⟩).1 h1 h2
theorem lowI_e (c : UInt8) (h : c.toNat = 101 ∨ c.toNat = 69) : lowI c = 101 := (lowI_all ⟨c.toNat, c.toNat_lt⟩).2 h
/-- A byte that may stand in such a text. -/
def okB (c : UInt8) : Prop := (48 ≤ c.toNat ∧ c.toNat ≤ 57) ∨ c.toNat = 46 ∨ c.toNat = 101 ∨ c.toNat = 69 ∨ c.toNat = 43 ∨ c.toNat = 45
theorem isDig_iff (c : UInt8) : PF.isDig c = true ↔ 48 ≤ c.toNat ∧ c.toNat ≤ 57 := by simp [PF.isDig]
theorem okD_all {l : List UInt8} (h : PF.okD l = true) : l ≠ [] ∧ ∀ c ∈ l, 48 ≤ c.toNat ∧ c.toNat ≤ 57 := by
  unfold PF.okD at h
  simp only [Bool.and_eq_true, Bool.not_eq_true', List.all_eq_true] at h
  exact ⟨by intro e; rw [e] at h; simp at h, fun c hc => (isDig_iff c).1 (h.2 c hc)⟩
theorem okX_all {l : List UInt8} (h : PF.okX l = true) : ∀ c ∈ l, okB c := by
  cases l with
  | nil => intro c hc; cases hc
  | cons a r =>
    have h : (if a = 43 ∨ a = 45 then PF.okD r else PF.okD (a :: r)) = true := h
    split at h
    · rename_i ha
      intro c hc
      rcases List.mem_cons.1 hc with rfl | hc
      · rcases ha with rfl | rfl <;> simp [okB]
      · exact .inl ((okD_all h).2 c hc)
    · intro c hc
      exact .inl ((okD_all h).2 c hc)
theorem okM_all : ∀ {l : List UInt8} {dot saw : Bool}, PF.okM dot saw l = true → ∀ c ∈ l, okB c
  | [], _, _, _, c, hc => by cases hc
  | a :: r, dot, saw, h, c, hc => by
    unfold PF.okM at h
    split at h
    · rename_i hd
      rcases List.mem_cons.1 hc with rfl | hc
      · exact .inl ((isDig_iff c).1 hd)
      · exact okM_all h c hc
    · split at h
      · rename_i ha
        simp only [Bool.and_eq_true] at h
        rcases List.mem_cons.1 hc with rfl | hc
        · subst ha; simp [okB]
        · exact okM_all h.2 c hc
      · simp only [Bool.and_eq_true, Bool.or_eq_true, decide_eq_true_eq] at h
        rcases List.mem_cons.1 hc with rfl | hc
        · rcases h.1 with rfl | rfl <;> simp [okB]
        · exact okX_all h.2.2 c hc
theorem okM_head {a : UInt8} {r : List UInt8} (h : PF.okM false false (a :: r) = true) : 48 ≤ a.toNat ∧ a.toNat ≤ 57 := by
  unfold PF.okM at h
  split at h
  · rename_i hd; exact (isDig_iff a).1 hd
  · split at h <;> simp at h
end Go.Proofs.YtagiddbfhlokcaaGreatDoor
/- The slow way of ParseFloat, in plain Lean: decimals, shifts, bits. No condition. -/
namespace PF
/-- Digits as a number. -/
def val (ds : List Nat) : Nat := ds.foldl (fun n d => n * 10 + d) 0
/-- A number's digits. -/
def dgs (n : Nat) : List Nat := if n = 0 then [] else dgs (n / 10) ++ [n % 10]
termination_by n
decreasing_by omega
structure Dec where
  ds : List Nat
  dp : Int
  tr : Bool
def trimL (ds : List Nat) : List Nat := (ds.reverse.dropWhile (· == 0)).reverse
def Dec.trim (a : Dec) : Dec := ⟨trimL a.ds, (if trimL a.ds = [] then 0 else a.dp), a.tr⟩
/-- The first digits of a shift to the right: what is left of them, the number, how many were read. -/
def rsz (k : Nat) : Nat → Nat → Nat → Nat × Nat
  | 0, n, r => (n, r)
  | f + 1, n, r => if n / 2 ^ k = 0 then rsz k f (n * 10) (r + 1) else (n, r)
def rs1 (k : Nat) : List Nat → Nat → Nat → List Nat × Nat × Nat
  | [], n, r => ([], (rsz k (k + 1) n r).1, (rsz k (k + 1) n r).2)
  | d :: t, n, r => if n / 2 ^ k = 0 then rs1 k t (n * 10 + d) (r + 1) else (d :: t, n, r)
/-- A digit up, a digit down. -/
def rs2 (k : Nat) : List Nat → Nat → List Nat × Nat
  | [], n => ([], n)
  | c :: t, n => (n / 2 ^ k :: (rs2 k t (n % 2 ^ k * 10 + c)).1, (rs2 k t (n % 2 ^ k * 10 + c)).2)
/-- What is left; w digits are there. -/
def rs3 (k : Nat) : Nat → Nat → Nat → List Nat × Bool
  | 0, _, _ => ([], false)
  | f + 1, n, w => if n = 0 then ([], false) else if w < 800 then (n / 2 ^ k :: (rs3 k f (n % 2 ^ k * 10) (w + 1)).1, (rs3 k f (n % 2 ^ k * 10) (w + 1)).2) else ((rs3 k f (n % 2 ^ k * 10) w).1, decide (0 < n / 2 ^ k) || (rs3 k f (n % 2 ^ k * 10) w).2)
/-- A shift to the right by at most 60. -/
def Dec.rsh (a : Dec) (k : Nat) : Dec :=
  let p := rs1 k a.ds 0 0
  let q := rs2 k p.1 p.2.1
  let t := rs3 k (k + 2) q.2 q.1.length
  Dec.trim ⟨q.1 ++ t.1, a.dp - ((p.2.2 : Int) - 1), a.tr || t.2⟩
/-- A shift to the left by at most 60. -/
def Dec.lsh (a : Dec) (k : Nat) : Dec :=
  let l := dgs (val a.ds * 2 ^ k)
  Dec.trim ⟨l.take 800, a.dp + ((l.length : Int) - a.ds.length), a.tr || (l.drop 800).any (· ≠ 0)⟩
/-- A shift to the right by any number. -/
def Dec.rshN (a : Dec) (k : Nat) : Dec := if 60 < k then (a.rsh 60).rshN (k - 60) else a.rsh k
termination_by k
def powtab (i : Nat) : Nat := match i with | 0 => 1 | 1 => 3 | 2 => 6 | 3 => 9 | 4 => 13 | 5 => 16 | 6 => 19 | 7 => 23 | 8 => 26 | _ => 27
def d0 (a : Dec) : Nat := a.ds.headD 0
/-- Down to below one. -/
def fb1 : Nat → Dec → Int → Dec × Int
  | 0, a, e => (a, e)
  | f + 1, a, e => if 0 < a.dp then fb1 f (a.rsh (powtab a.dp.toNat)) (e + powtab a.dp.toNat) else (a, e)
/-- Up to a half at least. -/
def fb2 : Nat → Dec → Int → Dec × Int
  | 0, a, e => (a, e)
  | f + 1, a, e => if a.dp < 0 ∨ (a.dp = 0 ∧ d0 a < 5) then fb2 f (a.lsh (powtab (-a.dp).toNat)) (e - powtab (-a.dp).toNat) else (a, e)
/-- Is to be rounded up, cut at n digits. -/
def upB (a : Dec) (n : Int) : Bool :=
  if n < 0 ∨ (a.ds.length : Int) ≤ n then false
  else
    let i := n.toNat
    if a.ds.getD i 0 = 5 ∧ i + 1 = a.ds.length then a.tr || (decide (0 < i) && decide (a.ds.getD (i - 1) 0 % 2 ≠ 0))
    else decide (5 ≤ a.ds.getD i 0)
/-- The whole part, rounded; modulo 2^64. -/
def rint (a : Dec) : Nat :=
  if 20 < a.dp then 2 ^ 64 - 1
  else ((val (a.ds.take a.dp.toNat) * 10 ^ (a.dp.toNat - a.ds.length)) % 2 ^ 64 + (upB a a.dp).toNat) % 2 ^ 64
/-- The bits of a decimal, and whether it is too great. -/
def fbits (neg : Bool) (a : Dec) : Nat × Bool :=
  let s := if neg then 2 ^ 63 else 0
  if a.ds = [] then (s, false)
  else if 310 < a.dp then (2047 * 2 ^ 52 + s, true)
  else if a.dp < -330 then (s, false)
  else
    let p := fb1 5000 a 0
    let q := fb2 5000 p.1 p.2
    let e := q.2 - 1
    let b := if e < -1022 then (q.1.rshN (-1022 - e).toNat, (-1022 : Int)) else (q.1, e)
    if 2047 ≤ b.2 + 1023 then (2047 * 2 ^ 52 + s, true)
    else
      let m := rint (b.1.lsh 53)
      let c := if m = 2 ^ 53 then (2 ^ 52, b.2 + 1) else (m, b.2)
      if m = 2 ^ 53 ∧ 2047 ≤ b.2 + 1 + 1023 then (2047 * 2 ^ 52 + s, true)
      else
        let ex := if c.1 / 2 ^ 52 % 2 = 0 then -1023 else c.2
        (c.1 % 2 ^ 52 + ((ex + 1023).toNat % 2048) * 2 ^ 52 + s, false)
end PF
/- The slow way's shift to the left: how many digits it brings. No condition. -/
namespace PF
theorem val_foldl (ds : List Nat) (n : Nat) : ds.foldl (fun n d => n * 10 + d) n = n * 10 ^ ds.length + val ds := by
  induction ds generalizing n with
  | nil => simp [val]
  | cons d t ih =>
    simp only [List.foldl_cons, List.length_cons, val]
    rw [ih, ih (0 * 10 + d), Nat.pow_succ]
    simp only [Nat.zero_mul, Nat.zero_add, Nat.add_mul]
    have : n * 10 * 10 ^ t.length = n * (10 ^ t.length * 10) := by rw [Nat.mul_assoc, Nat.mul_comm 10]
    omega
theorem val_cons (d : Nat) (t : List Nat) : val (d :: t) = d * 10 ^ t.length + val t := by
  have := val_foldl t d
  unfold val at *
  simp only [List.foldl_cons, Nat.zero_mul, Nat.zero_add]
  exact this
theorem val_append (a b : List Nat) : val (a ++ b) = val a * 10 ^ b.length + val b := by
  have := val_foldl b (val a)
  unfold val at *
  rw [List.foldl_append]
  exact this
theorem val_lt {ds : List Nat} (h : ∀ d ∈ ds, d ≤ 9) : val ds < 10 ^ ds.length := by
  induction ds with
  | nil => simp [val]
  | cons d t ih =>
    have h1 := ih fun x hx => h x (List.mem_cons_of_mem _ hx)
    have h2 := h d (List.mem_cons_self ..)
    rw [val_cons, List.length_cons, Nat.pow_succ]
    have : d * 10 ^ t.length ≤ 9 * 10 ^ t.length := Nat.mul_le_mul_right _ h2
    omega
theorem val_ge {d : Nat} {t : List Nat} (h : d ≠ 0) : 10 ^ t.length ≤ val (d :: t) := by
  rw [val_cons]
  have : 1 * 10 ^ t.length ≤ d * 10 ^ t.length := Nat.mul_le_mul_right _ (by omega)
  omega
/-- Is the first list less, where the second is laid beside it? -/
def plt : List Nat → List Nat → Bool
  | _, [] => false
  | [], _ :: _ => true
  | b :: bs, s :: ss => if b = s then plt bs ss else decide (b < s)
theorem val_pos : ∀ (s : Nat) (ss : List Nat), (s :: ss).getLast? ≠ some 0 → 0 < val (s :: ss)
  | s, [], h => by simp [val] at *; omega
  | s, a :: t, h => by
    have := val_pos a t (by simpa using h)
    rw [val_cons]
    omega
theorem plt_iff : ∀ (b s : List Nat), (∀ d ∈ b, d ≤ 9) → (∀ d ∈ s, d ≤ 9) → (s ≠ [] → s.getLast? ≠ some 0) → (plt b s = true ↔ val b * 10 ^ s.length < val s * 10 ^ b.length)
  | b, [], hb, _, _ => by
    simp [plt, val]
  | [], s :: ss, _, _, hl => by
    simp only [plt, true_iff, List.length_nil, Nat.pow_zero, Nat.mul_one]
    simp only [val, List.foldl_nil, Nat.zero_mul]
    show 0 < val (s :: ss)
    exact val_pos s ss (hl (by simp))
  | b :: bs, s :: ss, hb, hs, hl => by
    have b1 := val_lt fun x hx => hb x (List.mem_cons_of_mem _ hx)
    have s1 := val_lt fun x hx => hs x (List.mem_cons_of_mem _ hx)
    have hB := Nat.two_pow_pos 1
    rw [val_cons, val_cons, List.length_cons, List.length_cons, Nat.pow_succ, Nat.pow_succ]
    have pB : 0 < 10 ^ bs.length := Nat.pow_pos (by omega)
    have pS : 0 < 10 ^ ss.length := Nat.pow_pos (by omega)
    unfold plt
    by_cases e : b = s
    · subst e
      rw [if_pos rfl]
      have hl' : ss ≠ [] → ss.getLast? ≠ some 0 := by
        intro hne
        have := hl (by simp)
        cases ss with
        | nil => exact absurd rfl hne
        | cons a t => simpa using this
      have ih := plt_iff bs ss (fun x hx => hb x (List.mem_cons_of_mem _ hx)) (fun x hx => hs x (List.mem_cons_of_mem _ hx)) hl'
      rw [ih]
      generalize 10 ^ bs.length = B at *
      generalize 10 ^ ss.length = S at *
      have e1 : (b * B + val bs) * (S * 10) = 10 * (b * B * S + val bs * S) := by rw [Nat.add_mul, Nat.mul_comm S 10, ← Nat.mul_assoc, ← Nat.mul_assoc, Nat.mul_comm (b * B) 10, Nat.mul_comm (val bs) 10, Nat.mul_assoc, Nat.mul_assoc 10 (val bs), ← Nat.mul_add]
      have e2 : (b * S + val ss) * (B * 10) = 10 * (b * S * B + val ss * B) := by rw [Nat.add_mul, Nat.mul_comm B 10, ← Nat.mul_assoc, ← Nat.mul_assoc, Nat.mul_comm (b * S) 10, Nat.mul_comm (val ss) 10, Nat.mul_assoc, Nat.mul_assoc 10 (val ss), ← Nat.mul_add]
      have e3 : b * B * S = b * S * B := by rw [Nat.mul_assoc, Nat.mul_assoc, Nat.mul_comm B S]
      rw [e1, e2, e3]
      constructor <;> intro h <;> omega
    · rw [if_neg e]
      generalize hBv : 10 ^ bs.length = B at *
      generalize hSv : 10 ^ ss.length = S at *
      simp only [decide_eq_true_eq]
      have key (x y X Y u v : Nat) (hxy : x < y) (hu : u < X) (hv : v < Y) : (x * X + u) * (Y * 10) < (y * Y + v) * (X * 10) := by
        have h1 : x * X + u < (x + 1) * X := by rw [Nat.add_mul]; omega
        have h2 : (x * X + u) * (Y * 10) < (x + 1) * X * (Y * 10) := Nat.mul_lt_mul_of_pos_right h1 (by omega)
        have h3 : (x + 1) * X * (Y * 10) ≤ y * X * (Y * 10) := Nat.mul_le_mul_right _ (Nat.mul_le_mul_right _ hxy)
        have h4 : y * X * (Y * 10) = y * Y * (X * 10) := by
          rw [Nat.mul_assoc, Nat.mul_assoc, Nat.mul_left_comm X Y]
        have h5 : y * Y * (X * 10) ≤ (y * Y + v) * (X * 10) := Nat.mul_le_mul_right _ (by omega)
        omega
      constructor
      · intro h
        exact key b s B S (val bs) (val ss) h b1 s1
      · intro h
        by_cases h2 : b < s
        · exact h2
        · have := key s b S B (val ss) (val bs) (by omega) s1 b1
          omega
/-- The number of digits of a product by a power of two. -/
theorem grow_bounds {v L k C K : Nat} (h0 : 10 ^ (L - 1) ≤ v) (h1 : v < 10 ^ L) (hL : 1 ≤ L) (hC : C ≤ k) (hlo : 10 ^ (C - 1) ≤ 5 ^ k) (hhi : 5 ^ k < 10 ^ C) (hC1 : 1 ≤ C)
    (hK : K = L + (k - C + 1) - (if v * 10 ^ C < 5 ^ k * 10 ^ L then 1 else 0)) : 10 ^ (K - 1) ≤ v * 2 ^ k ∧ v * 2 ^ k < 10 ^ K := by
  have e10 : 5 ^ k * 2 ^ k = 10 ^ k := by rw [← Nat.mul_pow]
  have p5 : 0 < 5 ^ k := Nat.pow_pos (by omega)
  have p2 : 0 < 2 ^ k := Nat.pow_pos (by omega)
  split at hK
  · rename_i hp
    have hK : K = L + (k - C) := by omega
    constructor
    · -- v * 2^k ≥ 10^(L-1) * 2^k > 10^(L-1+k-C)
      have a1 : 10 ^ (k - C) * 10 ^ C < 2 ^ k * 10 ^ C := by
        rw [← Nat.pow_add, show k - C + C = k by omega, ← e10, Nat.mul_comm]
        exact Nat.mul_lt_mul_of_pos_left hhi p2
      have a2 : 10 ^ (k - C) < 2 ^ k := Nat.lt_of_mul_lt_mul_right a1
      calc 10 ^ (K - 1) = 10 ^ (L - 1) * 10 ^ (k - C) := by rw [← Nat.pow_add]; congr 1; omega
        _ ≤ v * 2 ^ k := Nat.mul_le_mul h0 (by omega)
    · have a1 : v * 10 ^ C * 2 ^ k < 5 ^ k * 10 ^ L * 2 ^ k := Nat.mul_lt_mul_of_pos_right hp p2
      have a2 : 5 ^ k * 10 ^ L * 2 ^ k = 10 ^ K * 10 ^ C := by
        rw [Nat.mul_right_comm, e10, ← Nat.pow_add, ← Nat.pow_add]; congr 1; omega
      rw [a2, Nat.mul_right_comm] at a1
      exact Nat.lt_of_mul_lt_mul_right a1
  · rename_i hp
    have hK : K = L + (k - C) + 1 := by omega
    constructor
    · have a1 : 5 ^ k * 10 ^ L * 2 ^ k ≤ v * 10 ^ C * 2 ^ k := Nat.mul_le_mul_right _ (by omega)
      have a2 : 5 ^ k * 10 ^ L * 2 ^ k = 10 ^ (K - 1) * 10 ^ C := by
        rw [Nat.mul_right_comm, e10, ← Nat.pow_add, ← Nat.pow_add]; congr 1; omega
      rw [a2, Nat.mul_right_comm] at a1
      exact Nat.le_of_mul_le_mul_right a1 (Nat.pow_pos (by omega))
    · have a1 : 2 ^ k * 10 ^ (C - 1) ≤ 10 ^ (k - C + 1) * 10 ^ (C - 1) := by
        rw [← Nat.pow_add, show k - C + 1 + (C - 1) = k by omega, ← e10, Nat.mul_comm (5 ^ k)]
        exact Nat.mul_le_mul_left _ hlo
      have a2 : 2 ^ k ≤ 10 ^ (k - C + 1) := Nat.le_of_mul_le_mul_right a1 (Nat.pow_pos (by omega))
      calc v * 2 ^ k < 10 ^ L * 2 ^ k := Nat.mul_lt_mul_of_pos_right h1 p2
        _ ≤ 10 ^ L * 10 ^ (k - C + 1) := Nat.mul_le_mul_left _ a2
        _ = 10 ^ K := by rw [← Nat.pow_add]; congr 1; omega
end PF
/- Decimals under shifts: what stays true of them, and that the loops end. No condition. -/
namespace PF
theorem dgs_pos {n : Nat} (h : n ≠ 0) : dgs n = dgs (n / 10) ++ [n % 10] := by rw [dgs, if_neg h]
theorem dgs_zero : dgs 0 = [] := by rw [dgs, if_pos rfl]
theorem dgs_len : ∀ (n : Nat), n ≠ 0 → 10 ^ ((dgs n).length - 1) ≤ n ∧ n < 10 ^ (dgs n).length ∧ 1 ≤ (dgs n).length := by
  intro n
  induction n using Nat.strongRecOn with
  | ind n ih =>
    intro hn
    rw [dgs_pos hn, List.length_append, List.length_singleton, Nat.add_sub_cancel, Nat.pow_succ]
    by_cases h : n / 10 = 0
    · rw [h, dgs_zero]
      simp only [List.length_nil, Nat.pow_zero]
      omega
    · obtain ⟨h1, h2, h3⟩ := ih (n / 10) (by omega) h
      have e : 10 ^ (dgs (n / 10)).length = 10 ^ ((dgs (n / 10)).length - 1) * 10 := by rw [← Nat.pow_succ]; congr 1; omega
      refine ⟨by rw [e]; omega, by omega, by omega⟩
theorem dgs_len_eq {n K : Nat} (hK : 1 ≤ K) (h0 : 10 ^ (K - 1) ≤ n) (h1 : n < 10 ^ K) : (dgs n).length = K := by
  have hn : n ≠ 0 := by have := Nat.pow_pos (n := K - 1) (show 0 < 10 by omega); omega
  obtain ⟨a, b, c⟩ := dgs_len n hn
  have u := (Nat.pow_lt_pow_iff_right (show 1 < 10 by omega)).1 (Nat.lt_of_le_of_lt a h1)
  have v := (Nat.pow_lt_pow_iff_right (show 1 < 10 by omega)).1 (Nat.lt_of_le_of_lt h0 b)
  omega
theorem dgs_get : ∀ (n i : Nat), i < (dgs n).length → (dgs n)[i]? = some (n / 10 ^ ((dgs n).length - 1 - i) % 10) := by
  intro n
  induction n using Nat.strongRecOn with
  | ind n ih =>
    intro i hi
    by_cases hn : n = 0
    · subst hn; rw [dgs_zero] at hi; cases hi
    · have hl : (dgs n).length = (dgs (n / 10)).length + 1 := by rw [dgs_pos hn]; simp
      rw [hl] at hi ⊢
      rw [dgs_pos hn]
      by_cases he : i = (dgs (n / 10)).length
      · subst he
        rw [List.getElem?_append_right (Nat.le_refl _)]
        simp
      · rw [List.getElem?_append_left (by omega), ih (n / 10) (by omega) i (by omega), Nat.div_div_eq_div_mul, ← Nat.pow_succ']
        congr 4
        omega
theorem dgs_le (n : Nat) : ∀ d ∈ dgs n, d ≤ 9 := by
  intro d hd
  obtain ⟨i, hi, e⟩ := List.getElem_of_mem hd
  have := dgs_get n i hi
  rw [List.getElem?_eq_getElem hi, e] at this
  have := Option.some.inj this
  omega
theorem dgs_head {n : Nat} (h : n ≠ 0) : (dgs n).headD 0 = n / 10 ^ ((dgs n).length - 1) := by
  have h3 := dgs_len n h
  have h1 := dgs_get n 0 (by omega)
  have e : (dgs n).headD 0 = ((dgs n)[0]?).getD 0 := by cases dgs n <;> rfl
  rw [e, h1, Nat.sub_zero]
  have : n / 10 ^ ((dgs n).length - 1) < 10 := by
    have e2 : 10 ^ (dgs n).length = 10 * 10 ^ ((dgs n).length - 1) := by rw [← Nat.pow_succ']; congr 1; omega
    rw [Nat.div_lt_iff_lt_mul (Nat.pow_pos (by omega)), ← e2]
    exact h3.2.1
  simp only [Option.getD_some]
  exact Nat.mod_eq_of_lt this
/-- A decimal that is not nought: digits, the first is not nought, room for them. -/
structure Dec.Ok (a : Dec) : Prop where
  len : a.ds.length ≤ 800
  dig : ∀ d ∈ a.ds, d ≤ 9
  one : a.ds.headD 0 ≠ 0
theorem Dec.Ok.ne {a : Dec} (h : a.Ok) : a.ds ≠ [] := by intro e; exact h.one (by rw [e]; rfl)
theorem trimL_prefix (ds : List Nat) : ∃ t, ds = trimL ds ++ t ∧ ∀ x ∈ t, x = 0 := by
  refine ⟨(ds.reverse.takeWhile (· == 0)).reverse, ?_, ?_⟩
  · unfold trimL
    rw [← List.reverse_append, List.takeWhile_append_dropWhile, List.reverse_reverse]
  · intro x hx
    have := List.all_eq_true.1 (List.all_takeWhile (l := ds.reverse)) x (List.mem_reverse.1 hx)
    simpa using this
theorem trimL_head {ds : List Nat} (h : ds.headD 0 ≠ 0) : (trimL ds).headD 0 = ds.headD 0 := by
  obtain ⟨t, e, h0⟩ := trimL_prefix ds
  cases hx : trimL ds with
  | nil =>
    rw [hx, List.nil_append] at e
    subst e
    cases ds with
    | nil => exact absurd rfl h
    | cons a r => exact absurd (h0 a (List.mem_cons_self ..)) (by simpa using h)
  | cons a r =>
    rw [hx] at e
    conv => rhs; rw [e]
    rfl
theorem trim_ok {a : Dec} (h : a.Ok) : a.trim.Ok ∧ d0 a.trim = d0 a ∧ a.trim.dp = a.dp ∧ a.trim.tr = a.tr := by
  obtain ⟨t, e, _⟩ := trimL_prefix a.ds
  have hh := trimL_head h.one
  have hne : trimL a.ds ≠ [] := by intro e0; rw [e0] at hh; exact h.one hh.symm
  refine ⟨⟨?_, ?_, ?_⟩, hh, by unfold Dec.trim; rw [if_neg hne], rfl⟩
  · have := congrArg List.length e
    rw [List.length_append] at this
    have := h.len
    show (trimL a.ds).length ≤ 800
    omega
  · intro d hd
    exact h.dig d (by rw [e]; exact List.mem_append_left _ hd)
  · show (trimL a.ds).headD 0 ≠ 0
    rw [hh]; exact h.one
theorem Dec.Ok.val {a : Dec} (h : a.Ok) : 10 ^ (a.ds.length - 1) ≤ val a.ds ∧ val a.ds < 10 ^ a.ds.length ∧ 1 ≤ a.ds.length ∧ val a.ds ≠ 0 := by
  have h2 := val_lt h.dig
  have h1 := h.one
  revert h1 h2
  cases a.ds with
  | nil => intro _ h1; exact absurd rfl h1
  | cons d t =>
    intro h2 h1
    have h3 := val_ge (d := d) (t := t) (by simpa using h1)
    have := Nat.pow_pos (n := t.length) (show 0 < 10 by omega)
    exact ⟨by simpa using h3, h2, by simp, by omega⟩
theorem Dec.Ok.d0 {a : Dec} (h : a.Ok) : d0 a = PF.val a.ds / 10 ^ (a.ds.length - 1) ∧ 1 ≤ d0 a ∧ d0 a ≤ 9 := by
  unfold PF.d0
  have h1 := h.one
  have hd := h.dig
  revert h1 hd
  cases a.ds with
  | nil => intro h1; exact absurd rfl h1
  | cons d t =>
    intro h1 hd
    have ht := val_lt fun x hx => hd x (List.mem_cons_of_mem _ hx)
    refine ⟨?_, by have : d ≠ 0 := by simpa using h1
                   simp; omega, hd d (List.mem_cons_self ..)⟩
    rw [val_cons]
    simp only [List.headD_cons, List.length_cons, Nat.add_sub_cancel]
    rw [Nat.mul_comm, Nat.mul_add_div (Nat.pow_pos (by omega)), Nat.div_eq_of_lt ht, Nat.add_zero]
/-- To the left: what is made, before it is trimmed. -/
theorem lsh_ok {a : Dec} (h : a.Ok) (k : Nat) : (Dec.lsh a k).Ok ∧ d0 (a.lsh k) = val a.ds * 2 ^ k / 10 ^ ((dgs (val a.ds * 2 ^ k)).length - 1) ∧ (a.lsh k).dp = a.dp + (((dgs (val a.ds * 2 ^ k)).length : Int) - a.ds.length) := by
  obtain ⟨v1, v2, v3, v4⟩ := h.val
  have hn : val a.ds * 2 ^ k ≠ 0 := Nat.mul_ne_zero v4 (Nat.ne_of_gt (Nat.two_pow_pos _))
  have hh := dgs_head hn
  obtain ⟨l1, l2, l3⟩ := dgs_len _ hn
  have hp : 1 ≤ val a.ds * 2 ^ k / 10 ^ ((dgs (val a.ds * 2 ^ k)).length - 1) := (Nat.le_div_iff_mul_le (Nat.pow_pos (by omega))).2 (by omega)
  have ht : ((dgs (val a.ds * 2 ^ k)).take 800).headD 0 = (dgs (val a.ds * 2 ^ k)).headD 0 := by cases dgs (val a.ds * 2 ^ k) <;> rfl
  have ok : (Dec.mk ((dgs (val a.ds * 2 ^ k)).take 800) (a.dp + (((dgs (val a.ds * 2 ^ k)).length : Int) - a.ds.length)) (a.tr || ((dgs (val a.ds * 2 ^ k)).drop 800).any (· ≠ 0))).Ok := by
    refine ⟨by simp; omega, fun d hd => dgs_le _ d (List.mem_of_mem_take hd), ?_⟩
    show ((dgs (val a.ds * 2 ^ k)).take 800).headD 0 ≠ 0
    rw [ht, hh]; omega
  obtain ⟨o1, o2, o3, _⟩ := trim_ok ok
  refine ⟨o1, ?_, o3⟩
  have : d0 (a.lsh k) = ((dgs (val a.ds * 2 ^ k)).take 800).headD 0 := o2
  rw [this, ht, hh]
def muL (a : Dec) : Nat := 10 * (-a.dp).toNat + (9 - d0 a)
theorem powtab_lt (m : Nat) (h : 1 ≤ m) : 2 ^ powtab m < 10 ^ m ∧ 3 ≤ powtab m ∧ powtab m ≤ 27 := by
  by_cases h9 : m ≤ 8
  · have : m = 1 ∨ m = 2 ∨ m = 3 ∨ m = 4 ∨ m = 5 ∨ m = 6 ∨ m = 7 ∨ m = 8 := by omega
    rcases this with rfl | rfl | rfl | rfl | rfl | rfl | rfl | rfl <;> decide
  · have e : powtab m = 27 := by
      unfold powtab
      split <;> first | rfl | omega
    rw [e]
    refine ⟨Nat.lt_of_lt_of_le (show 2 ^ 27 < 10 ^ 9 by decide) (Nat.pow_le_pow_right (by omega) (by omega)), by omega, by omega⟩
theorem lsh_mu {a : Dec} (h : a.Ok) (hd : a.dp ≤ 0) (hc : a.dp < 0 ∨ (a.dp = 0 ∧ d0 a < 5)) : (a.lsh (powtab (-a.dp).toNat)).dp ≤ 0 ∧ muL (a.lsh (powtab (-a.dp).toNat)) < muL a := by
  obtain ⟨v1, v2, v3, v4⟩ := h.val
  obtain ⟨e1, e2, e3⟩ := h.d0
  obtain ⟨k, hk⟩ : ∃ k, powtab (-a.dp).toNat = k := ⟨_, rfl⟩
  rw [hk]
  obtain ⟨o1, o2, o3⟩ := lsh_ok h k
  have hn : val a.ds * 2 ^ k ≠ 0 := Nat.mul_ne_zero v4 (Nat.ne_of_gt (Nat.two_pow_pos _))
  obtain ⟨l1, l2, l3⟩ := dgs_len _ hn
  obtain ⟨f1, f2, f3⟩ := o1.d0
  obtain ⟨K, hK⟩ : ∃ K, (dgs (val a.ds * 2 ^ k)).length = K := ⟨_, rfl⟩
  rw [hK] at o2 o3 l1 l2 l3
  have k1 : 1 ≤ k := by
    by_cases hm : (-a.dp).toNat = 0
    · rw [hm] at hk; rw [← hk]; decide
    · have := powtab_lt (-a.dp).toNat (by omega)
      omega
  have p2 : 2 ≤ 2 ^ k := Nat.le_trans (show 2 ≤ 2 ^ 1 by decide) (Nat.pow_le_pow_right (by omega) k1)
  have hge : val a.ds ≤ val a.ds * 2 ^ k := Nat.le_mul_of_pos_right _ (by omega)
  have hLK : a.ds.length ≤ K := by
    have := (Nat.pow_lt_pow_iff_right (show 1 < 10 by omega)).1 (Nat.lt_of_le_of_lt (Nat.le_trans v1 hge) l2)
    omega
  have hKL : (K : Int) - a.ds.length ≤ -a.dp := by
    rcases hc with hc | ⟨hc, h5⟩
    · have hm := powtab_lt (-a.dp).toNat (by omega)
      rw [hk] at hm
      have : val a.ds * 2 ^ k < 10 ^ (a.ds.length + (-a.dp).toNat) := by
        rw [Nat.pow_add]
        exact Nat.lt_of_lt_of_le (Nat.mul_lt_mul_of_pos_right v2 (by omega)) (Nat.mul_le_mul_left _ (by omega))
      have := (Nat.pow_lt_pow_iff_right (show 1 < 10 by omega)).1 (Nat.lt_of_le_of_lt l1 this)
      omega
    · have hk1 : k = 1 := by rw [← hk, hc]; rfl
      have : val a.ds < 5 * 10 ^ (a.ds.length - 1) := by
        have hp := Nat.pow_pos (n := a.ds.length - 1) (show 0 < 10 by omega)
        rw [e1] at h5
        exact (Nat.div_lt_iff_lt_mul hp).1 h5
      have h10 : 10 ^ a.ds.length = 10 ^ (a.ds.length - 1) * 10 := by rw [← Nat.pow_succ]; congr 1; omega
      have : val a.ds * 2 ^ k < 10 ^ a.ds.length := by rw [hk1, h10]; omega
      have := (Nat.pow_lt_pow_iff_right (show 1 < 10 by omega)).1 (Nat.lt_of_le_of_lt l1 this)
      omega
  refine ⟨by rw [o3]; omega, ?_⟩
  unfold muL
  rw [o3]
  by_cases hE : K = a.ds.length
  · have : d0 a < d0 (a.lsh k) := by
      rw [o2, hE]
      have hp := Nat.pow_pos (n := a.ds.length - 1) (show 0 < 10 by omega)
      have : d0 a * 10 ^ (a.ds.length - 1) ≤ val a.ds := by rw [e1]; exact Nat.div_mul_le_self _ _
      refine (Nat.le_div_iff_mul_le hp).2 ?_
      have h2 : val a.ds * 2 ≤ val a.ds * 2 ^ k := Nat.mul_le_mul_left _ p2
      have h3 : (d0 a + 1) * 10 ^ (a.ds.length - 1) ≤ (d0 a * 10 ^ (a.ds.length - 1)) * 2 := by
        rw [Nat.mul_right_comm]
        exact Nat.mul_le_mul_right _ (by omega)
      exact Nat.le_trans h3 (Nat.le_trans (Nat.mul_le_mul_right 2 this) h2)
    omega
  · omega
end PF
/- Decimals under shifts to the right: what stays true of them, and that the loops end. No condition. -/
namespace PF
/-- What the first digits of a shift to the right come to. -/
structure Rs1 (k n r : Nat) : Prop where
  lo : 2 ^ k ≤ n
  hi : n < 10 * 2 ^ k
  r1 : 1 ≤ r
  few : r ≤ 1 ∨ 10 ^ (r - 2) < 2 ^ k
theorem rsz_spec (k : Nat) : ∀ (f n r : Nat), 1 ≤ r → 10 ^ (r - 1) ≤ n → n < 10 * 2 ^ k → 2 ^ k ≤ n * 10 ^ f → (r ≤ 1 ∨ 10 ^ (r - 2) < 2 ^ k) → Rs1 k (rsz k f n r).1 (rsz k f n r).2 ∧ r ≤ (rsz k f n r).2 ∧ ((rsz k f n r).2 = r → (rsz k f n r).1 = n)
  | 0, n, r, h1, h2, h3, h4, h5 => by
    unfold rsz
    exact ⟨⟨by simpa using h4, h3, h1, h5⟩, Nat.le_refl _, fun _ => rfl⟩
  | f + 1, n, r, h1, h2, h3, h4, h5 => by
    have p2 := Nat.two_pow_pos k
    unfold rsz
    by_cases h : n / 2 ^ k = 0
    · rw [if_pos h]
      have hn : n < 2 ^ k := by
        rcases Nat.div_eq_zero_iff.1 h with h | h
        · omega
        · exact h
      have e : 10 ^ (r + 1 - 1) = 10 ^ (r - 1) * 10 := by rw [← Nat.pow_succ]; congr 1; omega
      obtain ⟨a, b, c⟩ := rsz_spec k f (n * 10) (r + 1) (by omega) (by rw [e]; omega) (by omega) (by rw [Nat.mul_assoc, ← Nat.pow_succ']; exact h4) (.inr (by rw [show r + 1 - 2 = r - 1 by omega]; omega))
      exact ⟨a, by omega, fun h => by omega⟩
    · rw [if_neg h]
      have hn : 2 ^ k ≤ n := by
        have : 1 ≤ n / 2 ^ k := Nat.pos_of_ne_zero h
        have := (Nat.le_div_iff_mul_le p2).1 this
        omega
      exact ⟨⟨hn, h3, h1, h5⟩, Nat.le_refl _, fun _ => rfl⟩
theorem two_le_ten (k : Nat) : 2 ^ k ≤ 10 ^ k := Nat.pow_le_pow_left (by omega) k
theorem rs1_spec (k : Nat) : ∀ (t : List Nat) (n r : Nat), (∀ d ∈ t, d ≤ 9) → 1 ≤ r → 10 ^ (r - 1) ≤ n → n < 10 * 2 ^ k → (r ≤ 1 ∨ 10 ^ (r - 2) < 2 ^ k) → Rs1 k (rs1 k t n r).2.1 (rs1 k t n r).2.2 ∧ r ≤ (rs1 k t n r).2.2 ∧ ((rs1 k t n r).2.2 = r → (rs1 k t n r).2.1 = n) ∧ (rs1 k t n r).1 = t.drop ((rs1 k t n r).2.2 - r)
  | [], n, r, _, h1, h2, h3, h5 => by
    unfold rs1
    have p1 := Nat.pow_pos (n := r - 1) (show 0 < 10 by omega)
    have h4 : 2 ^ k ≤ n * 10 ^ (k + 1) := by
      have a := two_le_ten k
      have b : 1 * 10 ^ (k + 1) ≤ n * 10 ^ (k + 1) := Nat.mul_le_mul_right _ (by omega)
      rw [Nat.pow_succ] at b ⊢
      omega
    obtain ⟨a, b, c⟩ := rsz_spec k (k + 1) n r h1 h2 h3 h4 h5
    exact ⟨a, b, c, by simp⟩
  | d :: t, n, r, hd, h1, h2, h3, h5 => by
    have p2 := Nat.two_pow_pos k
    unfold rs1
    by_cases h : n / 2 ^ k = 0
    · rw [if_pos h]
      have hn : n < 2 ^ k := by
        rcases Nat.div_eq_zero_iff.1 h with h | h
        · omega
        · exact h
      have hd9 := hd d (List.mem_cons_self ..)
      have e : 10 ^ (r + 1 - 1) = 10 ^ (r - 1) * 10 := by rw [← Nat.pow_succ]; congr 1; omega
      obtain ⟨a, b, c, dd⟩ := rs1_spec k t (n * 10 + d) (r + 1) (fun x hx => hd x (List.mem_cons_of_mem _ hx)) (by omega) (by rw [e]; omega) (by omega) (.inr (by rw [show r + 1 - 2 = r - 1 by omega]; omega))
      refine ⟨a, by omega, fun h => by omega, ?_⟩
      rw [dd, show (rs1 k t (n * 10 + d) (r + 1)).2.2 - r = (rs1 k t (n * 10 + d) (r + 1)).2.2 - (r + 1) + 1 by omega, List.drop_succ_cons]
    · rw [if_neg h]
      have hn : 2 ^ k ≤ n := by
        have : 1 ≤ n / 2 ^ k := Nat.pos_of_ne_zero h
        have := (Nat.le_div_iff_mul_le p2).1 this
        omega
      exact ⟨⟨hn, h3, h1, h5⟩, Nat.le_refl _, fun _ => rfl, by simp⟩
theorem rs1_ok {a : Dec} (h : a.Ok) (k : Nat) : Rs1 k (rs1 k a.ds 0 0).2.1 (rs1 k a.ds 0 0).2.2 ∧ ((rs1 k a.ds 0 0).2.2 = 1 → (rs1 k a.ds 0 0).2.1 = d0 a) ∧ (rs1 k a.ds 0 0).1 = a.ds.drop (rs1 k a.ds 0 0).2.2 := by
  have h1 := h.one
  have hd := h.dig
  unfold d0
  revert h1 hd
  cases a.ds with
  | nil => intro h1; exact absurd rfl h1
  | cons d t =>
    intro h1 hd
    have hd9 := hd d (List.mem_cons_self ..)
    have h1' : d ≠ 0 := by simpa using h1
    have p2 := Nat.two_pow_pos k
    unfold rs1
    rw [Nat.zero_div, if_pos rfl, Nat.zero_mul, Nat.zero_add, Nat.zero_add]
    obtain ⟨x, y, z, u⟩ := rs1_spec k t d 1 (fun x hx => hd x (List.mem_cons_of_mem _ hx)) (Nat.le_refl _) (by simp; omega) (by omega) (.inl (Nat.le_refl _))
    refine ⟨x, fun e => by rw [z e]; rfl, ?_⟩
    rw [u]
    conv => rhs; rw [show (rs1 k t d 1).2.2 = (rs1 k t d 1).2.2 - 1 + 1 by omega]
    rw [List.drop_succ_cons]
theorem step_lt {k n c : Nat} (hc : c ≤ 9) : n % 2 ^ k * 10 + c < 10 * 2 ^ k := by
  have := Nat.mod_lt n (Nat.two_pow_pos k)
  omega
theorem dig_le9 {k n : Nat} (h : n < 10 * 2 ^ k) : n / 2 ^ k ≤ 9 := by
  have := (Nat.div_lt_iff_lt_mul (Nat.two_pow_pos k)).2 h
  omega
theorem rs2_spec (k : Nat) : ∀ (t : List Nat) (n : Nat), (∀ d ∈ t, d ≤ 9) → n < 10 * 2 ^ k → (rs2 k t n).2 < 10 * 2 ^ k ∧ (rs2 k t n).1.length = t.length ∧ (∀ d ∈ (rs2 k t n).1, d ≤ 9) ∧ (t = [] → (rs2 k t n).2 = n) ∧ (t ≠ [] → (rs2 k t n).1.headD 0 = n / 2 ^ k)
  | [], n, _, h => by
    unfold rs2
    exact ⟨h, rfl, (fun d hd => by cases hd), fun _ => rfl, fun h => absurd rfl h⟩
  | c :: t, n, hd, h => by
    unfold rs2
    obtain ⟨x, y, z, _, _⟩ := rs2_spec k t (n % 2 ^ k * 10 + c) (fun x hx => hd x (List.mem_cons_of_mem _ hx)) (step_lt (hd c (List.mem_cons_self ..)))
    refine ⟨x, by simp [y], ?_, (fun h => by cases h), fun _ => rfl⟩
    intro d hd
    rcases List.mem_cons.1 hd with rfl | hd
    · exact dig_le9 h
    · exact z d hd
theorem rs3_spec (k : Nat) : ∀ (f n w : Nat), n < 10 * 2 ^ k → w ≤ 800 → w + (rs3 k f n w).1.length ≤ 800 ∧ (∀ d ∈ (rs3 k f n w).1, d ≤ 9) ∧ (1 ≤ f → 2 ^ k ≤ n → w < 800 → (rs3 k f n w).1.headD 0 = n / 2 ^ k)
  | 0, n, w, h, hw => by
    unfold rs3
    exact ⟨by simpa using hw, (fun d hd => by cases hd), fun h => by omega⟩
  | f + 1, n, w, h, hw => by
    unfold rs3
    have hp := Nat.two_pow_pos k
    have hs := step_lt (k := k) (n := n) (c := 0) (by omega)
    by_cases hn : n = 0
    · rw [if_pos hn]
      exact ⟨by simpa using hw, (fun d hd => by cases hd), fun _ h => by omega⟩
    · rw [if_neg hn]
      by_cases hw8 : w < 800
      · rw [if_pos hw8]
        obtain ⟨x, y, _⟩ := rs3_spec k f (n % 2 ^ k * 10) (w + 1) hs hw8
        refine ⟨by simp; omega, ?_, fun _ _ _ => rfl⟩
        intro d hd
        rcases List.mem_cons.1 hd with rfl | hd
        · exact dig_le9 h
        · exact y d hd
      · rw [if_neg hw8]
        obtain ⟨x, y, _⟩ := rs3_spec k f (n % 2 ^ k * 10) w hs hw
        exact ⟨x, y, fun _ _ h => by omega⟩
/-- The fuel of what is left is enough. -/
def Fu (k f n : Nat) : Prop := n = 0 ∨ ∃ j, j ≤ k ∧ 2 ^ j ∣ n ∧ k + 1 ≤ j + f
theorem Fu.start (k n : Nat) : Fu k (k + 2) n := .inr ⟨0, by omega, by simp, by omega⟩
theorem Fu.pos {k f n : Nat} (h : Fu k f n) (hn : n ≠ 0) : ∃ g, f = g + 1 ∧ Fu k g (n % 2 ^ k * 10) := by
  rcases h with h | ⟨j, h1, h2, h3⟩
  · exact absurd h hn
  · refine ⟨f - 1, by omega, ?_⟩
    by_cases hj : j = k
    · subst hj
      left
      rw [Nat.mod_eq_zero_of_dvd h2]
    · right
      refine ⟨j + 1, by omega, ?_, by omega⟩
      have h4 : 2 ^ j ∣ n % 2 ^ k := (Nat.dvd_mod_iff (Nat.pow_dvd_pow 2 h1)).2 h2
      have : 2 ^ (j + 1) = 2 ^ j * 2 := Nat.pow_succ ..
      rw [this]
      exact Nat.mul_dvd_mul h4 ⟨5, rfl⟩
/-- Before the trim. -/
def Dec.rsh0 (a : Dec) (k : Nat) : Dec :=
  let p := rs1 k a.ds 0 0
  let q := rs2 k p.1 p.2.1
  let t := rs3 k (k + 2) q.2 q.1.length
  ⟨q.1 ++ t.1, a.dp - ((p.2.2 : Int) - 1), a.tr || t.2⟩
theorem rsh_eq (a : Dec) (k : Nat) : a.rsh k = (a.rsh0 k).trim := rfl
theorem headD_append {a b : List Nat} (h : a ≠ []) : (a ++ b).headD 0 = a.headD 0 := by
  cases a with
  | nil => exact absurd rfl h
  | cons x t => rfl
theorem rsh0_ok {a : Dec} (h : a.Ok) (k : Nat) : (a.rsh0 k).Ok ∧ d0 (a.rsh0 k) = (rs1 k a.ds 0 0).2.1 / 2 ^ k := by
  obtain ⟨p, _, hdrop⟩ := rs1_ok h k
  have hdg : ∀ d ∈ (rs1 k a.ds 0 0).1, d ≤ 9 := by rw [hdrop]; exact fun d hd => h.dig d (List.mem_of_mem_drop hd)
  have hl : (rs1 k a.ds 0 0).1.length ≤ 799 := by
    rw [hdrop, List.length_drop]; have := h.len; have := p.r1; omega
  obtain ⟨q1, q2, q3, q4, q5⟩ := rs2_spec k _ _ hdg p.hi
  obtain ⟨t1, t2, t3⟩ := rs3_spec k (k + 2) _ (rs2 k (rs1 k a.ds 0 0).1 (rs1 k a.ds 0 0).2.1).1.length q1 (by omega)
  have hh : d0 (a.rsh0 k) = (rs1 k a.ds 0 0).2.1 / 2 ^ k := by
    show ((rs2 k (rs1 k a.ds 0 0).1 (rs1 k a.ds 0 0).2.1).1 ++ _).headD 0 = _
    by_cases he : (rs1 k a.ds 0 0).1 = []
    · have e1 : (rs2 k (rs1 k a.ds 0 0).1 (rs1 k a.ds 0 0).2.1).1 = [] := List.eq_nil_of_length_eq_zero (by rw [q2, he]; rfl)
      rw [e1, List.nil_append]
      have := t3 (by omega) (by rw [q4 he]; exact p.lo) (by omega)
      rw [e1] at this
      rw [this, q4 he]
    · rw [headD_append, q5 he]
      intro e
      rw [e] at q2
      exact he (List.eq_nil_of_length_eq_zero q2.symm)
  refine ⟨⟨?_, ?_, ?_⟩, hh⟩
  · show ((rs2 k (rs1 k a.ds 0 0).1 (rs1 k a.ds 0 0).2.1).1 ++ (rs3 k (k + 2) (rs2 k (rs1 k a.ds 0 0).1 (rs1 k a.ds 0 0).2.1).2 (rs2 k (rs1 k a.ds 0 0).1 (rs1 k a.ds 0 0).2.1).1.length).1).length ≤ 800
    rw [List.length_append]; exact t1
  · intro d hd
    rcases List.mem_append.1 hd with hd | hd
    · exact q3 d hd
    · exact t2 d hd
  · have e : d0 (a.rsh0 k) = (a.rsh0 k).ds.headD 0 := rfl
    rw [← e, hh]
    have := (Nat.le_div_iff_mul_le (Nat.two_pow_pos k)).2 (show 1 * 2 ^ k ≤ _ by rw [Nat.one_mul]; exact p.lo)
    omega
theorem rsh_ok {a : Dec} (h : a.Ok) (k : Nat) : (a.rsh k).Ok ∧ d0 (a.rsh k) = (rs1 k a.ds 0 0).2.1 / 2 ^ k ∧ (a.rsh k).dp = a.dp - (((rs1 k a.ds 0 0).2.2 : Int) - 1) := by
  obtain ⟨o, e⟩ := rsh0_ok h k
  obtain ⟨x, y, z, _⟩ := trim_ok o
  rw [rsh_eq]
  exact ⟨x, by rw [y, e], z⟩
def muR (a : Dec) : Nat := 10 * a.dp.toNat + d0 a
theorem rsh_mu {a : Dec} (h : a.Ok) (hd : 0 < a.dp) : 0 ≤ (a.rsh (powtab a.dp.toNat)).dp ∧ muR (a.rsh (powtab a.dp.toNat)) < muR a := by
  obtain ⟨o, e1, e2⟩ := rsh_ok h (powtab a.dp.toNat)
  obtain ⟨p, p1, _⟩ := rs1_ok h (powtab a.dp.toNat)
  obtain ⟨t1, t2, t3⟩ := powtab_lt a.dp.toNat (by omega)
  obtain ⟨f1, f2, f3⟩ := o.d0
  obtain ⟨g1, g2, g3⟩ := h.d0
  generalize powtab a.dp.toNat = k at *
  obtain ⟨r, hr⟩ : ∃ r, (rs1 k a.ds 0 0).2.2 = r := ⟨_, rfl⟩
  obtain ⟨n, hn⟩ : ∃ n, (rs1 k a.ds 0 0).2.1 = n := ⟨_, rfl⟩
  rw [hr] at p p1 e2
  rw [hn] at p p1 e1
  have r1 := p.r1
  have hr2 : (r : Int) - 1 ≤ a.dp := by
    rcases p.few with h | h
    · omega
    · have := (Nat.pow_lt_pow_iff_right (show 1 < 10 by omega)).1 (Nat.lt_trans h t1)
      omega
  refine ⟨by omega, ?_⟩
  unfold muR
  rw [e2]
  by_cases h1 : r = 1
  · have hn1 := p1 h1
    have : d0 (a.rsh k) < d0 a := by
      rw [e1, hn1]
      have h8 : 2 ^ 3 ≤ 2 ^ k := Nat.pow_le_pow_right (by omega) t2
      have : d0 a / 2 ^ k ≤ d0 a / 2 ^ 3 := Nat.div_le_div_left h8 (by omega)
      omega
    omega
  · omega
theorem rshN_ok : ∀ (k : Nat) {a : Dec}, a.Ok → (a.rshN k).Ok := by
  intro k
  induction k using Nat.strongRecOn with
  | ind k ih =>
    intro a h
    unfold Dec.rshN
    split
    · exact ih (k - 60) (by omega) (rsh_ok h 60).1
    · exact (rsh_ok h k).1
end PF
/- A shift to the left, digit by digit from behind. No condition. -/
namespace PF
/-- What is carried behind j digits. -/
def nJ (ds : List Nat) (k j : Nat) : Nat := val (ds.drop (ds.length - j)) * 2 ^ k / 10 ^ j
theorem nJ_zero (ds : List Nat) (k : Nat) : nJ ds k 0 = 0 := by
  unfold nJ
  rw [Nat.sub_zero, List.drop_length]
  simp [val]
theorem nJ_full (ds : List Nat) (k : Nat) : nJ ds k ds.length = val ds * 2 ^ k / 10 ^ ds.length := by
  unfold nJ
  rw [Nat.sub_self, List.drop_zero]
theorem nJ_lt {ds : List Nat} (hd : ∀ d ∈ ds, d ≤ 9) (k : Nat) {j : Nat} (hj : j ≤ ds.length) : nJ ds k j < 2 ^ k := by
  unfold nJ
  have h := val_lt (ds := ds.drop (ds.length - j)) fun d h => hd d (List.mem_of_mem_drop h)
  rw [List.length_drop, show ds.length - (ds.length - j) = j by omega] at h
  rw [Nat.div_lt_iff_lt_mul (Nat.pow_pos (by omega)), Nat.mul_comm]
  exact Nat.mul_lt_mul_of_pos_left h (Nat.two_pow_pos k)
theorem nJ_step {ds : List Nat} (k : Nat) {j : Nat} (hj : j < ds.length) : (nJ ds k j + ds.getD (ds.length - 1 - j) 0 * 2 ^ k) / 10 = nJ ds k (j + 1) ∧ (nJ ds k j + ds.getD (ds.length - 1 - j) 0 * 2 ^ k) % 10 = val ds * 2 ^ k / 10 ^ j % 10 := by
  have p10 : 0 < 10 ^ j := Nat.pow_pos (by omega)
  have hi : ds.length - (j + 1) < ds.length := by omega
  have e1 : ds.drop (ds.length - (j + 1)) = ds.getD (ds.length - 1 - j) 0 :: ds.drop (ds.length - j) := by
    rw [List.drop_eq_getElem_cons hi, show ds.length - (j + 1) + 1 = ds.length - j by omega]
    congr 1
    rw [List.getD_eq_getElem?_getD, List.getElem?_eq_getElem (by omega), Option.getD_some]
    congr 1
    omega
  have e2 : (ds.drop (ds.length - j)).length = j := by rw [List.length_drop]; omega
  have e3 : val (ds.drop (ds.length - (j + 1))) = ds.getD (ds.length - 1 - j) 0 * 10 ^ j + val (ds.drop (ds.length - j)) := by rw [e1, val_cons, e2]
  have e4 : val ds = val (ds.take (ds.length - (j + 1))) * 10 ^ (j + 1) + val (ds.drop (ds.length - (j + 1))) := by
    conv => lhs; rw [← List.take_append_drop (ds.length - (j + 1)) ds]
    rw [val_append, List.length_drop, show ds.length - (ds.length - (j + 1)) = j + 1 by omega]
  have e5 : nJ ds k j + ds.getD (ds.length - 1 - j) 0 * 2 ^ k = val (ds.drop (ds.length - (j + 1))) * 2 ^ k / 10 ^ j := by
    unfold nJ
    rw [e3, Nat.add_mul, Nat.mul_right_comm, Nat.add_comm (_ * 10 ^ j), Nat.add_mul_div_right _ _ p10]
  rw [e5]
  constructor
  · unfold nJ
    rw [Nat.div_div_eq_div_mul, ← Nat.pow_succ]
  · rw [e4, Nat.add_mul]
    generalize val (ds.take (ds.length - (j + 1))) = A
    generalize val (ds.drop (ds.length - (j + 1))) = B
    have : A * 10 ^ (j + 1) * 2 ^ k = 10 * (A * 2 ^ k) * 10 ^ j := by
      rw [Nat.pow_succ]
      simp only [Nat.mul_assoc, Nat.mul_left_comm, Nat.mul_comm]
    rw [this, Nat.add_comm, Nat.add_mul_div_right _ _ p10, Nat.add_mul_mod_self_left]
/-- The places that are written, from behind: where they lie among the digits. -/
theorem dgs_at {V K p : Nat} (hK : (dgs V).length = K) (hp : p < K) : (dgs V)[p]? = some (V / 10 ^ (K - 1 - p) % 10) := by
  have := dgs_get V p (by omega)
  rw [hK] at this
  exact this
theorem any_drop_step {l : List Nat} {m : Nat} (hm : m < l.length) : (l.drop m).any (· ≠ 0) = (decide (l[m] ≠ 0) || (l.drop (m + 1)).any (· ≠ 0)) := by
  rw [List.drop_eq_getElem_cons hm, List.any_cons]
end PF
/- A decimal's block: 800 places for digits, their number, the place of the point, the sign, the mark of digits cut off. No condition. -/
namespace Go.Dcm
open Go.RowKit
def rowV (f : Nat → Nat) (nd dp : Int) (neg tr : Bool) : Array Value := (Array.ofFn (n := 800) fun i => Value.int .u8 (f i.val : Int)) ++ #[.int .i64 nd, .int .i64 dp, .bool neg, .bool tr]
theorem rowV_size (f : Nat → Nat) (nd dp : Int) (neg tr : Bool) : (rowV f nd dp neg tr).size = 804 := by simp [rowV]
theorem rowV_get (f : Nat → Nat) (nd dp : Int) (neg tr : Bool) (i : Nat) : (rowV f nd dp neg tr)[i]? = if i < 800 then some (.int .u8 (f i : Int)) else #[Value.int .i64 nd, .int .i64 dp, .bool neg, .bool tr][i - 800]? := by
  unfold rowV
  rw [Array.getElem?_append]
  simp only [Array.size_ofFn]
  split
  · rename_i h
    rw [Array.getElem?_ofFn]
    simp [h]
  · rfl
def upd (f : Nat → Nat) (i x : Nat) : Nat → Nat := fun j => if j = i then x else f j
theorem upd_same (f : Nat → Nat) (i x : Nat) : upd f i x i = x := by simp [upd]
theorem upd_ne (f : Nat → Nat) {i j : Nat} (x : Nat) (h : j ≠ i) : upd f i x j = f j := by simp [upd, h]
theorem set_lt (f : Nat → Nat) (nd dp : Int) (neg tr : Bool) {i : Nat} (hi : i < 800) (x : Nat) : (rowV f nd dp neg tr).setIfInBounds i (.int .u8 (x : Int)) = rowV (upd f i x) nd dp neg tr := by
  apply Array.ext_getElem?
  intro j
  rw [Array.getElem?_setIfInBounds, rowV_size, rowV_get, rowV_get]
  by_cases h : i = j
  · subst h
    rw [if_pos rfl, if_pos (by omega), if_pos hi, upd_same]
  · rw [if_neg h]
    by_cases h8 : j < 800
    · rw [if_pos h8, if_pos h8, upd_ne _ _ (by omega)]
    · rw [if_neg h8, if_neg h8]
theorem set_end (f : Nat → Nat) (nd dp : Int) (neg tr : Bool) (k : Nat) (v : Value) : (rowV f nd dp neg tr).setIfInBounds (800 + k) v = (Array.ofFn (n := 800) fun i => Value.int .u8 (f i.val : Int)) ++ (#[Value.int .i64 nd, .int .i64 dp, .bool neg, .bool tr].setIfInBounds k v) := by
  apply Array.ext_getElem?
  intro j
  rw [Array.getElem?_setIfInBounds, rowV_size, rowV_get, Array.getElem?_append]
  simp only [Array.size_ofFn]
  by_cases h : 800 + k = j
  · subst h
    by_cases hk : k < 4
    · rw [if_pos rfl, if_pos (show 800 + k < 804 by omega), if_neg (show ¬800 + k < 800 by omega), Nat.add_sub_cancel_left, Array.getElem?_setIfInBounds, if_pos rfl, if_pos (by simpa using hk)]
    · rw [if_pos rfl, if_neg (show ¬800 + k < 804 by omega), if_neg (show ¬800 + k < 800 by omega), Nat.add_sub_cancel_left, Array.getElem?_setIfInBounds, if_pos rfl, if_neg (by simpa using hk)]
  · rw [if_neg h]
    by_cases h8 : j < 800
    · rw [if_pos h8, if_pos h8, Array.getElem?_ofFn]; simp [h8]
    · rw [if_neg h8, if_neg h8, Array.getElem?_setIfInBounds, if_neg (by omega)]
theorem set_nd (f : Nat → Nat) (nd dp : Int) (neg tr : Bool) (x : Int) : (rowV f nd dp neg tr).setIfInBounds 800 (.int .i64 x) = rowV f x dp neg tr := set_end f nd dp neg tr 0 _
theorem set_dp (f : Nat → Nat) (nd dp : Int) (neg tr : Bool) (x : Int) : (rowV f nd dp neg tr).setIfInBounds 801 (.int .i64 x) = rowV f nd x neg tr := set_end f nd dp neg tr 1 _
theorem set_neg (f : Nat → Nat) (nd dp : Int) (neg tr : Bool) (x : Bool) : (rowV f nd dp neg tr).setIfInBounds 802 (.bool x) = rowV f nd dp x tr := set_end f nd dp neg tr 2 _
theorem set_tr (f : Nat → Nat) (nd dp : Int) (neg tr : Bool) (x : Bool) : (rowV f nd dp neg tr).setIfInBounds 803 (.bool x) = rowV f nd dp neg x := set_end f nd dp neg tr 3 _
/-- Block b holds a decimal's cells; T: its type's number. -/
def DAt (T : TypeId) (w : World) (b : Nat) (f : Nat → Nat) (nd dp : Int) (neg tr : Bool) : Prop := w.heap[b]? = some (.cells (rowV f nd dp neg tr) T (0, 0))
variable {T : TypeId} {w : World} {b : Nat} {f : Nat → Nat} {nd dp : Int} {neg tr : Bool}
theorem DAt.dig (h : DAt T w b f nd dp neg tr) {i : Nat} (hi : i < 800) : w.cell? ⟨b, i, none⟩ = some (.int .u8 (f i : Int)) := by
  rw [Lib.cell_of_heap h, rowV_get, if_pos hi]
theorem DAt.cnd (h : DAt T w b f nd dp neg tr) : w.cell? ⟨b, 800, none⟩ = some (.int .i64 nd) := by rw [Lib.cell_of_heap h, rowV_get]; rfl
theorem DAt.cdp (h : DAt T w b f nd dp neg tr) : w.cell? ⟨b, 801, none⟩ = some (.int .i64 dp) := by rw [Lib.cell_of_heap h, rowV_get]; rfl
theorem DAt.cneg (h : DAt T w b f nd dp neg tr) : w.cell? ⟨b, 802, none⟩ = some (.bool neg) := by rw [Lib.cell_of_heap h, rowV_get]; rfl
theorem DAt.ctr (h : DAt T w b f nd dp neg tr) : w.cell? ⟨b, 803, none⟩ = some (.bool tr) := by rw [Lib.cell_of_heap h, rowV_get]; rfl
theorem DAt.free (h : DAt T w b f nd dp neg tr) (i : Nat) : w.frozen? ⟨b, i, none⟩ = false := Lib.frozen_of_heap h i
theorem DAt.lt (h : DAt T w b f nd dp neg tr) : b < w.heap.size := by
  rcases Nat.lt_or_ge b w.heap.size with h' | h'
  · exact h'
  · unfold DAt at h; rw [Array.getElem?_eq_none h'] at h; cases h
theorem DAt.setDig (h : DAt T w b f nd dp neg tr) {i : Nat} (hi : i < 800) (x : Nat) : DAt T (w.setCell ⟨b, i, none⟩ (.int .u8 (x : Int))) b (upd f i x) nd dp neg tr := by
  have := Joins.block_setCell (i := i) h (.int .u8 (x : Int))
  rw [set_lt _ _ _ _ _ hi] at this
  exact this
theorem DAt.setNd (h : DAt T w b f nd dp neg tr) (x : Int) : DAt T (w.setCell ⟨b, 800, none⟩ (.int .i64 x)) b f x dp neg tr := by
  have := Joins.block_setCell (i := 800) h (.int .i64 x)
  rw [set_nd] at this
  exact this
theorem DAt.setDp (h : DAt T w b f nd dp neg tr) (x : Int) : DAt T (w.setCell ⟨b, 801, none⟩ (.int .i64 x)) b f nd x neg tr := by
  have := Joins.block_setCell (i := 801) h (.int .i64 x)
  rw [set_dp] at this
  exact this
theorem DAt.setNeg (h : DAt T w b f nd dp neg tr) (x : Bool) : DAt T (w.setCell ⟨b, 802, none⟩ (.bool x)) b f nd dp x tr := by
  have := Joins.block_setCell (i := 802) h (.bool x)
  rw [set_neg] at this
  exact this
theorem DAt.setTr (h : DAt T w b f nd dp neg tr) (x : Bool) : DAt T (w.setCell ⟨b, 803, none⟩ (.bool x)) b f nd dp neg x := by
  have := Joins.block_setCell (i := 803) h (.bool x)
  rw [set_tr] at this
  exact this
theorem DAt.drew (h : DAt T w b f nd dp neg tr) (n : Nat) : DAt T (w.drewN n) b f nd dp neg tr := by
  unfold DAt at *
  simpa using h
/-- The first places hold the digits. -/
def Digs (f : Nat → Nat) (ds : List Nat) : Prop := ∀ i, i < ds.length → f i = 48 + ds.getD i 0
theorem Digs.at {f : Nat → Nat} {ds : List Nat} (h : Digs f ds) {i : Nat} (hi : i < ds.length) : f i = 48 + ds[i] := by
  rw [h i hi, List.getD_eq_getElem?_getD, List.getElem?_eq_getElem hi, Option.getD_some]
theorem Digs.take {f : Nat → Nat} {ds : List Nat} (h : Digs f ds) (n : Nat) : Digs f (ds.take n) := by
  intro i hi
  rw [List.length_take] at hi
  rw [h i (by omega), List.getD_eq_getElem?_getD, List.getD_eq_getElem?_getD, List.getElem?_take_of_lt (by omega)]
theorem Digs.snoc {f : Nat → Nat} {ds : List Nat} (h : Digs f ds) (d : Nat) : Digs (upd f ds.length (48 + d)) (ds ++ [d]) := by
  intro i hi
  rw [List.length_append, List.length_singleton] at hi
  rw [List.getD_eq_getElem?_getD]
  by_cases e : i = ds.length
  · subst e
    rw [upd_same, List.getElem?_append_right (Nat.le_refl _)]
    simp
  · rw [upd_ne _ _ e, h i (by omega), List.getD_eq_getElem?_getD, List.getElem?_append_left (by omega)]
end Go.Dcm
/- A decimal's zeros behind its digits cut off. Condition: the decimal's block. -/
namespace Go.Proofs.YtagiddbfhlokcaaGreatDoor
open Go.RowKit Go.Dcm
set_option maxRecDepth 100000
theorem trimL_snoc0 (l : List Nat) : PF.trimL (l ++ [0]) = PF.trimL l := by
  unfold PF.trimL
  rw [List.reverse_append, List.reverse_singleton, List.singleton_append, List.dropWhile_cons]
  rfl
theorem trimL_snoc (l : List Nat) {d : Nat} (h : d ≠ 0) : PF.trimL (l ++ [d]) = l ++ [d] := by
  unfold PF.trimL
  rw [List.reverse_append, List.reverse_singleton, List.singleton_append, List.dropWhile_cons, if_neg (by simp [h])]
  simp
theorem take_snoc {ds : List Nat} {m : Nat} (h : m < ds.length) : ds.take (m + 1) = ds.take m ++ [ds.getD m 0] := by
  rw [List.take_succ_eq_append_getElem h, List.getD_eq_getElem?_getD, List.getElem?_eq_getElem h, Option.getD_some]
/-- What a function leaves of a decimal: its block, and all below it. -/
def DPost (b : Nat) (w : World) (f : Nat → Nat) (nd dp : Int) (neg tr : Bool) (e : Ending) (w' : World) : Prop := e = .returned (.tuple #[]) ∧ DAt 267 w' b f nd dp neg tr ∧ Below b w w'
theorem below_drewN {B : Nat} {a w : World} (h : Below B a w) (n : Nat) : Below B a (w.drewN n) := ⟨h.os, h.tape, h.output, h.size, h.block⟩
theorem trim256 (b : Nat) (f : Nat → Nat) (ds : List Nat) (dp : Int) (neg tr : Bool) (w : World) (hD : DAt 267 w b f ds.length dp neg tr) (hg : Digs f ds) (hl : ds.length ≤ 800) :
    Calls Tryz.prog 256 #[.pointer (some ⟨b, 0, none⟩)] w (DPost b w f (PF.trimL ds).length (if PF.trimL ds = [] then 0 else dp) neg tr) := by
  obtain ⟨dp', hdp⟩ : ∃ x, (if PF.trimL ds = [] then 0 else dp) = x := ⟨_, rfl⟩
  obtain ⟨L, hL⟩ : ∃ x, (PF.trimL ds).length = x := ⟨_, rfl⟩
  rw [hdp, hL]
  have HDP := Lib.hid hdp
  have HL := Lib.hid hL
  have HD := Lib.hid hD
  have HG := Lib.hid hg
  clear hD hg hdp hL
  go_enter Tryz.func256, Tryz.ntmps256
  go_wp2_with fail
  go_loopg [] ds.length (fun k wr => k ≤ ds.length ∧ PF.trimL (ds.take k) = PF.trimL ds ∧ DAt 267 wr b f k dp neg tr ∧ Below b w wr)
  case atStart => exact ⟨Nat.le_refl _, by rw [List.take_length], HD.out, Below.refl _ _⟩
  case round =>
    obtain ⟨hk, ht, hd, hb⟩ := hrel
    have HT := Lib.hid ht
    have HB := Lib.hid hb
    cases gk with
    | zero =>
      have cn := hd.cnd
      have cp := hd.cdp
      have fr := hd.free 801
      obtain rfl : L = 0 := by rw [← HL.out, ← HT.out]; rfl
      obtain rfl : 0 = dp' := by rw [← HDP.out, ← HT.out]; rfl
      have HE := Lib.hid hd
      clear ht hb hd hk
      go_wp2_with fail
      go_quiet (fail)
      go_wp2_with fail
      go_end0
      exact ⟨rfl, (HE.out.drew _).setDp 0, (below_drewN HB.out _).setCell (p := ⟨b, 801, none⟩) (Nat.le_refl _) _⟩
    | succ m =>
      have cn : wr.cell? ⟨b, 800, none⟩ = some (.int .i64 ((m : Int) + 1)) := by simpa using hd.cnd
      have cp := hd.cdp
      have fr := hd.free 800
      have cd := hd.dig (i := m) (by omega)
      obtain ⟨N, hN⟩ : ∃ N : Int, (m : Int) + 1 = N := ⟨_, rfl⟩
      rw [hN] at cn
      have n0 : 0 < N := by omega
      have wn : IntKind.i64.wrap (N - 1) = (m : Int) := by rw [IntWalk.i64_in _ (by omega)]; omega
      have m8 : m < 800 := by omega
      obtain ⟨x, hx⟩ : ∃ x, f m = x := ⟨_, rfl⟩
      rw [hx] at cd
      have hfm := HG.out m (by omega)
      rw [hx] at hfm
      have hts := take_snoc (ds := ds) (m := m) (by omega)
      obtain ⟨d, hdd⟩ : ∃ d, ds.getD m 0 = d := ⟨_, rfl⟩
      rw [hdd] at hfm hts
      have HH := Lib.hid hd
      have HTS := Lib.hid hts
      have hkl : m + 1 ≤ ds.length := hk
      have HK := Lib.hid hkl
      by_cases h0 : d = 0
      · have e48 : ((x : Int) == 48) = true := by rw [beq_iff_eq]; omega
        have H0 := Lib.hid h0
        have HN : Hid ((m : Int) + 1 = N) := Lib.hid hN
        clear ht hb hd hfm hts hk hkl hdd hN hx h0
        go_wp2_with fail
        go_quiet (fail)
        go_wp2_with fail
        go_roundg m
        case measure => omega
        case rel => exact ⟨by have := HK.out; omega, by rw [← HT.out, HTS.out, H0.out, trimL_snoc0], (HH.out.drew _).setNd _, (below_drewN HB.out _).setCell (p := ⟨b, 800, none⟩) (Nat.le_refl _) _⟩
      · have e48 : ((x : Int) == 48) = false := by rw [beq_eq_false_iff_ne]; omega
        have hd2 : PF.trimL ds = ds.take (m + 1) := by rw [← ht, hts, trimL_snoc _ h0]
        have hlen : L = m + 1 := by rw [← HL.out, hd2, List.length_take]; omega
        have hne : PF.trimL ds ≠ [] := by intro e; rw [hd2] at e; have := congrArg List.length e; rw [List.length_take, List.length_nil] at this; omega
        obtain rfl : dp = dp' := by rw [← HDP.out, if_neg hne]
        have HLN := Lib.hid hlen
        have nz : (N == 0) = false := by rw [beq_eq_false_iff_ne]; omega
        clear ht hb hd hfm hts hk hkl hdd hN hx h0 hd2 hlen hne
        go_wp2_with fail
        go_quiet (fail)
        go_wp2_with fail
        go_end0
        exact ⟨rfl, by rw [HLN.out]; exact HH.out.drew _, below_drewN HB.out _⟩
end Go.Proofs.YtagiddbfhlokcaaGreatDoor
/- Is a decimal's beginning less than a text of digits? Condition: the decimal's block. -/
namespace Go.Proofs.YtagiddbfhlokcaaGreatDoor
open Go.RowKit Go.Dcm
set_option maxRecDepth 100000
/-- A text of digits. -/
def DText (s : ByteArray) (t : List Nat) : Prop := s.size = t.length ∧ ∀ i (h : i < s.size), s[i].toNat = 48 + t.getD i 0
def LtRel (ds t : List Nat) (w : World) (g : Nat) (i : Value) (wr : World) : Prop := ∃ k n : Nat, g + k = t.length ∧ i = .int .i64 (k : Int) ∧ PF.plt (ds.drop k) (t.drop k) = PF.plt ds t ∧ wr = w.drewN n
theorem plt_cons (x y : Nat) (a b : List Nat) : PF.plt (x :: a) (y :: b) = if x = y then PF.plt a b else decide (x < y) := rfl
theorem drop_cons {ds : List Nat} {m : Nat} (h : m < ds.length) : ds.drop m = ds.getD m 0 :: ds.drop (m + 1) := by
  rw [List.drop_eq_getElem_cons h, List.getD_eq_getElem?_getD, List.getElem?_eq_getElem h, Option.getD_some]
theorem less273 (b : Nat) (f : Nat → Nat) (ds : List Nat) (nd dp : Int) (neg tr : Bool) (w : World) (hD : DAt 267 w b f nd dp neg tr) (hg : Digs f ds) (hl : ds.length ≤ 800) (s : ByteArray) (t : List Nat) (hs : DText s t) (cap : Nat) :
    Calls Tryz.prog 273 #[.slice (some ⟨b, 0, none⟩) ds.length cap, .string s] w fun e w' => e = .returned (.bool (PF.plt ds t)) ∧ ∃ n, w' = w.drewN n := by
  obtain ⟨R, hR⟩ : ∃ R, PF.plt ds t = R := ⟨_, rfl⟩
  rw [hR]
  have HR := Lib.hid hR
  have HD := Lib.hid hD
  have HG := Lib.hid hg
  have HS := Lib.hid hs
  clear hD hg hs hR
  go_enter Tryz.func273, Tryz.ntmps273
  go_wp2_with fail
  go_loopg [5] (t.length) (fun g i wr => LtRel ds t w g i wr)
  case atStart => exact ⟨0, 0, rfl, rfl, rfl, rfl⟩
  case round =>
    obtain ⟨k, n, hk, rfl, hp, rfl⟩ := hrel
    have hst := HS.out.1
    by_cases h1 : k < t.length
    · have i1 : (k : Int) < (s.size : Int) := by omega
      have i1' : k < s.size := by omega
      rw [drop_cons h1] at hp
      by_cases h2 : k < ds.length
      · have i2 : ¬(ds.length : Int) ≤ (k : Int) := by omega
        have i2' : (k : Int) < (ds.length : Int) := by omega
        have cd := HD.out.dig (i := k) (by omega)
        obtain ⟨x, hx⟩ : ∃ x, f k = x := ⟨_, rfl⟩
        obtain ⟨c, hc⟩ : ∃ c, s[k] = c := ⟨_, rfl⟩
        have hx2 := HG.out k h2
        have hc2 := HS.out.2 k i1'
        rw [hx] at cd hx2
        rw [hc] at hc2
        rw [drop_cons h2, plt_cons] at hp
        obtain ⟨d, hd⟩ : ∃ d, ds.getD k 0 = d := ⟨_, rfl⟩
        obtain ⟨e, he⟩ : ∃ e, t.getD k 0 = e := ⟨_, rfl⟩
        rw [hd] at hp hx2
        rw [he] at hp hc2
        by_cases h3 : d = e
        · have t1 : ((x : Int) != (c.toNat : Int)) = false := by rw [bne_eq_false_iff_eq]; omega
          rw [if_pos h3] at hp
          have HP := Lib.hid hp
          clear hp hst hx hx2 hc2 hd he h3
          go_wp2_with fail
          go_quiet (fail)
          go_wp2_with fail
          go_roundg (gk - 1)
          case measure => omega
          case rel => exact ⟨k + 1, _, by omega, by go_num, HP.out, rfl⟩
        · have t1 : ((x : Int) != (c.toNat : Int)) = true := by rw [bne_iff_ne]; omega
          have t2 : decide (x < c.toNat) = R := by
            rw [← HR.out, ← hp, if_neg h3]
            exact decide_eq_decide.2 (by omega)
          clear hp hst hx hx2 hc2 hd he h3
          go_wp2_with fail
          go_quiet (fail)
          go_wp2_with fail
          go_quiet (fail)
          go_wp2_with fail
          go_ret
          exact ⟨rfl, _, by rw [World.drewN_drewN, World.drewN_drewN]⟩
      · have i2 : (ds.length : Int) ≤ (k : Int) := by omega
        have hR2 : R = true := by
          rw [← HR.out, ← hp, List.drop_of_length_le (by omega)]
          rfl
        subst hR2
        clear hp hst
        go_wp2_with fail
        go_ret
        exact ⟨rfl, _, rfl⟩
    · have i1 : ¬(k : Int) < (s.size : Int) := by omega
      have hR2 : R = false := by
        rw [← HR.out, ← hp, List.drop_of_length_le (l := t) (by omega)]
        cases ds.drop k <;> rfl
      subst hR2
      clear hp hst
      go_wp2_with fail
      go_ret
      exact ⟨rfl, _, rfl⟩
end Go.Proofs.YtagiddbfhlokcaaGreatDoor
/- How many digits a shift to the left brings. No condition. -/
namespace PF
theorem val_dgs : ∀ n, val (dgs n) = n := by
  intro n
  induction n using Nat.strongRecOn with
  | ind n ih =>
    by_cases h : n = 0
    · subst h; rw [dgs_zero]; rfl
    · rw [dgs_pos h, val_append, ih (n / 10) (by omega)]
      simp [val]
      omega
theorem five_mod : ∀ k, 1 ≤ k → 5 ^ k % 10 = 5
  | 0, h => by omega
  | 1, _ => rfl
  | k + 2, _ => by
    have := five_mod (k + 1) (by omega)
    rw [Nat.pow_succ]
    omega
/-- How many digits 5 ^ k has. -/
def cN (k : Nat) : Nat := (dgs (5 ^ k)).length
theorem cN_spec {k : Nat} (h : 1 ≤ k) : 1 ≤ cN k ∧ cN k ≤ k ∧ 10 ^ (cN k - 1) ≤ 5 ^ k ∧ 5 ^ k < 10 ^ cN k := by
  have h5 : 5 ^ k ≠ 0 := by have := Nat.pow_pos (n := k) (show 0 < 5 by omega); omega
  obtain ⟨a, b, c⟩ := dgs_len (5 ^ k) h5
  refine ⟨c, ?_, a, b⟩
  have : 5 ^ k < 10 ^ k := Nat.pow_lt_pow_left (by omega) (by omega)
  have := (Nat.pow_lt_pow_iff_right (show 1 < 10 by omega)).1 (Nat.lt_of_le_of_lt a this)
  unfold cN
  omega
theorem lsh_len {a : Dec} (h : a.Ok) {k : Nat} (hk : 1 ≤ k) : (dgs (val a.ds * 2 ^ k)).length = a.ds.length + (k - cN k + 1) - (if plt a.ds (dgs (5 ^ k)) then 1 else 0) := by
  obtain ⟨v1, v2, v3, v4⟩ := h.val
  obtain ⟨c1, c2, c3, c4⟩ := cN_spec hk
  have h5 : 5 ^ k ≠ 0 := by have := Nat.pow_pos (n := k) (show 0 < 5 by omega); omega
  have hl : dgs (5 ^ k) ≠ [] → (dgs (5 ^ k)).getLast? ≠ some 0 := by
    intro _
    rw [dgs_pos h5, List.getLast?_append, five_mod k hk]
    simp
  have hp := plt_iff a.ds (dgs (5 ^ k)) h.dig (dgs_le _) hl
  rw [val_dgs] at hp
  have hcN : (dgs (5 ^ k)).length = cN k := rfl
  rw [hcN] at hp
  have hg := grow_bounds (v := val a.ds) (L := a.ds.length) (k := k) (C := cN k) (K := a.ds.length + (k - cN k + 1) - (if val a.ds * 10 ^ cN k < 5 ^ k * 10 ^ a.ds.length then 1 else 0)) v1 v2 v3 c2 c3 c4 c1 rfl
  have e : (if plt a.ds (dgs (5 ^ k)) then 1 else 0 : Nat) = if val a.ds * 10 ^ cN k < 5 ^ k * 10 ^ a.ds.length then 1 else 0 := by
    by_cases hx : val a.ds * 10 ^ cN k < 5 ^ k * 10 ^ a.ds.length
    · rw [if_pos hx, if_pos (hp.2 hx)]
    · rw [if_neg hx, if_neg (fun h => hx (hp.1 h))]
  rw [e]
  refine dgs_len_eq ?_ hg.1 hg.2
  split <;> omega
end PF
/- A decimal shifted to the left. Condition: the decimal's block, the table of how many digits a shift brings. -/
namespace Go.Proofs.YtagiddbfhlokcaaGreatDoor
open Go.RowKit Go.Dcm
set_option maxRecDepth 100000
/-- A product's digits, laid from behind: j are laid. -/
structure Ls (f f' : Nat → Nat) (V K j : Nat) (tr tr' : Bool) : Prop where
  old : ∀ p, p < K - j → f' p = f p
  new : ∀ p, K - j ≤ p → p < K → p < 800 → f' p = 48 + V / 10 ^ (K - 1 - p) % 10
  trc : tr' = (tr || ((PF.dgs V).drop (max 800 (K - j))).any (· ≠ 0))
theorem Ls.start (f : Nat → Nat) {V K : Nat} (hK : (PF.dgs V).length = K) (tr : Bool) : Ls f f V K 0 tr tr :=
  ⟨fun _ _ => rfl, fun p h1 h2 _ => by omega, by rw [List.drop_of_length_le (by omega)]; simp⟩
theorem Ls.step {f f' : Nat → Nat} {V K j : Nat} {tr tr' : Bool} (h : Ls f f' V K j tr tr') (hK : (PF.dgs V).length = K) (hj : j < K) :
    (K - 1 - j < 800 → Ls f (upd f' (K - 1 - j) (48 + V / 10 ^ j % 10)) V K (j + 1) tr tr') ∧ (¬K - 1 - j < 800 → Ls f f' V K (j + 1) tr (tr' || decide (V / 10 ^ j % 10 ≠ 0))) := by
  have e1 : K - 1 - (K - 1 - j) = j := by omega
  constructor
  · intro hp
    refine ⟨?_, ?_, ?_⟩
    · intro p hp1
      rw [upd_ne _ _ (by omega), h.old p (by omega)]
    · intro p h1 h2 h3
      by_cases e : p = K - 1 - j
      · subst e
        rw [upd_same, e1]
      · rw [upd_ne _ _ e, h.new p (by omega) h2 h3]
    · rw [h.trc]
      congr 3
      omega
  · intro hp
    refine ⟨fun p hp1 => h.old p (by omega), ?_, ?_⟩
    · intro p h1 h2 h3
      exact h.new p (by omega) h2 h3
    · rw [h.trc, Bool.or_assoc]
      congr 1
      have hm : max 800 (K - (j + 1)) = K - 1 - j := by omega
      have hm2 : max 800 (K - j) = K - 1 - j + 1 := by omega
      have hlt : K - 1 - j < (PF.dgs V).length := by omega
      rw [hm, hm2, PF.any_drop_step hlt, Bool.or_comm]
      congr 2
      have := PF.dgs_at hK (show K - 1 - j < K by omega)
      rw [List.getElem?_eq_getElem hlt, e1] at this
      rw [Option.some.inj this]
theorem Ls.done {f f' : Nat → Nat} {V K : Nat} {tr tr' : Bool} (h : Ls f f' V K K tr tr') (hK : (PF.dgs V).length = K) : Digs f' ((PF.dgs V).take 800) ∧ tr' = (tr || ((PF.dgs V).drop 800).any (· ≠ 0)) := by
  constructor
  · intro i hi
    rw [List.length_take] at hi
    rw [h.new i (by omega) (by omega) (by omega), List.getD_eq_getElem?_getD, List.getElem?_take_of_lt (by omega), PF.dgs_at hK (by omega), Option.getD_some]
  · rw [h.trc, Nat.sub_self]
    rfl
/-- What a shift leaves. -/
def APost (b : Nat) (w : World) (a : PF.Dec) (neg : Bool) (e : Ending) (w' : World) : Prop := e = .returned (.tuple #[]) ∧ ∃ f, DAt 267 w' b f a.ds.length a.dp neg a.tr ∧ Digs f a.ds ∧ Below b w w'
/-- The table of shifts. -/
structure Cheat (B o : Nat) (S : Nat → ByteArray) (w : World) : Prop where
  v : w.cell? ⟨16, 0, none⟩ = some (.slice (some ⟨B, o, none⟩) 61 61)
  d : ∀ k, 1 ≤ k → k < 61 → w.cell? ⟨B, o + k * 2, none⟩ = some (.int .i64 ((k - PF.cN k + 1 : Nat) : Int))
  s : ∀ k, 1 ≤ k → k < 61 → w.cell? ⟨B, o + k * 2 + 1, none⟩ = some (.string (S k)) ∧ DText (S k) (PF.dgs (5 ^ k))
/-- The loop over the digits, from behind: g are left. -/
def LsRel (b : Nat) (f : Nat → Nat) (ds : List Nat) (V K k : Nat) (dp : Int) (neg tr : Bool) (w : World) (g : Nat) (r wv n : Value) (wr : World) : Prop :=
  ∃ (j : Nat) (R W : Int) (x : Nat) (f' : Nat → Nat) (tr' : Bool), g + j = ds.length ∧ R = (g : Int) - 1 ∧ W = (K : Int) - j ∧ x = PF.nJ ds k j ∧ r = .int .i64 R ∧ wv = .int .i64 W ∧ n = .int .u64 (x : Int) ∧ DAt 267 wr b f' ds.length dp neg tr' ∧ Ls f f' V K j tr tr' ∧ Below b w wr
theorem digs_trim {f : Nat → Nat} {ds : List Nat} (h : Digs f ds) : Digs f (PF.trimL ds) := by
  obtain ⟨t, e, _⟩ := PF.trimL_prefix ds
  intro i hi
  have hl : i < ds.length := by rw [e, List.length_append]; omega
  rw [h i hl]
  conv => lhs; rw [e]
  rw [List.getD_eq_getElem?_getD, List.getD_eq_getElem?_getD, List.getElem?_append_left hi]
theorem apost_of_trim {b : Nat} {w w0 w2 : World} {f : Nat → Nat} {l : List Nat} {dp : Int} {tr neg : Bool} (h : DPost b w0 f (PF.trimL l).length (if PF.trimL l = [] then 0 else dp) neg tr (.returned (.tuple #[])) w2) (hg : Digs f l) (hb : Below b w w0) : APost b w (PF.Dec.trim ⟨l, dp, tr⟩) neg (.returned (.tuple #[])) w2 :=
  ⟨rfl, f, h.2.1, digs_trim hg, hb.trans h.2.2⟩
/-- The loop over what is carried still. -/
def LtRel2 (b : Nat) (f : Nat → Nat) (L V K : Nat) (dp : Int) (neg tr : Bool) (w : World) (g : Nat) (wv n : Value) (wr : World) : Prop :=
  ∃ (j : Nat) (W : Int) (x : Nat) (f' : Nat → Nat) (tr' : Bool), g + j = K ∧ W = (K : Int) - j ∧ x = V / 10 ^ j ∧ x ≤ 1152921504606846976 ∧ wv = .int .i64 W ∧ n = .int .u64 (x : Int) ∧ DAt 267 wr b f' L dp neg tr' ∧ Ls f f' V K j tr tr' ∧ Below b w wr
theorem carried {V K j : Nat} (hV : V ≠ 0) (hK : (PF.dgs V).length = K) : V / 10 ^ j ≠ 0 ↔ j < K := by
  obtain ⟨a, b, c⟩ := PF.dgs_len V hV
  rw [hK] at a b c
  have hp : 0 < 10 ^ j := Nat.pow_pos (by omega)
  constructor
  · intro h
    rcases Nat.lt_or_ge j K with h' | h'
    · exact h'
    · exact absurd (Nat.div_eq_of_lt (Nat.lt_of_lt_of_le b (Nat.pow_le_pow_right (by omega) h'))) h
  · intro h
    have h2 : 10 ^ j ≤ V := Nat.le_trans (Nat.pow_le_pow_right (by omega) (show j ≤ K - 1 by omega)) a
    have := Nat.div_pos h2 hp
    omega
theorem slice_arr (b L : Nat) (hL : L ≤ 800) (w : World) : (Instr.sliceAt 265 (.pointer (some ⟨b, 0, none⟩)) (some (.int .i64 0)) (some (.int .i64 (L : Int))) none).run Tryz.prog w = .ok (.slice (some ⟨b, 0, none⟩) L 800) w := by
  simp [Instr.sliceAt, Instr.sliceBounds, Instr.sliceBound, asIntOf, go_sem]
  omega
set_option maxHeartbeats 2000000 in
theorem left257 (b : Nat) (f : Nat → Nat) (a : PF.Dec) (neg : Bool) (w : World) (hD : DAt 267 w b f a.ds.length a.dp neg a.tr) (hg : Digs f a.ds) (ha : a.Ok) (hp1 : -1000000 ≤ a.dp) (hp2 : a.dp ≤ 1000000) (k : Nat) (hk : 1 ≤ k) (hk60 : k ≤ 60) {B o : Nat} {S : Nat → ByteArray} (hc : Cheat B o S w) :
    Calls Tryz.prog 257 #[.pointer (some ⟨b, 0, none⟩), .int .u64 (k : Int)] w (APost b w (a.lsh k) neg) := by
  obtain ⟨V, hV⟩ : ∃ V, PF.val a.ds * 2 ^ k = V := ⟨_, rfl⟩
  obtain ⟨K, hK⟩ : ∃ K, (PF.dgs V).length = K := ⟨_, rfl⟩
  obtain ⟨lt, hlt⟩ : ∃ lt, PF.plt a.ds (PF.dgs (5 ^ k)) = lt := ⟨_, rfl⟩
  have hlen := PF.lsh_len ha hk
  rw [hV, hK, hlt] at hlen
  obtain ⟨c1, c2, c3, c4⟩ := PF.cN_spec hk
  have v := hc.v
  have d := hc.d k hk (by omega)
  obtain ⟨s, hs⟩ := hc.s k hk (by omega)
  have cn := hD.cnd
  have hle := ha.len
  obtain ⟨D, hDD⟩ : ∃ D : Nat, k - PF.cN k + 1 = D := ⟨_, rfl⟩
  rw [hDD] at d hlen
  have hD1 : 1 ≤ D := by omega
  have hD60 : D ≤ 60 := by omega
  have m273 : ∀ n, Calls Tryz.prog 273 #[.slice (some ⟨b, 0, none⟩) a.ds.length 800, .string (S k)] (w.drewN n) fun e w' => e = .returned (.bool lt) ∧ ∃ m, w' = w.drewN m := by
    intro n
    rw [← hlt]
    exact (less273 b f a.ds a.ds.length a.dp neg a.tr _ (hD.drew n) hg hle (S k) (PF.dgs (5 ^ k)) hs 800).mono fun e w' ⟨h1, m, h2⟩ => ⟨h1, n + m, by rw [h2, World.drewN_drewN]⟩
  obtain ⟨L, hLL⟩ : ∃ L, a.ds.length = L := ⟨_, rfl⟩
  rw [hLL] at m273
  have M273 := Lib.hid m273
  have k61 : (k : Int) < 61 := by omega
  have hKL : a.ds.length ≤ K := by rw [hlen]; split <;> omega
  have hKb : K ≤ 1000 := by rw [hlen]; split <;> omega
  obtain ⟨T, hT⟩ : ∃ T : Int, (K : Int) - (a.ds.length : Int) = T := ⟨_, rfl⟩
  have hT2 : T = (D : Int) - (if lt then 1 else 0) := by rw [← hT, hlen]; split <;> omega
  have HT := Lib.hid hT
  have HT2 := Lib.hid hT2
  have HL := Lib.hid hlen
  have HV := Lib.hid hV
  have HK := Lib.hid hK
  have HD := Lib.hid hD
  have HG := Lib.hid hg
  have HA := Lib.hid ha
  have HLL := Lib.hid hLL
  rw [hLL] at hle cn hKL
  have hsl := slice_arr b L hle
  clear hc hs hDD m273 hT hT2 hlen hV hK hD hg ha c1 c2 c3 c4 hlt hLL
  go_enter Tryz.func257, Tryz.ntmps257
  go_wp2_with fail
  go_quiet ((go_at_call 273; with_reducible exact M273.out _))
  go_upto_if 30 with (fail)
  go_cut [4] from 31 to 32 (fun d w' => d = .int .i64 T ∧ w.drewN nq = w')
  case first =>
    cases lt
    · obtain rfl : T = (D : Int) := by have := HT2.out; simpa using this
      go_wp2_with fail
      go_meet
      case rel => exact ⟨rfl, rfl⟩
    · obtain rfl : T = (D : Int) - 1 := by have := HT2.out; simpa using this
      go_wp2_with fail
      go_meet
      case rel => exact ⟨rfl, rfl⟩
  case rest =>
    obtain ⟨rfl, rfl⟩ := hcut
    have hTK : (L : Int) + T = (K : Int) := by have := HT.out; rw [HLL.out] at this; omega
    have hT0 : 0 ≤ T := by omega
    have hT1 : T ≤ 1000 := by omega
    go_wp2_with fail
    go_loopg [5, 6, 7] L (fun g r wv n wr => LsRel b f a.ds V K k a.dp neg a.tr w g r wv n wr)
    case atStart => exact ⟨0, (L : Int) - 1, (K : Int), 0, f, a.tr, by rw [HLL.out]; rfl, rfl, by omega, (PF.nJ_zero _ _).symm, rfl, rfl, rfl, HD.out.drew _, Ls.start f HK.out _, below_drewN (Below.refl _ _) _⟩
    case round =>
      obtain ⟨j, R, W, x, f', tr', hj, hR, hW, hx, rfl, rfl, rfl, hd, hls, hbl⟩ := hrel
      cases gk with
      | zero =>
        rw [HLL.out] at hj
        obtain rfl : L = j := by omega
        obtain rfl : R = -1 := by omega
        have hVn : V ≠ 0 := by
          rw [← HV.out]
          exact Nat.mul_ne_zero HA.out.val.2.2.2 (Nat.ne_of_gt (Nat.two_pow_pos _))
        have hx0 : x = V / 10 ^ L := by rw [hx, ← HV.out, ← HLL.out]; exact PF.nJ_full _ _
        have hx9 : x ≤ 1152921504606846976 := by
          have h1 : x < 2 ^ k := by rw [hx]; exact PF.nJ_lt HA.out.dig k (by rw [HLL.out]; exact Nat.le_refl _)
          have h2 : 2 ^ k ≤ 1152921504606846976 := Nat.pow_le_pow_right (n := 2) (by omega) (show k ≤ 60 from hk60)
          omega
        have HST : Hid (LtRel2 b f L V K a.dp neg a.tr w (K - L) (.int .i64 W) (.int .u64 (x : Int)) wr) := Lib.hid ⟨L, W, x, f', tr', by omega, hW, hx0, hx9, rfl, rfl, by rw [HLL.out] at hd; exact hd, hls, hbl⟩
        have HVN := Lib.hid hVn
        clear hd hls hbl hx hW hj hR hVn hx0
        go_wp2_with fail
        go_loopg [6, 7] (K - L) (fun g wv n wr => LtRel2 b f L V K a.dp neg a.tr w g wv n wr)
        case atStart => exact HST.out
        case round =>
          obtain ⟨j, W, x, f', tr', hj, hW, hx, hx9, rfl, rfl, hd, hls, hbl⟩ := hrel
          have HJK := Lib.hid (carried (j := j) HVN.out HK.out)
          by_cases hx0 : x = 0
          · obtain rfl : K = j := by
              have := HJK.out
              rw [← hx] at this
              omega
            obtain ⟨hdg, htr⟩ := hls.done HK.out
            have HDG := Lib.hid hdg
            have HTR := Lib.hid htr
            have HBL := Lib.hid hbl
            have HDD := Lib.hid hd
            have c8 := hd.cnd
            have c9 := hd.cdp
            have f8 := hd.free 800
            have f9 := hd.free 801
            have hlt8 : ((PF.dgs V).take 800).length = min 800 K := by rw [List.length_take, HK.out]
            have HL8 := Lib.hid hlt8
            have HX : Hid (x = 0) := Lib.hid hx0
            have xz : ¬(0 : Int) < (x : Int) := by omega
            have dT : a.dp + T = a.dp + (((PF.dgs (PF.val a.ds * 2 ^ k)).length : Int) - a.ds.length) := by rw [HV.out, HK.out, HLL.out]; omega
            have HDT := Lib.hid dT
            clear hdg htr hbl hd hls hx hx0 hj hW hx9 hlt8 dT
            by_cases hK8 : 800 ≤ K
            · have k8 : (800 : Int) ≤ (K : Int) := by omega
              have H8 : Hid (min 800 K = 800) := Lib.hid (by omega)
              go_wp2_with fail
              refine (trim256 b f' ((PF.dgs V).take 800) (a.dp + T) neg tr' _ (by rw [HL8.out, H8.out]; exact ((HDD.out.setNd _).setNd 800).setDp _) HDG.out (by rw [HL8.out]; omega)).mono ?_
              rintro e w2 h2
              have he := h2.1
              subst he
              have H2 := Lib.hid h2
              clear h2
              go_wp2_with fail
              go_end0
              have hl : a.lsh k = PF.Dec.trim ⟨(PF.dgs V).take 800, a.dp + T, tr'⟩ := by
                rw [HDT.out, HTR.out, ← HV.out]
                rfl
              rw [hl]
              exact apost_of_trim H2.out HDG.out (((HBL.out.setCell (p := ⟨b, 800, none⟩) (Nat.le_refl _) _).setCell (p := ⟨b, 800, none⟩) (Nat.le_refl _) _).setCell (p := ⟨b, 801, none⟩) (Nat.le_refl _) _)
            · have k8 : ¬(800 : Int) ≤ (K : Int) := by omega
              have H8 : Hid (min 800 K = K) := Lib.hid (by omega)
              go_wp2_with fail
              refine (trim256 b f' ((PF.dgs V).take 800) (a.dp + T) neg tr' _ (by rw [HL8.out, H8.out]; exact (HDD.out.setNd _).setDp _) HDG.out (by rw [HL8.out]; omega)).mono ?_
              rintro e w2 h2
              have he := h2.1
              subst he
              have H2 := Lib.hid h2
              clear h2
              go_wp2_with fail
              go_end0
              have hl : a.lsh k = PF.Dec.trim ⟨(PF.dgs V).take 800, a.dp + T, tr'⟩ := by
                rw [HDT.out, HTR.out, ← HV.out]
                rfl
              rw [hl]
              exact apost_of_trim H2.out HDG.out ((HBL.out.setCell (p := ⟨b, 800, none⟩) (Nat.le_refl _) _).setCell (p := ⟨b, 801, none⟩) (Nat.le_refl _) _)
          · obtain ⟨p, hp⟩ : ∃ p : Nat, K - 1 - j = p := ⟨_, rfl⟩
            have hjl : j < K := HJK.out.1 (by rw [← hx]; exact hx0)
            obtain ⟨q, rfl⟩ : ∃ q, gk = q + 1 := ⟨gk - 1, by omega⟩
            have hpW : W - 1 = (p : Int) := by omega
            have hw1 : 1 ≤ W := by omega
            have hw2 : W ≤ 1000 := by omega
            obtain ⟨u, hu⟩ : ∃ u, x / 10 = u := ⟨_, rfl⟩
            have hui : (x : Int) / 10 = (u : Int) := by omega
            obtain ⟨m, hm⟩ : ∃ m, x % 10 = m := ⟨_, rfl⟩
            have hmi : (x : Int) - 10 * (u : Int) = (m : Int) := by omega
            have hm9 : m ≤ 9 := by omega
            have hu9 : u ≤ 1152921504606846976 := by omega
            have hu2 : u = V / 10 ^ (j + 1) := by rw [← hu, hx, Nat.div_div_eq_div_mul, ← Nat.pow_succ]
            have hm2 : m = V / 10 ^ j % 10 := by rw [← hm, hx]
            have xp : (0 : Int) < (x : Int) := by omega
            have HLS := Lib.hid hls
            have HBL := Lib.hid hbl
            have HDD := Lib.hid hd
            have HJ := Lib.hid hj
            have HP := Lib.hid hp
            have HU2 := Lib.hid hu2
            have HLT := Lib.hid hjl
            have hst := hls.step HK.out hjl
            rw [hp, ← hm2] at hst
            have HST := Lib.hid hst
            by_cases hp80 : p < 800
            · have hpi : (p : Int) < 800 := by omega
              have frp := hd.free p
              have cp := hd.dig (i := p) hp80
              clear hx0 hx hm2 hu2 hu hm hls hbl hd hj hW hp hjl hst
              go_wp2_with fail
              go_roundg q
              case measure => omega
              case rel =>
                have hm2 : (48 : Nat) + m = m + 48 := by omega
                have hs := HST.out.1 hp80
                rw [hm2] at hs
                exact ⟨j + 1, (p : Int), u, upd f' p (m + 48), tr', by have := HJ.out; omega, by have := HP.out; have := HLT.out; omega, HU2.out, hu9, rfl, rfl, by have := HDD.out.setDig (i := p) hp80 (m + 48); simpa using this, hs, HBL.out.setCell (p := ⟨b, p, none⟩) (Nat.le_refl _) _⟩
            · have hpi : ¬(p : Int) < 800 := by omega
              have ct := hd.ctr
              have frt := hd.free 803
              have hs := hst.2 hp80
              by_cases hm0 : m = 0
              · have m1 : ((m : Int) != 0) = false := by rw [hm0]; rfl
                rw [hm0, show decide ((0 : Nat) ≠ 0) = false from rfl, Bool.or_false] at hs
                have HS := Lib.hid hs
                clear hx0 hx hm2 hu2 hu hm hls hbl hd hj hW hp hjl hst hm0 hs
                go_wp2_with fail
                go_roundg q
                case measure => omega
                case rel => exact ⟨j + 1, (p : Int), u, f', tr', by have := HJ.out; omega, by have := HP.out; have := HLT.out; omega, HU2.out, hu9, rfl, rfl, HDD.out, HS.out, HBL.out⟩
              · have m1 : ((m : Int) != 0) = true := by rw [bne_iff_ne]; omega
                rw [show decide (m ≠ 0) = true by simpa using hm0, Bool.or_true] at hs
                have HS := Lib.hid hs
                clear hx0 hx hm2 hu2 hu hm hls hbl hd hj hW hp hjl hst hm0 hs
                go_wp2_with fail
                go_roundg q
                case measure => omega
                case rel => exact ⟨j + 1, (p : Int), u, f', true, by have := HJ.out; omega, by have := HP.out; have := HLT.out; omega, HU2.out, hu9, rfl, rfl, HDD.out.setTr true, HS.out, HBL.out.setCell (p := ⟨b, 803, none⟩) (Nat.le_refl _) _⟩
      | succ q =>
        have HLS := Lib.hid hls
        have HBL := Lib.hid hbl
        have HDD := Lib.hid hd
        have HJ := Lib.hid hj
        rw [HLL.out] at hj
        obtain rfl : R = (q : Int) := by omega
        obtain ⟨p, hp⟩ : ∃ p : Nat, K - 1 - j = p := ⟨_, rfl⟩
        have hpW : W - 1 = (p : Int) := by omega
        have hw1 : 1 ≤ W := by omega
        have hw2 : W ≤ 1000 := by omega
        obtain ⟨d1, hd1⟩ : ∃ d1, a.ds.getD (a.ds.length - 1 - j) 0 = d1 := ⟨_, rfl⟩
        have hq : a.ds.length - 1 - j = q := by rw [HLL.out]; omega
        have hst := PF.nJ_step (ds := a.ds) k (j := j) (by rw [HLL.out]; omega)
        rw [← hx, hd1, HV.out] at hst
        rw [hq] at hd1
        have hfq : f' q = 48 + d1 := by rw [hls.old q (by omega), HG.out q (by rw [HLL.out]; omega), hd1]
        have hd9 : d1 ≤ 9 := by
          rw [← hd1, List.getD_eq_getElem?_getD, List.getElem?_eq_getElem (by rw [HLL.out]; omega), Option.getD_some]
          exact HA.out.dig _ (List.getElem_mem _)
        have hx2 : x < 2 ^ k := by rw [hx]; exact PF.nJ_lt HA.out.dig k (by rw [HLL.out]; omega)
        have hk2 : 2 ^ k ≤ 1152921504606846976 := Nat.pow_le_pow_right (n := 2) (by omega) (show k ≤ 60 from hk60)
        have cd := hd.dig (i := q) (by omega)
        obtain ⟨c, hc⟩ : ∃ c, f' q = c := ⟨_, rfl⟩
        rw [hc] at cd hfq
        obtain ⟨y, hy⟩ : ∃ y, d1 * 2 ^ k = y := ⟨_, rfl⟩
        have hy9 : y ≤ 9 * 2 ^ k := by rw [← hy]; exact Nat.mul_le_mul_right _ hd9
        have wy : IntKind.u64.wrap (((c : Int) - 48) * 2 ^ k) = (y : Int) := by
          have e : ((c : Int) - 48) * 2 ^ k = (y : Int) := by
            have : (c : Int) - 48 = (d1 : Int) := by omega
            rw [this, ← hy]; norm_cast
          rw [e, IntKind.wrap_u64]
          omega
        rw [hy] at hst
        obtain ⟨z, hz⟩ : ∃ z, x + y = z := ⟨_, rfl⟩
        have hzi : (x : Int) + (y : Int) = (z : Int) := by omega
        rw [hz] at hst
        obtain ⟨u, hu⟩ : ∃ u, z / 10 = u := ⟨_, rfl⟩
        have hui : (z : Int) / 10 = (u : Int) := by omega
        obtain ⟨m, hm⟩ : ∃ m, z % 10 = m := ⟨_, rfl⟩
        have hmi : (z : Int) - 10 * (u : Int) = (m : Int) := by omega
        have hm9 : m ≤ 9 := by omega
        rw [hu, hm] at hst
        have HST := Lib.hid hst
        have hz8 : z ≤ 11529215046068469760 := by omega
        have hu8 : u ≤ 1152921504606846976 := by omega
        have hc1 : 48 ≤ c := by omega
        have hc2 : c ≤ 57 := by omega
        have hp8 : p ≤ 1000 := by omega
        have HX2 := Lib.hid hx2
        have HK2 := Lib.hid hk2
        have HP := Lib.hid hp
        have fr := hd.free
        have HW := Lib.hid hW
        by_cases hp80 : p < 800
        · have hpi : (p : Int) < 800 := by omega
          have frp := hd.free p
          have cp := hd.dig (i := p) hp80
          have q8 : (q : Int) < 800 := by omega
          have HLT : Hid (j < K) := Lib.hid (by omega)
          clear hx2 hy9 hy hz hu hm hst hls hbl hd hx hj hR hW hfq hd1 hq hc hp hk2 fr hd9
          go_wp2_with fail
          go_roundg q
          case measure => omega
          case rel =>
            have hm2 : (48 : Nat) + m = m + 48 := by omega
            have hs := (HLS.out.step HK.out HLT.out).1 (by rw [HP.out]; exact hp80)
            rw [HP.out, ← HST.out.2, hm2] at hs
            exact ⟨j + 1, (q : Int) - 1, (p : Int), u, upd f' p (m + 48), tr', by have := HJ.out; omega, rfl, by have := HP.out; have := HLT.out; omega, HST.out.1, rfl, rfl, rfl, by have := HDD.out.setDig (i := p) hp80 (m + 48); simpa using this, hs, HBL.out.setCell (p := ⟨b, p, none⟩) (Nat.le_refl _) _⟩
        · have hpi : ¬(p : Int) < 800 := by omega
          have q8 : (q : Int) < 800 := by omega
          have HLT : Hid (j < K) := Lib.hid (by omega)
          have HTR : Hid (Ls f f' V K (j + 1) a.tr (tr' || decide (m ≠ 0))) := Lib.hid (by
            have hs := (hls.step HK.out HLT.out).2 (by rw [hp]; exact hp80)
            rw [← hst.2] at hs
            exact hs)
          have ct := hd.ctr
          have frt := hd.free 803
          by_cases hm0 : m = 0
          · have m1 : ((m : Int) != 0) = false := by rw [hm0]; rfl
            have HM0 := Lib.hid hm0
            clear hx2 hy9 hy hz hu hm hst hls hbl hd hx hj hR hW hfq hd1 hq hc hp hk2 fr hd9 hm0
            go_wp2_with fail
            go_roundg q
            case measure => omega
            case rel =>
              have hs := HTR.out
              rw [HM0.out, show decide ((0 : Nat) ≠ 0) = false from rfl, Bool.or_false] at hs
              exact ⟨j + 1, (q : Int) - 1, (p : Int), u, f', tr', by have := HJ.out; omega, rfl, by have := HP.out; have := HLT.out; omega, HST.out.1, rfl, rfl, rfl, HDD.out, hs, HBL.out⟩
          · have m1 : ((m : Int) != 0) = true := by rw [bne_iff_ne]; omega
            have HM0 := Lib.hid hm0
            clear hx2 hy9 hy hz hu hm hst hls hbl hd hx hj hR hW hfq hd1 hq hc hp hk2 fr hd9 hm0
            go_wp2_with fail
            go_roundg q
            case measure => omega
            case rel =>
              have hs := HTR.out
              rw [show decide (m ≠ 0) = true by simpa using HM0.out, Bool.or_true] at hs
              exact ⟨j + 1, (q : Int) - 1, (p : Int), u, f', true, by have := HJ.out; omega, rfl, by have := HP.out; have := HLT.out; omega, HST.out.1, rfl, rfl, rfl, HDD.out.setTr true, hs, HBL.out.setCell (p := ⟨b, 803, none⟩) (Nat.le_refl _) _⟩
end Go.Proofs.YtagiddbfhlokcaaGreatDoor
