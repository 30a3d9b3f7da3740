/- Several texts of this proof, laid together. Conditions: as each says. -/
import Derived.Test.YtagiddbfhlokcaaGreatDoorTAI
import Derived.Test.YtagiddbfhlokcaaGreatDoorTAJ
import Derived.Test.YtagiddbfhlokcaaGreatDoorTAA
import Derived.Deep.Cut
import Derived.Deep.CutRange
import Derived.Lib.RabinKarpLaws
import Derived.Lib.LaidTab
/- ParseFloat at a text that is read as a float. Conditions: the tables, the error's variable. -/
namespace Go.Proofs.YtagiddbfhlokcaaGreatDoor
open Go.RowKit Go.Dcm
set_option maxRecDepth 100000
def PPost (r : Nat × Bool) (w : World) (e : Ending) (w' : World) : Prop := e = .returned (.tuple #[.float .f64 r.1, errV r.2]) ∧ Below w.heap.size w w'
section
variable {T : Nat → Nat × Nat} {F : Nat → Nat} {B2 o2 B o : Nat} {S : Nat → ByteArray} {w : World}
theorem prefix141 (s : ByteArray) (hdec : PF.decB s.data.toList = true) (hw : PEnv T F B2 o2 B o S w) :
    Calls Tryz.prog 141 #[.string s, .int .i64 64] w (AtPost s (PF.atof (tabF T) F s.data.toList) w) := by
  have M := Lib.hid (atof182 s hdec hw)
  obtain ⟨R, hR⟩ : ∃ R, PF.atof (tabF T) F s.data.toList = R := ⟨_, rfl⟩
  rw [hR] at M ⊢
  clear hw hdec hR
  go_enter Tryz.func141, Tryz.ntmps141
  go_wp2_with fail
  refine M.out.mono ?_
  rintro e w2 ⟨rfl, hb⟩
  have HB := Lib.hid hb
  clear hb
  go_wp2_with fail
  go_ret3
  exact ⟨rfl, HB.out⟩
theorem parse90 (s : ByteArray) (hdec : PF.decB s.data.toList = true) (hw : PEnv T F B2 o2 B o S w) :
    Calls Tryz.prog 90 #[.string s, .int .i64 64] w (PPost (PF.atof (tabF T) F s.data.toList) w) := by
  have M := Lib.hid (prefix141 s hdec hw)
  obtain ⟨R, hR⟩ : ∃ R, PF.atof (tabF T) F s.data.toList = R := ⟨_, rfl⟩
  rw [hR] at M ⊢
  clear hw hdec hR
  go_enter Tryz.func90, Tryz.ntmps90
  go_wp2_with fail
  refine M.out.mono ?_
  rintro e w2 ⟨rfl, hb⟩
  have HB := Lib.hid hb
  clear hb
  go_wp2_with fail
  go_ret2
  exact ⟨rfl, HB.out⟩
/-- What strconv.ParseFloat answers: the bits; an error just if they are too great. -/
def PfPost (r : Nat × Bool) (w : World) (e : Ending) (w' : World) : Prop :=
  (r.2 = false → e = .returned (.tuple #[.float .f64 r.1, .nilIface])) ∧ (r.2 = true → ∃ N, e = .returned (.tuple #[.float .f64 r.1, .iface 190 (.pointer (some ⟨N, 0, none⟩))])) ∧ Below w.heap.size w w'
def ErrPost (w : World) (e : Ending) (w' : World) : Prop := (∃ N, e = .returned (.iface 190 (.pointer (some ⟨N, 0, none⟩)))) ∧ Below w.heap.size w w'
theorem toErr91 (fn s : ByteArray) (b : Int) (hsz : s.size ≤ 281474976710656) {ev : Value} (hv : w.cell? ⟨3, 0, none⟩ = some ev) (hev : ev = .nilIface ∨ ∃ te pe, ev = .iface te pe) :
    Calls Tryz.prog 91 #[.string fn, .string s, .int .i64 b, .int .i64 64, .iface 189 (.int .i64 1)] w (ErrPost w) := by
  have M := Lib.hid (Tryz.strconv_rangeError fn s ev w hsz hv hev)
  have e1 : ∀ w, (binOp BinOp.eql 104 (.iface 189 (.int .i64 1)) (.iface 189 (.int .i64 2))).run Tryz.prog w = .ok (.bool false) w := fun w => by kernel_rfl
  have e2 : ∀ w, (binOp BinOp.eql 104 (.iface 189 (.int .i64 1)) (.iface 189 (.int .i64 1))).run Tryz.prog w = .ok (.bool true) w := fun w => by kernel_rfl
  clear hsz hv hev
  go_enter Tryz.func91, Tryz.ntmps91
  go_wp2_with fail
  refine M.out.mono ?_
  rintro e w2 ⟨N, rfl, _, _, hb⟩
  have HB := Lib.hid hb
  clear hb
  go_wp2_with fail
  go_ret
  exact ⟨⟨N, rfl⟩, HB.out⟩
theorem parse54 (s : ByteArray) (hdec : PF.decB s.data.toList = true) (hw : PEnv T F B2 o2 B o S w) {ev : Value} (hv : w.cell? ⟨3, 0, none⟩ = some ev) (hev : ev = .nilIface ∨ ∃ te pe, ev = .iface te pe) :
    Calls Tryz.prog 54 #[.string s, .int .i64 64] w (PfPost (PF.atof (tabF T) F s.data.toList) w) := by
  have M := Lib.hid (parse90 s hdec hw)
  obtain ⟨R, hR⟩ : ∃ R, PF.atof (tabF T) F s.data.toList = R := ⟨_, rfl⟩
  rw [hR] at M ⊢
  have hsz : s.size ≤ 281474976710656 := by
    have := (sgn_of hdec).choose_spec.2.2
    omega
  have HSZ := Lib.hid hsz
  have HV := Lib.hid hv
  have HEV := Lib.hid hev
  have HLT := Lib.hid (cell_lt hv)
  clear hw hdec hR hv hev hsz
  obtain ⟨r1, r2⟩ := R
  cases r2 with
  | false =>
    go_enter Tryz.func54, Tryz.ntmps54
    go_wp2_with fail
    refine M.out.mono ?_
    rintro e w2 ⟨rfl, hb⟩
    have HB := Lib.hid hb
    clear hb
    unfold errV
    go_wp2_with fail
    go_ret2
    exact ⟨fun _ => rfl, fun h => by (cases h), HB.out⟩
  | true =>
    go_enter Tryz.func54, Tryz.ntmps54
    go_wp2_with fail
    refine M.out.mono ?_
    rintro e w2 ⟨rfl, hb⟩
    have HB := Lib.hid hb
    have HV2 : Hid (w2.cell? ⟨3, 0, none⟩ = some ev) := Lib.hid ((hb.cell HLT.out).trans HV.out)
    clear hb
    unfold errV
    go_wp2_with fail
    refine (toErr91 _ s 0 HSZ.out HV2.out HEV.out).mono ?_
    rintro e w3 ⟨⟨N, rfl⟩, hb3⟩
    have HB3 := Lib.hid (HB.out.trans (hb3.mono HB.out.size))
    clear hb3
    go_wp2_with fail
    go_ret2
    exact ⟨fun h => by (cases h), fun _ => ⟨N, rfl⟩, HB3.out⟩
end
end Go.Proofs.YtagiddbfhlokcaaGreatDoor
/- Printing a float: the shortest digits as the program reckons them, in plain Lean. No condition. -/
namespace Go.Proofs.YtagiddbfhlokcaaGreatDoor.Ff
def l10 (x : Int) : Int := x * 78913 / 262144
def skw (x : Int) : Int := (x * 631305 - 261663) / 2097152
def nudP (u o : Nat) : Nat := (u + o) % 18446744073709551616
def nudM (u o : Nat) : Nat := (u + (18446744073709551616 - o)) % 18446744073709551616
def ceilU (u : Nat) : Nat := (u + 3) % 18446744073709551616 / 4
def floorU (u : Nat) : Nat := u / 4
def rndU (u : Nat) : Nat := (u + 1 + u / 4 % 2) % 18446744073709551616 / 4
def sfSk (m : Nat) (e : Int) : Bool := decide (m = 9223372036854775808) && decide (-1085 < e)
def sfZ (e : Int) : Nat := if -1085 ≤ e then 11 else (11 + (-1085 - e)).toNat
def sfP (m : Nat) (e : Int) : Int := if sfSk m e then -skw (e + 11) else -l10 (e + sfZ e)
def sfLo (m : Nat) (e : Int) : Nat := if sfSk m e then m - 512 else m - 2 ^ (sfZ e - 1)
def sfHi (m : Nat) (e : Int) : Nat := (m + 2 ^ (sfZ e - 1)) % 18446744073709551616
def sfOdd (m : Nat) (e : Int) : Nat := m / 2 ^ sfZ e % 2
def sfS (m : Nat) (e : Int) : Int := -(e + PF.lpow (sfP m e) + 3)
/-- The digits' number, and the power of ten. -/
def shortF (T : Int → Nat × Nat) (m : Nat) (e : Int) : Nat × Int :=
  let p := sfP m e
  let u := fun x => PF.usc x (T p) (sfS m e).toNat
  let dmin := ceilU (nudP (u (sfLo m e)) (sfOdd m e))
  let dmax := floorU (nudM (u (sfHi m e)) (sfOdd m e))
  if dmin ≤ dmax / 10 * 10 then (dmax / 10, -(p - 1)) else if dmin < dmax then (rndU (u m), -p) else (dmin, -p)
end Go.Proofs.YtagiddbfhlokcaaGreatDoor.Ff
/- Printing a float: the small functions. No condition. -/
namespace Go.Proofs.YtagiddbfhlokcaaGreatDoor.Ff
open Go.RowKit
set_option maxRecDepth 100000
theorem w64 (z : Int) : IntKind.wrap .u64 z = z % 18446744073709551616 := by
  simp only [IntKind.wrap]
  rfl
theorem l10_159 (x : Int) (h1 : -100000 ≤ x) (h2 : x ≤ 100000) (w : World) : Calls Tryz.prog 159 #[.int .i64 x] w fun e w' => e = .returned (.int .i64 (l10 x)) ∧ w = w' := by
  unfold l10
  go_enter Tryz.func159, Tryz.ntmps159
  go_wp2
  go_ret
  exact ⟨rfl, rfl⟩
theorem skw_251 (x : Int) (h1 : -100000 ≤ x) (h2 : x ≤ 100000) (w : World) : Calls Tryz.prog 251 #[.int .i64 x] w fun e w' => e = .returned (.int .i64 (skw x)) ∧ w = w' := by
  unfold skw
  go_enter Tryz.func251, Tryz.ntmps251
  go_wp2
  go_ret
  exact ⟨rfl, rfl⟩
theorem nudP_252 (u o : Nat) (ho : o < 2) (w : World) : Calls Tryz.prog 252 #[.int .u64 (u : Int), .int .i64 (o : Int)] w fun e w' => e = .returned (.int .u64 (nudP u o : Int)) ∧ w = w' := by
  unfold nudP
  go_enter Tryz.func252, Tryz.ntmps252
  go_wp2
  go_ret
  refine ⟨congrArg (fun z => Ending.returned (Value.int IntKind.u64 z)) ?_, rfl⟩
  simp only [w64]
  omega
theorem nudM_252 (u o : Nat) (ho : o < 2) (w : World) : Calls Tryz.prog 252 #[.int .u64 (u : Int), .int .i64 (-(o : Int))] w fun e w' => e = .returned (.int .u64 (nudM u o : Int)) ∧ w = w' := by
  unfold nudM
  go_enter Tryz.func252, Tryz.ntmps252
  go_wp2
  go_ret
  refine ⟨congrArg (fun z => Ending.returned (Value.int IntKind.u64 z)) ?_, rfl⟩
  simp only [w64]
  omega
theorem ceil_253 (u : Nat) (w : World) : Calls Tryz.prog 253 #[.int .u64 (u : Int)] w fun e w' => e = .returned (.int .u64 (ceilU u : Int)) ∧ w = w' := by
  unfold ceilU
  go_enter Tryz.func253, Tryz.ntmps253
  go_wp2
  go_ret
  refine ⟨congrArg (fun z => Ending.returned (Value.int IntKind.u64 z)) ?_, rfl⟩
  simp only [w64]
  omega
theorem floor_254 (u : Nat) (hu : u < 18446744073709551616) (w : World) : Calls Tryz.prog 254 #[.int .u64 (u : Int)] w fun e w' => e = .returned (.int .u64 (floorU u : Int)) ∧ w = w' := by
  unfold floorU
  go_enter Tryz.func254, Tryz.ntmps254
  go_wp2
  go_ret
  refine ⟨congrArg (fun z => Ending.returned (Value.int IntKind.u64 z)) ?_, rfl⟩
  omega
theorem rnd_245 (u : Nat) (hu : u < 18446744073709551616) (w : World) : Calls Tryz.prog 245 #[.int .u64 (u : Int)] w fun e w' => e = .returned (.int .u64 (rndU u : Int)) ∧ w = w' := by
  have b1 : bits BinOp.and IntKind.u64 ((u / 4 : Nat) : Int) 1 = ((u / 4 % 2 : Nat) : Int) := by
    have h := bits_and_u64_nat (u / 4) 1 (by omega) (by omega)
    rw [Nat.and_one_is_mod] at h
    exact h
  have e1 : (u : Int) / 4 = ((u / 4 : Nat) : Int) := by omega
  rw [← e1] at b1
  clear e1
  unfold rndU
  go_enter Tryz.func245, Tryz.ntmps245
  go_wp2
  go_ret
  refine ⟨congrArg (fun z => Ending.returned (Value.int IntKind.u64 z)) ?_, rfl⟩
  simp only [w64]
  obtain ⟨k, hk⟩ : ∃ k, u / 4 % 2 = k := ⟨_, rfl⟩
  rw [show (u : Int) / 4 % 2 = ((u / 4 % 2 : Nat) : Int) by omega, hk]
  omega
end Go.Proofs.YtagiddbfhlokcaaGreatDoor.Ff
/- Printing a float: its shortest digits, as the program reckons them (a mirror; no word on their correctness). Condition: the table of powers. -/
namespace Go.Proofs.YtagiddbfhlokcaaGreatDoor.Ff
open Go.RowKit
set_option maxRecDepth 100000
theorem key_s : ∀ k : Fin 2200, 0 ≤ ((k.val : Int) - 1100) + PF.lpow (-l10 ((k.val : Int) - 1100)) ∧ ((k.val : Int) - 1100) + PF.lpow (-l10 ((k.val : Int) - 1100)) ≤ 3 ∧ -340 ≤ -l10 ((k.val : Int) - 1100) ∧ -l10 ((k.val : Int) - 1100) ≤ 340 := by decide +kernel
theorem key_k : ∀ k : Fin 2200, -1 ≤ ((k.val : Int) - 1100) + PF.lpow (-skw ((k.val : Int) - 1100)) ∧ ((k.val : Int) - 1100) + PF.lpow (-skw ((k.val : Int) - 1100)) ≤ 4 ∧ -340 ≤ -skw ((k.val : Int) - 1100) ∧ -skw ((k.val : Int) - 1100) ≤ 340 := by decide +kernel
theorem sf_bounds (m : Nat) (e : Int) (h1 : -1137 ≤ e) (h2 : e ≤ 1000) : 0 ≤ sfS m e ∧ sfS m e < 64 ∧ -340 ≤ sfP m e ∧ sfP m e ≤ 340 ∧ 11 ≤ sfZ e ∧ sfZ e ≤ 63 := by
  have hz : 11 ≤ sfZ e ∧ sfZ e ≤ 63 := by unfold sfZ; split <;> omega
  cases hk : sfSk m e with
  | true =>
    have he : -1085 < e := by
      unfold sfSk at hk
      simp only [Bool.and_eq_true, decide_eq_true_eq] at hk
      exact hk.2
    have hP : sfP m e = -skw (e + 11) := by unfold sfP; rw [hk]; rfl
    obtain ⟨k, hk1, hk2⟩ : ∃ k : Nat, k < 2200 ∧ (k : Int) - 1100 = e + 11 := ⟨(e + 11 + 1100).toNat, by omega, by omega⟩
    have := key_k ⟨k, hk1⟩
    simp only at this
    rw [hk2, ← hP] at this
    unfold sfS
    exact ⟨by omega, by omega, by omega, by omega, hz.1, hz.2⟩
  | false =>
    have hP : sfP m e = -l10 (e + sfZ e) := by unfold sfP; rw [hk]; rfl
    have hE : -1080 ≤ e + sfZ e ∧ e + sfZ e ≤ 1011 := by unfold sfZ; split <;> omega
    obtain ⟨k, hk1, hk2⟩ : ∃ k : Nat, k < 2200 ∧ (k : Int) - 1100 = e + sfZ e := ⟨(e + sfZ e + 1100).toNat, by omega, by omega⟩
    have := key_s ⟨k, hk1⟩
    simp only at this
    rw [hk2, ← hP] at this
    unfold sfS
    exact ⟨by omega, by omega, by omega, by omega, hz.1, hz.2⟩
theorem usc_lt64 (x s : Nat) (c : Nat × Nat) (hx : x < PF.two64) (hc : c.1 < PF.two64) : PF.usc x c s < 18446744073709551616 := by
  have hhi : x * c.1 / PF.two64 < PF.two64 := by
    rw [Nat.div_lt_iff_lt_mul (by decide)]
    exact Nat.mul_lt_mul'' hx hc
  have d1 : ∀ y : Nat, y < PF.two64 → y / 2 ^ s < 2 ^ 64 := fun y hy => Nat.lt_of_le_of_lt (Nat.div_le_self _ _) hy
  have b1 : ∀ b : Bool, b.toNat < 2 ^ 64 := fun b => by cases b <;> decide
  show _ < 2 ^ 64
  unfold PF.usc
  simp only
  split
  · exact Nat.or_lt_two_pow (d1 _ (Nat.mod_lt _ (by decide))) (b1 _)
  · exact Nat.or_lt_two_pow (d1 _ hhi) (by decide)
theorem sf_p (m : Nat) (e : Int) (Z : Nat) (h : sfSk m e = false) (hz : sfZ e = Z) (hZ : e + (Z : Int) = -1074) : sfP m e = -l10 (-1074) := by
  unfold sfP; rw [h, hz, hZ]; rfl
theorem pow_le62 (y : Nat) (hy : y ≤ 62) : 2 ^ y ≤ 4611686018427387904 := by
  have := Nat.pow_le_pow_right (show 0 < 2 by decide) hy
  exact this
theorem sf_lo (m : Nat) (e : Int) (y : Nat) (hm : 9223372036854775808 ≤ m) (h : sfSk m e = false) (hz : sfZ e = y + 1) (hy : y ≤ 62) : (m : Int) - 2 ^ y = (sfLo m e : Int) := by
  have hp := pow_le62 y hy
  have e1 : sfLo m e = m - 2 ^ y := by unfold sfLo; rw [h, hz, Nat.add_sub_cancel]; rfl
  obtain ⟨q, hq⟩ : ∃ q, 2 ^ y = q := ⟨_, rfl⟩
  rw [hq] at hp e1
  have e2 : (2 : Int) ^ y = (q : Int) := by rw [← hq]; exact (Int.natCast_pow 2 y).symm
  rw [e1, e2]
  omega
theorem sf_hi (m : Nat) (e : Int) (y : Nat) (hz : sfZ e = y + 1) : IntKind.u64.wrap ((m : Int) + 2 ^ y) = (sfHi m e : Int) := by
  have e1 : sfHi m e = (m + 2 ^ y) % 18446744073709551616 := by unfold sfHi; rw [hz, Nat.add_sub_cancel]
  obtain ⟨q, hq⟩ : ∃ q, 2 ^ y = q := ⟨_, rfl⟩
  rw [hq] at e1
  have e2 : (2 : Int) ^ y = (q : Int) := by rw [← hq]; exact (Int.natCast_pow 2 y).symm
  rw [e1, e2, w64]
  omega
theorem sf_od (m : Nat) (e : Int) (Z : Nat) (hm2 : m < 18446744073709551616) (hz : sfZ e = Z) (hz11 : 11 ≤ Z) : bits BinOp.and IntKind.i64 ((m : Int) / 2 ^ Z) 1 = (sfOdd m e : Int) := by
  have e1 : sfOdd m e = m / 2 ^ Z % 2 := by unfold sfOdd; rw [hz]
  have hp : 2048 ≤ 2 ^ Z := Nat.pow_le_pow_right (show 0 < 2 by decide) hz11
  obtain ⟨q, hq⟩ : ∃ q, 2 ^ Z = q := ⟨_, rfl⟩
  rw [hq] at e1 hp
  have e2 : (2 : Int) ^ Z = (q : Int) := by rw [← hq]; exact (Int.natCast_pow 2 Z).symm
  have hlt : m / q < 9223372036854775808 := Nat.lt_of_le_of_lt (Nat.div_le_div_left hp (by decide)) (by omega)
  rw [e1, e2]
  have := and_one (m / q) hlt
  rw [← this]
  rfl
end Go.Proofs.YtagiddbfhlokcaaGreatDoor.Ff
/- Printing a float: shortFloat walked. Condition: the table of powers. -/
namespace Go.Proofs.YtagiddbfhlokcaaGreatDoor.Ff
open Go.RowKit
set_option maxRecDepth 100000
theorem w64_id {x : Int} (h1 : -1000 ≤ x) (h2 : x ≤ 1000) : wrap64 x = x := by
  unfold wrap64
  omega
theorem w2y (y : Nat) (hy : y ≤ 62) : IntKind.u64.wrap ((2 : Int) ^ y) = 2 ^ y := by
  have hp := pow_le62 y hy
  obtain ⟨q, hq⟩ : ∃ q, 2 ^ y = q := ⟨_, rfl⟩
  rw [hq] at hp
  have e2 : (2 : Int) ^ y = (q : Int) := by rw [← hq]; exact (Int.natCast_pow 2 y).symm
  rw [e2, w64]
  omega
theorem wdiv (m Z : Nat) (hm2 : m < 18446744073709551616) (hz11 : 11 ≤ Z) : wrap64 ((m : Int) / 2 ^ Z) = (m : Int) / 2 ^ Z := by
  have hp : 2048 ≤ 2 ^ Z := Nat.pow_le_pow_right (show 0 < 2 by decide) hz11
  obtain ⟨q, hq⟩ : ∃ q, 2 ^ Z = q := ⟨_, rfl⟩
  rw [hq] at hp
  have e2 : (2 : Int) ^ Z = (q : Int) := by rw [← hq]; exact (Int.natCast_pow 2 Z).symm
  have hlt : m / q < 9007199254740993 := Nat.lt_of_le_of_lt (Nat.div_le_div_left hp (by decide)) (by omega)
  rw [e2]
  have e3 : (m : Int) / (q : Int) = ((m / q : Nat) : Int) := rfl
  rw [e3]
  obtain ⟨d, hd⟩ : ∃ d, m / q = d := ⟨_, rfl⟩
  rw [hd] at hlt ⊢
  unfold wrap64
  omega
set_option maxHeartbeats 4000000 in
theorem short229 (T : Nat → Nat × Nat) (hT : TabLt T) (m : Nat) (hm : 9223372036854775808 ≤ m) (hm2 : m < 18446744073709551616) (e : Int) (he : -1137 ≤ e) (he2 : e ≤ 1000) (w : World) (hw : Pow T w) (h15 : 15 < w.heap.size) :
    Calls Tryz.prog 229 #[.int .u64 (m : Int), .int .i64 e] w fun x w' => x = .returned (.tuple #[.int .u64 ((shortF (tabF T) m e).1 : Int), .int .i64 (shortF (tabF T) m e).2]) ∧ Below w.heap.size w w' := by
  obtain ⟨s0, s1, p0, p1, z0, z1⟩ := sf_bounds m e he he2
  obtain ⟨R, hR⟩ : ∃ R, shortF (tabF T) m e = R := ⟨_, rfl⟩
  rw [hR]
  have HR := Lib.hid hR
  obtain ⟨P, hP⟩ : ∃ P, sfP m e = P := ⟨_, rfl⟩
  obtain ⟨LO, hLO⟩ : ∃ x, sfLo m e = x := ⟨_, rfl⟩
  obtain ⟨HI, hHI⟩ : ∃ x, sfHi m e = x := ⟨_, rfl⟩
  obtain ⟨OD, hOD⟩ : ∃ x, sfOdd m e = x := ⟨_, rfl⟩
  obtain ⟨Z, hZ⟩ : ∃ x, sfZ e = x := ⟨_, rfl⟩
  have HP := Lib.hid hP
  have HLO := Lib.hid hLO
  have HHI := Lib.hid hHI
  have HOD := Lib.hid hOD
  have HZ := Lib.hid hZ
  have HT := Lib.hid hT
  have HW := Lib.hid hw
  have HSS0 := Lib.hid s0
  have HSS1 := Lib.hid s1
  rw [hP] at p0 p1
  rw [hZ] at z0 z1
  clear hR hP hLO hHI hOD hZ hT hw s0 s1
  go_enter Tryz.func229, Tryz.ntmps229
  go_upto_region 12 with (fail)
  obtain ⟨sk, hsk⟩ : ∃ b, sfSk m e = b := ⟨_, rfl⟩
  have HSK := Lib.hid hsk
  go_cut [28] from 22 to 28 (fun b w' => b = .bool sk ∧ w = w')
  case first =>
    by_cases h1 : m = 9223372036854775808
    · have d1 : decide (-1085 < e) = sk := by rw [← hsk]; unfold sfSk; simp [h1]
      have e1 : ((m : Int) == 9223372036854775808) = true := by rw [h1]; rfl
      clear hsk h1
      cases sk with
      | true =>
        have d2 : -1085 < e := of_decide_eq_true d1
        clear d1
        go_wp2_with fail
        go_meet
        exact ⟨rfl, rfl⟩
      | false =>
        have d2 : ¬ -1085 < e := of_decide_eq_false d1
        clear d1
        go_wp2_with fail
        go_meet
        exact ⟨rfl, rfl⟩
    · have e1 : ((m : Int) == 9223372036854775808) = false := by rw [beq_eq_false_iff_ne]; omega
      obtain rfl : false = sk := by rw [← hsk]; unfold sfSk; simp [h1]
      clear hsk h1
      go_wp2_with fail
      go_meet
      exact ⟨rfl, rfl⟩
  case rest =>
    obtain ⟨rfl, rfl⟩ := hcut
    clear hsk
    go_upto_if 28 with (fail)
    go_cut [5, 8, 9, 10] from 11 to 96 (fun p lo hi od w' => p = .int .i64 P ∧ lo = .int .u64 (LO : Int) ∧ hi = .int .u64 (HI : Int) ∧ od = .int .i64 (OD : Int) ∧ w = w')
    case first =>
      have b1 : ∀ z : Nat, z < 9007199254740992 → bits BinOp.and IntKind.i64 (z : Int) 1 = ((z % 2 : Nat) : Int) := fun z hz => and_one z (by omega)
      cases sk with
      | true =>
        have hme : m = 9223372036854775808 ∧ -1085 < e := by
          have := HSK.out
          unfold sfSk at this
          simpa [Bool.and_eq_true, decide_eq_true_eq] using this
        have hZ11 : sfZ e = 11 := by unfold sfZ; rw [if_pos (by omega)]
        have HPP : Hid (-skw (e + 11) = P) := Lib.hid (by rw [← HP.out]; unfold sfP; rw [HSK.out]; rfl)
        have HLL : Hid ((m : Int) - 512 = (LO : Int)) := Lib.hid (by rw [← HLO.out]; unfold sfLo; rw [HSK.out, if_pos rfl]; omega)
        have HHH : Hid (IntKind.u64.wrap ((m : Int) + 1024) = (HI : Int)) := Lib.hid (by rw [← HHI.out]; unfold sfHi; rw [hZ11, w64]; omega)
        have HOO : Hid (bits BinOp.and IntKind.i64 ((m : Int) / 2048) 1 = (OD : Int)) := Lib.hid (by
          rw [← HOD.out]; unfold sfOdd; rw [hZ11]
          have := b1 (m / 2048) (by omega)
          rw [show ((m / 2048 : Nat) : Int) = (m : Int) / 2048 by omega] at this
          exact this)
        have hoo := HOO.out
        have hhh := HHH.out
        have M251 := Lib.hid (fun w => skw_251 (e + 11) (by omega) (by omega) w)
        clear b1 hme hZ11
        go_wp2_with fail
        refine (M251.out _).mono ?_
        rintro x w' ⟨rfl, rfl⟩
        go_wp2_with fail
        go_meet
        refine ⟨?_, congrArg _ HLL.out, rfl, rfl, rfl⟩
        rw [HPP.out]
        exact congrArg _ (w64_id (by omega) (by omega))
      | false =>
        by_cases hee : -1085 ≤ e
        · have hZ11 : sfZ e = 11 := by unfold sfZ; rw [if_pos hee]
          have HPP : Hid (-l10 (e + 11) = P) := Lib.hid (by rw [← HP.out]; unfold sfP; rw [HSK.out, hZ11]; rfl)
          have HLL : Hid ((m : Int) - 1024 = (LO : Int)) := Lib.hid (by rw [← HLO.out]; unfold sfLo; rw [HSK.out, hZ11]; simp; omega)
          have HHH : Hid (IntKind.u64.wrap ((m : Int) + 1024) = (HI : Int)) := Lib.hid (by rw [← HHI.out]; unfold sfHi; rw [hZ11, w64]; omega)
          have HOO : Hid (bits BinOp.and IntKind.i64 ((m : Int) / 2048) 1 = (OD : Int)) := Lib.hid (by
            rw [← HOD.out]; unfold sfOdd; rw [hZ11]
            have := b1 (m / 2048) (by omega)
            rw [show ((m / 2048 : Nat) : Int) = (m : Int) / 2048 by omega] at this
            exact this)
          have hoo := HOO.out
          have hhh := HHH.out
          have M159 := Lib.hid (fun w => l10_159 (e + 11) (by omega) (by omega) w)
          clear b1 hZ11
          go_wp2_with fail
          refine (M159.out _).mono ?_
          rintro x w' ⟨rfl, rfl⟩
          go_wp2_with fail
          go_meet
          refine ⟨?_, congrArg _ HLL.out, rfl, rfl, rfl⟩
          rw [HPP.out]
          exact congrArg _ (w64_id (by omega) (by omega))
        · have hZe : (Z : Int) = 11 + (-1085 - e) := by rw [← HZ.out]; unfold sfZ; rw [if_neg hee]; omega
          obtain ⟨y, hy⟩ : ∃ y : Nat, Z = y + 1 := ⟨Z - 1, by omega⟩
          have hZe2 : e = -1074 - (Z : Int) := by omega
          have HPP : Hid (-l10 (-1074) = P) := Lib.hid (by rw [← HP.out]; exact (sf_p m e Z HSK.out HZ.out (by omega)).symm)
          have HLL : Hid ((m : Int) - 2 ^ y = (LO : Int)) := Lib.hid (by rw [← HLO.out]; exact sf_lo m e y hm HSK.out (by rw [HZ.out, hy]) (by omega))
          have HHH : Hid (IntKind.u64.wrap ((m : Int) + 2 ^ y) = (HI : Int)) := Lib.hid (by rw [← HHI.out]; exact sf_hi m e y (by rw [HZ.out, hy]))
          have HOO : Hid (bits BinOp.and IntKind.i64 ((m : Int) / 2 ^ Z) 1 = (OD : Int)) := Lib.hid (by rw [← HOD.out]; exact sf_od m e Z hm2 HZ.out z0)
          have hoo := HOO.out
          have hhh := HHH.out
          have hz1 : (Z : Int) - 1 = (y : Int) := by omega
          have M159 := Lib.hid (fun w => l10_159 (-1074) (by omega) (by omega) w)
          have HZE := Lib.hid hZe
          have hza : 11 + (-1085 - e) = (Z : Int) := hZe.symm
          have heZ : e + (Z : Int) = -1074 := by omega
          clear b1 hZe hZe2 hy
          go_wp2_with fail
          refine (M159.out _).mono ?_
          rintro x w' ⟨rfl, rfl⟩
          go_wp2_with fail
          go_meet
          refine ⟨?_, congrArg _ ?_, congrArg _ ?_, congrArg _ ?_, rfl⟩
          · rw [HPP.out]
            exact congrArg _ (w64_id (by omega) (by omega))
          · rw [w2y y (by omega), HLL.out, w64]
            have := HLL.out
            have h2 := pow_le62 y (by omega)
            have h3 : (0 : Int) ≤ 2 ^ y := Int.le_of_lt (Int.pow_pos (by decide))
            omega
          · rw [w2y y (by omega)]; exact HHH.out
          · rw [wdiv m Z hm2 z0]; exact HOO.out
    case rest =>
      obtain ⟨rfl, rfl, rfl, rfl, rfl⟩ := hcut
      obtain ⟨k, hk, hk2⟩ : ∃ k : Nat, P = (k : Int) - 348 ∧ k < 696 := ⟨(P + 348).toNat, by omega, by omega⟩
      obtain ⟨LP, hLP⟩ : ∃ x, PF.lpow P = x := ⟨_, rfl⟩
      have hLP1 : -2000 ≤ LP ∧ LP ≤ 2000 := by rw [← hLP]; unfold PF.lpow; omega
      obtain ⟨s, hs⟩ : ∃ s : Nat, sfS m e = s := ⟨(sfS m e).toNat, by have := HSS0.out; omega⟩
      have hs64 : s < 64 := by have := HSS1.out; omega
      have hS2 : -(e + LP + 3) = (s : Int) := by rw [← hs]; unfold sfS; rw [HP.out, hLP]
      have hpre : Pre (w.alloc (.cells #[.int .u64 0, .int .u64 0, .int .i64 0] 306)) w.heap.size (.int .u64 0) (.int .u64 0) (.int .i64 0) := heap_alloc_new w _
      have hpow : Pow T (w.alloc (.cells #[.int .u64 0, .int .u64 0, .int .i64 0] 306)) := ⟨fun k hk => (((Below.refl _ _).alloc (Nat.le_refl _) _).cell (p := ⟨15, k * 2, none⟩) h15).trans (HW.out.c0 k hk), fun k hk => (((Below.refl _ _).alloc (Nat.le_refl _) _).cell (p := ⟨15, k * 2 + 1, none⟩) h15).trans (HW.out.c1 k hk)⟩
      have m241 := prescale241 T k hk2 e LP (by omega) (by omega) (by omega) (by omega) _ _ _ _ _ hpre hpow h15
      rw [hS2, ← hk] at m241
      have M241 := Lib.hid m241
      have m240 := fun w => lpow_walk P (by omega) (by omega) w
      rw [hLP] at m240
      have M240 := Lib.hid m240
      have hT1 := HT.out k
      have hlo : LO < 18446744073709551616 := by rw [← HLO.out]; unfold sfLo; split <;> exact Nat.lt_of_le_of_lt (Nat.sub_le _ _) hm2
      have hhi : HI < 18446744073709551616 := by rw [← HHI.out]; exact Nat.mod_lt _ (by decide)
      have hod : OD < 2 := by rw [← HOD.out]; exact Nat.mod_lt _ (by decide)
      have m242 := fun x hx w' h => uscale242 x (T k).1 (T k).2 s hx hT1.1 hT1.2 hs64 w' w.heap.size h
      have M242 := Lib.hid m242
      have HK := Lib.hid hk
      have HS := Lib.hid hs
      obtain ⟨U1, hU1⟩ : ∃ u, PF.usc LO ((T k).1, (T k).2) s = u := ⟨_, rfl⟩
      obtain ⟨U2, hU2⟩ : ∃ u, PF.usc HI ((T k).1, (T k).2) s = u := ⟨_, rfl⟩
      obtain ⟨U3, hU3⟩ : ∃ u, PF.usc m ((T k).1, (T k).2) s = u := ⟨_, rfl⟩
      obtain ⟨DN, hDN⟩ : ∃ u, ceilU (nudP U1 OD) = u := ⟨_, rfl⟩
      obtain ⟨DX, hDX⟩ : ∃ u, floorU (nudM U2 OD) = u := ⟨_, rfl⟩
      have lU3 : U3 < 18446744073709551616 := by rw [← hU3]; exact usc_lt64 m s _ hm2 hT1.1
      have lDN : DN < 4611686018427387904 := by rw [← hDN]; unfold ceilU; omega
      have lDX : DX < 4611686018427387904 := by rw [← hDX]; unfold floorU nudM; omega
      have HU1 := Lib.hid hU1
      have HU2 := Lib.hid hU2
      have HU3 := Lib.hid hU3
      have HDN := Lib.hid hDN
      have HDX := Lib.hid hDX
      clear hpre hpow m241 m240 m242 hS2 hk hs hU1 hU2 hU3 hDN hDX hT1
      go_wp2_with fail
      refine (M240.out _).mono ?_
      rintro x w' ⟨rfl, rfl⟩
      go_wp2_with fail
      refine M241.out.mono ?_
      rintro x w1 ⟨rfl, h1, hb1⟩
      have HP1 := Lib.hid h1
      have HB1 := Lib.hid (((Below.refl w.heap.size w).alloc (Nat.le_refl _) _).trans hb1)
      clear h1 hb1
      go_wp2_with fail
      refine (M242.out LO hlo w1 HP1.out).mono ?_
      rintro x w2 ⟨rfl, n2, rfl⟩
      rw [HU1.out]
      go_wp2_with fail
      refine (nudP_252 U1 OD hod _).mono ?_
      rintro x w' ⟨rfl, rfl⟩
      go_wp2_with fail
      refine (ceil_253 _ _).mono ?_
      rintro x w' ⟨rfl, rfl⟩
      rw [HDN.out]
      go_wp2_with fail
      refine (M242.out HI hhi (w1.drewN n2) HP1.out).mono ?_
      rintro x w2 ⟨rfl, n3, rfl⟩
      rw [HU2.out]
      go_wp2_with fail
      refine (nudM_252 U2 OD hod _).mono ?_
      rintro x w' ⟨rfl, rfl⟩
      go_wp2_with fail
      refine (floor_254 _ (by unfold nudM; omega) _).mono ?_
      rintro x w' ⟨rfl, rfl⟩
      rw [HDX.out]
      have HRES : Hid (R = if DN ≤ DX / 10 * 10 then (DX / 10, -(P - 1)) else if DN < DX then (rndU U3, -P) else (DN, -P)) := Lib.hid (by
        have ek : tabF T P = ((T k).1, (T k).2) := by unfold tabF; rw [HK.out]; rw [show ((k : Int) - 348 + 348).toNat = k by omega]
        rw [← HR.out]
        unfold shortF
        simp only
        rw [HP.out, HS.out, ek, Int.toNat_natCast, HLO.out, HHI.out, HOD.out, HU1.out, HU2.out, HU3.out, HDN.out, HDX.out])
      by_cases hA : DN ≤ DX / 10 * 10
      · have hA2 : (DN : Int) ≤ (DX : Int) / 10 * 10 := by omega
        have HAA := Lib.hid hA
        clear hA
        go_wp2_with fail
        go_ret2
        rw [HRES.out, if_pos HAA.out]
        exact ⟨rfl, below_drewN HB1.out _⟩
      · have hA2 : ¬ (DN : Int) ≤ (DX : Int) / 10 * 10 := by omega
        have HAA := Lib.hid hA
        clear hA
        by_cases hB : DN < DX
        · have hB2 : (DN : Int) < (DX : Int) := by omega
          have HBB := Lib.hid hB
          clear hB
          go_wp2_with fail
          refine (M242.out m hm2 (w1.drewN (n2 + n3)) HP1.out).mono ?_
          rintro x w2 ⟨rfl, n4, rfl⟩
          rw [HU3.out]
          go_wp2_with fail
          refine (rnd_245 U3 lU3 _).mono ?_
          rintro x w' ⟨rfl, rfl⟩
          go_wp2_with fail
          go_ret2
          rw [HRES.out, if_neg HAA.out, if_pos HBB.out]
          exact ⟨rfl, below_drewN HB1.out _⟩
        · have hB2 : ¬ (DN : Int) < (DX : Int) := by omega
          have HBB := Lib.hid hB
          clear hB
          go_wp2_with fail
          go_ret2
          rw [HRES.out, if_neg HAA.out, if_neg HBB.out]
          exact ⟨rfl, below_drewN HB1.out _⟩
end Go.Proofs.YtagiddbfhlokcaaGreatDoor.Ff
/- Printing a float: the number of digits. Condition: the table of powers. -/
namespace Go.Proofs.YtagiddbfhlokcaaGreatDoor.Ff
open Go.RowKit
set_option maxRecDepth 100000
def nd (u : Nat) : Nat := if u = 0 then 0 else Lib.nDigits u
set_option maxHeartbeats 1000000 in
theorem nd_111 (u : Nat) (h2 : u < 18446744073709551616) (w : World) (htab : Lib.TabIs Tryz.prog w "internal/strconv.uint64pow10" .u64 Lib.pow10Tab) :
    Calls Tryz.prog 111 #[.int .u64 u] w fun e w' => e = .returned (.int .i64 (nd u : Int)) ∧ w = w' := by
  unfold nd
  by_cases h : u = 0
  · subst h
    rw [if_pos rfl]
    have M132 := Lib.hid (fun w => len132 0 (by decide) 0 (by decide) w)
    have M159 := Lib.hid (fun w => l10_159 0 (by decide) (by decide) w)
    have ht0 : w.cell? ⟨1, 0, none⟩ = some (.int .u64 1) := by
      have := htab.cell (g := 1) (by kernel_rfl) (i := 0) (by decide)
      exact this
    go_enter Tryz.func111, Tryz.ntmps111
    go_wp2_with fail
    refine (M132.out _).mono ?_
    rintro x w' ⟨rfl, rfl⟩
    go_wp2_with fail
    refine (M159.out _).mono ?_
    rintro x w' ⟨rfl, rfl⟩
    have e0 : l10 0 = 0 := by decide
    rw [e0]
    go_wp2_with fail
    refine (bool160 false _).mono ?_
    rintro x w' ⟨rfl, rfl⟩
    go_wp2_with fail
    go_ret
    exact ⟨rfl, rfl⟩
  · rw [if_neg h]
    exact (Tryz.internal_strconv_numDigits u (by omega) h2 w htab).mono fun e w' h => ⟨h.1, h.2.symm⟩
end Go.Proofs.YtagiddbfhlokcaaGreatDoor.Ff
