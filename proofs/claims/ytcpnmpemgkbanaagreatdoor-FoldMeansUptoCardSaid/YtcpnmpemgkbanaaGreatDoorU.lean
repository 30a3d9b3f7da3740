/- The walks of Of, of the tests for NaN and infinity, of Formed at a float, and of float. No condition but that the float is a number. -/
import Derived.Test.YtcpnmpemgkbanaaGreatDoorQ
import Derived.Test.YtcpnmpemgkbanaaGreatDoorR
import Derived.Laws.Externs
namespace Go.Proofs.YtcpnmpemgkbanaaGreatDoor
open Go.RowKit Go.Sort
theorem run23 (x : Nat) (w : World) : (callFunc 23 #[.float .f64 x]).run Tryz.prog w = .ok (.value (.int .u64 x)) w := by
  rw [run_callFunc_extern Tryz.func23 (by kernel_rfl) (by kernel_rfl) (by kernel_rfl) (e := Extern.MathFloatBits.float64bits) (by kernel_rfl)]
  rfl
theorem run27 (n : Int) (w : World) : (callFunc 27 #[.int .u64 n]).run Tryz.prog w = .ok (.value (.float .f64 n.toNat)) w := by
  rw [run_callFunc_extern Tryz.func27 (by kernel_rfl) (by kernel_rfl) (by kernel_rfl) (e := Extern.MathFloatBits.float64frombits) (by kernel_rfl)]
  rfl
def vFl (x : Nat) : Value := .agg #[.int .i64 1, .int .u64 x, .string ⟨#[]⟩]
def cFl (x : Nat) : Obj := .cells #[.int .i64 1, .int .u64 x, .string ⟨#[]⟩] 27
theorem results34 (tmps : Array Value) (w : World) (B : Nat) (x y z : Value) (hb : tmps.getD 2 undef = .pointer (some ⟨B, 0, none⟩)) (h : w.cell? ⟨B, 0, none⟩ = some x ∧ w.cell? ⟨B, 1, none⟩ = some y ∧ w.cell? ⟨B, 2, none⟩ = some z) :
    (results Tryz.f34 tmps).run Tryz.prog w = .ok (.agg #[x, y, z]) w := by
  have hb' : tmps[2]?.getD undef = .pointer (some ⟨B, 0, none⟩) := by simpa using hb
  simp [results, hb', h.1, h.2.1, h.2.2, go_sem]
theorem results10 (tmps : Array Value) (w : World) (B : Nat) (x y z : Value) (hb : tmps.getD 2 undef = .pointer (some ⟨B, 0, none⟩)) (h : w.cell? ⟨B, 0, none⟩ = some x ∧ w.cell? ⟨B, 1, none⟩ = some y ∧ w.cell? ⟨B, 2, none⟩ = some z) :
    (results Tryz.f10 tmps).run Tryz.prog w = .ok (.agg #[x, y, z]) w := by
  have hb' : tmps[2]?.getD undef = .pointer (some ⟨B, 0, none⟩) := by simpa using hb
  simp [results, hb', h.1, h.2.1, h.2.2, go_sem]
theorem results22 (tmps : Array Value) (w : World) (B : Nat) (x y z : Value) (hb : tmps.getD 2 undef = .pointer (some ⟨B, 0, none⟩)) (h : w.cell? ⟨B, 0, none⟩ = some x ∧ w.cell? ⟨B, 1, none⟩ = some y ∧ w.cell? ⟨B, 2, none⟩ = some z) :
    (results Tryz.f22 tmps).run Tryz.prog w = .ok (.tuple #[.agg #[x, y, z], tmps.getD 3 undef, tmps.getD 4 undef]) w := by
  have hb' : tmps[2]?.getD undef = .pointer (some ⟨B, 0, none⟩) := by simpa using hb
  simp [results, hb', h.1, h.2.1, h.2.2, go_sem]
theorem cells_fl (w : World) (x : Nat) : (w.alloc (cFl x)).cell? ⟨w.heap.size, 0, none⟩ = some (.int .i64 1) ∧ (w.alloc (cFl x)).cell? ⟨w.heap.size, 1, none⟩ = some (.int .u64 x) ∧ (w.alloc (cFl x)).cell? ⟨w.heap.size, 2, none⟩ = some (.string ⟨#[]⟩) := by
  unfold cFl
  simp
theorem of34 (x : Nat) (w : World) : Calls Tryz.prog 34 #[.float .f64 x] w fun e w' => e = .returned (vFl x) ∧ w' = w.alloc (cFl x) := by
  have h23 := run23 x
  go_enter Tryz.func34, Tryz.ntmps34
  go_wp2_with fail
  exact bodyPost_ret (results34 _ _ w.heap.size _ _ _ rfl (cells_fl w x)) rfl ⟨rfl, rfl⟩
theorem of10 (x : Nat) (w : World) : Calls Tryz.prog 10 #[.float .f64 x] w fun e w' => e = .returned (vFl x) ∧ w' = w.alloc (cFl x) := by
  have h23 := run23 x
  go_enter Tryz.func10, Tryz.ntmps10
  go_wp2_with fail
  exact bodyPost_ret (results10 _ _ w.heap.size _ _ _ rfl (cells_fl w x)) rfl ⟨rfl, rfl⟩
theorem isNaN28 (x : Nat) (w : World) (h : isNum (Ieee.double.read x)) : Calls Tryz.prog 28 #[.float .f64 x] w fun e w' => e = .returned (.bool false) ∧ w = w' := by
  have ho : Ieee.double.order x x = some .eq := order_self (d := Ieee.double.read x) (by cases hd : Ieee.double.read x <;> rw [hd] at h <;> first | rfl | exact h.elim)
  have HO := Lib.hid ho
  clear h ho
  go_enter Tryz.func28, Tryz.ntmps28
  go_wp2_with fail
  go_ret
  refine ⟨?_, rfl⟩
  show Ending.returned (.bool (Ieee.double.order x x != some .eq)) = _
  rw [HO.out]
  rfl
theorem andNot63 (x : Nat) (h : x < 2 ^ 64) : bits BinOp.andNot IntKind.u64 (x : Int) 9223372036854775808 = ((x % 2 ^ 63 : Nat) : Int) := by
  show IntKind.u64.wrap (((BitVec.ofInt 64 (x : Int)) &&& ~~~(BitVec.ofInt 64 9223372036854775808)).toNat : Int) = _
  have e1 : ~~~(BitVec.ofInt 64 9223372036854775808) = BitVec.ofNat 64 (2 ^ 63 - 1) := by decide
  have e3 : BitVec.ofInt 64 (x : Int) = BitVec.ofNat 64 x := by simp
  rw [e1, e3, BitVec.toNat_and, BitVec.toNat_ofNat, BitVec.toNat_ofNat, Nat.mod_eq_of_lt h, Nat.mod_eq_of_lt (by decide), Nat.and_two_pow_sub_one_eq_mod]
  simp only [IntKind.wrap, IntKind.bits, IntKind.signed]
  simp
  omega
theorem abs36 (x : Nat) (hx : x < 2 ^ 64) (w : World) : Calls Tryz.prog 36 #[.float .f64 x] w fun e w' => e = .returned (.float .f64 (x % 2 ^ 63)) ∧ w = w' := by
  have h23 := run23 x
  have h27 := run27
  have HA := Lib.hid (andNot63 x hx)
  clear hx
  go_enter Tryz.func36, Tryz.ntmps36
  go_wp2_with fail
  go_ret
  refine ⟨?_, rfl⟩
  show Ending.returned (.float .f64 (bits BinOp.andNot IntKind.u64 (x : Int) 9223372036854775808).toNat) = _
  rw [HA.out]
  rfl
theorem low_fin {x : Nat} (h : isNum (Ieee.double.read x)) : x % 2 ^ 63 < Ieee.double.infRung := by
  have hsw : Ieee.double.signWeight = 2 ^ 63 := rfl
  refine Nat.not_le.1 fun hc => ?_
  unfold Ieee.Format.read at h
  rw [hsw] at h
  dsimp only at h
  have h1 : ¬ x % 2 ^ 63 < Ieee.double.binade := by
    have : Ieee.double.binade ≤ Ieee.double.infRung := by decide
    omega
  rw [if_neg h1, if_neg (by omega)] at h
  split at h
  · exact h
  · exact h
set_option maxRecDepth 100000 in
theorem not_gt {x : Nat} (h : isNum (Ieee.double.read x)) : Ieee.double.order (x % 2 ^ 63) 9218868437227405311 ≠ some .gt := by
  have hl := low_fin h
  have hm : Ieee.double.read 9218868437227405311 = .number false (2 ^ 53 - 1) 971 := by decide
  have hw : x % 2 ^ 63 = Ieee.double.word false (x % 2 ^ 63) := rfl
  have hr := read_word false (x % 2 ^ 63) (Nat.le_of_lt hl)
  rw [← hw, if_pos hl, bn, lp] at hr
  rw [ir] at hl
  obtain ⟨g, hg⟩ : ∃ g, x % 2 ^ 63 = g := ⟨_, rfl⟩
  rw [hg] at hl hr ⊢
  have key : ∀ (m : Nat) (i : Int), m ≤ 2 ^ 53 - 1 → i ≤ 971 → (Ieee.Datum.number false m i).order (.number false (2 ^ 53 - 1) 971) ≠ some .gt := by
    intro m i hm2 hi
    simp only [Ieee.Datum.order]
    have e1 : min i 971 = i := by omega
    rw [e1, Int.sub_self]
    have e2 : Ieee.signed false m (0 : Int).toNat = (m : Int) := rfl
    have e3 : Ieee.signed false (2 ^ 53 - 1) (971 - i).toNat = ((2 ^ 53 - 1) * 2 ^ (971 - i).toNat : Nat) := by
      unfold Ieee.signed
      rw [Nat.shiftLeft_eq]
      rfl
    rw [e2, e3]
    have h4 : 2 ^ 53 - 1 ≤ (2 ^ 53 - 1) * 2 ^ (971 - i).toNat := Nat.le_mul_of_pos_right _ (Nat.two_pow_pos _)
    have h5 : (m : Int) ≤ ((2 ^ 53 - 1) * 2 ^ (971 - i).toNat : Nat) := by exact_mod_cast Nat.le_trans hm2 h4
    generalize (((2 ^ 53 - 1) * 2 ^ (971 - i).toNat : Nat) : Int) = M at *
    have h6 : compare (m : Int) M = if (m : Int) < M then .lt else if (m : Int) = M then .eq else .gt := rfl
    rw [h6]
    by_cases h7 : (m : Int) < M
    · rw [if_pos h7]; decide
    · rw [if_neg h7, if_pos (by omega)]; decide
  unfold Ieee.Format.order
  rw [hm, hr]
  split
  · exact key _ _ (by omega) (by omega)
  · refine key _ _ (by omega) ?_
    have : g / 2 ^ 52 ≤ 2046 := by omega
    omega
theorem isInf29 (x : Nat) (w : World) (h : isNum (Ieee.double.read x)) (hx : x < 2 ^ 64) : Calls Tryz.prog 29 #[.float .f64 x, .int .i64 0] w fun e w' => e = .returned (.bool false) ∧ w = w' := by
  have HN := Lib.hid (not_gt h)
  have HX := Lib.hid hx
  clear h hx
  go_enter Tryz.func29, Tryz.ntmps29
  go_wp2_with fail
  refine (abs36 x HX.out _).mono ?_
  rintro e w1 ⟨rfl, rfl⟩
  obtain ⟨g, hg⟩ : ∃ g, x % 2 ^ 63 = g := ⟨_, rfl⟩
  rw [hg] at HN ⊢
  clear hg
  go_wp2_with fail
  go_ret
  refine ⟨?_, rfl⟩
  show Ending.returned (.bool (Ieee.double.order g 9218868437227405311 == some .gt)) = _
  rw [beq_eq_false_iff_ne.2 HN.out]
theorem formed_fl (x : Nat) (w : World) (h : isNum (Ieee.double.read x)) (hx : x < 2 ^ 64) : Calls Tryz.prog 19 #[vFl x] w fun e w' => e = .returned (.bool true) ∧ w' = w.alloc (cFl x) := by
  have h27 : ∀ w, (callFunc 27 #[.int .u64 (x : Int)]).run Tryz.prog w = .ok (.value (.float .f64 x)) w := fun w => run27 x w
  have H1 := Lib.hid (fun w => isNaN28 x w h)
  have H2 := Lib.hid (fun w => isInf29 x w h hx)
  unfold vFl cFl
  clear h hx
  go_enter Tryz.func19, Tryz.ntmps19
  go_wp2_with fail
  refine (H1.out _).mono ?_
  rintro e w1 ⟨rfl, rfl⟩
  go_wp2_with fail
  refine (H2.out _).mono ?_
  rintro e w1 ⟨rfl, rfl⟩
  go_wp2_with fail
  go_ret
  exact ⟨rfl, rfl⟩
theorem float22 (x : Nat) (w : World) (h : isNum (Ieee.double.read x)) (hx : x < 2 ^ 64) : Calls Tryz.prog 22 #[.float .f64 x] w fun e w' => e = .returned (.tuple #[vFl x, .bool true, .int .i64 0]) ∧ Below w.heap.size w w' := by
  have H1 := Lib.hid (fun w => of34 x w)
  have H2 := Lib.hid (fun w => formed_fl x w h hx)
  unfold vFl cFl at H1 H2
  unfold vFl
  clear h hx
  go_enter Tryz.func22, Tryz.ntmps22
  go_wp2_with fail
  refine (H1.out _).mono ?_
  rintro e w1 ⟨rfl, rfl⟩
  go_wp2_with fail
  refine (H2.out _).mono ?_
  rintro e w1 ⟨rfl, rfl⟩
  go_wp2_with fail
  refine bodyPost_ret (results22 _ _ w.heap.size (.int .i64 1) (.int .u64 x) (.string ⟨#[]⟩) rfl ⟨?_, ?_, ?_⟩) rfl ⟨rfl, ?_⟩
  · rw [World.cell?_alloc_lt _ _ _ (by simp; omega), World.cell?_alloc_lt _ _ _ (by simp; omega), World.cell?_alloc_lt _ _ _ (by simp)]; exact (cells_fl w x).1
  · rw [World.cell?_alloc_lt _ _ _ (by simp; omega), World.cell?_alloc_lt _ _ _ (by simp; omega), World.cell?_alloc_lt _ _ _ (by simp)]; exact (cells_fl w x).2.1
  · rw [World.cell?_alloc_lt _ _ _ (by simp; omega), World.cell?_alloc_lt _ _ _ (by simp; omega), World.cell?_alloc_lt _ _ _ (by simp)]; exact (cells_fl w x).2.2
  · exact ((((Below.refl _ _).alloc (Nat.le_refl _) _).alloc (by simp) _).alloc (by simp; omega) _).alloc (by simp; omega) _
end Go.Proofs.YtcpnmpemgkbanaaGreatDoor
