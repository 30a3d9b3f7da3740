/- The walk of the plan, and that the program is awake. Conditions: fewer than 2^62 files, levels that are numbers of 64 bits. -/
import Derived.Test.YtblpjhgbckfaeaaQ
import Derived.WalkKit
import Derived.ProofKit
import Derived.Below
import Derived.WalkLawsBesides
import Derived.Deep.Draws
import Derived.Deep.QuietTactic
import Derived.BigQuiet
import Derived.Lib.Hide
import Derived.IntWalk
namespace Go.Proofs.Ytblpjhgbckfaeaa
open Go.RowKit
/-- how many equal levels end at place k (exclusive) -/
def runLen (lv : Nat → Int) : Nat → Nat
  | 0 => 0
  | k + 1 => if 0 < k ∧ lv k = lv (k - 1) then runLen lv k + 1 else 1
def hit (lv : Nat → Int) (i : Nat) : Bool := decide (lv i < 4) && (decide (lv (i + 1) = lv i) && (decide (lv (i + 2) = lv i) && decide (lv (i + 3) = lv i)))
def firstHit (lv : Nat → Int) (n : Nat) : Option Nat := (List.range (n - 3)).find? (hit lv)
def plan (lv : Nat → Int) (tb : Bool) (n : Nat) : Int × Int × Int :=
  match firstHit lv n with
  | some i => (i, 4, lv i + 1)
  | none => if 2 ≤ n then (0, n, 4) else if n = 1 ∧ tb = true then (0, 1, lv 0) else (0, 0, 0)
def NoHit (lv : Nat → Int) (k : Nat) : Prop := ∀ i, i + 4 ≤ k → hit lv i = false
theorem runLen_le (lv : Nat → Int) : ∀ k, runLen lv k ≤ k
  | 0 => Nat.le_refl 0
  | k + 1 => by
    have := runLen_le lv k
    unfold runLen
    split <;> omega
theorem runLen_same (lv : Nat → Int) : ∀ k j, j < runLen lv (k + 1) → lv (k - j) = lv k
  | 0, j, h => by have := runLen_le lv 1; rw [Nat.zero_add] at h; have : j = 0 := by omega
                  subst this; rfl
  | k + 1, j, h => by
    unfold runLen at h
    split at h
    · rename_i hc
      rcases Nat.eq_zero_or_pos j with rfl | hj
      · rfl
      · have := runLen_same lv k (j - 1) (by omega)
        rw [show k + 1 - j = k - (j - 1) from by omega, this]
        exact hc.2.symm
    · have : j = 0 := by omega
      subst this; rfl
theorem runLen_ge (lv : Nat → Int) : ∀ k m, m ≤ k → (∀ j, j ≤ m → lv (k - j) = lv k) → m + 1 ≤ runLen lv (k + 1)
  | 0, m, h, _ => by have : m = 0 := by omega
                     subst this; simp [runLen]
  | k + 1, m, h, hh => by
    unfold runLen
    rcases Nat.eq_zero_or_pos m with rfl | hm
    · split <;> omega
    · have h1 := hh 1 (by omega)
      rw [if_pos ⟨by omega, h1.symm⟩]
      have := runLen_ge lv k (m - 1) (by omega) (fun j hj => by
        have := hh (j + 1) (by omega)
        rw [show k + 1 - (j + 1) = k - j from by omega] at this
        have h1' : lv k = lv (k + 1) := by simpa using h1
        rw [this, h1'])
      omega
theorem noHit_zero (lv : Nat → Int) : NoHit lv 0 := fun i h => absurd h (by omega)
theorem find_first {p : Nat → Bool} {n i : Nat} (hi : i < n) (hp : p i = true) (hno : ∀ j, j < i → p j = false) : (List.range n).find? p = some i := by
  rw [List.find?_eq_some_iff_getElem]
  refine ⟨hp, i, by simpa using hi, by simp, fun j hj => ?_⟩
  simp [hno j hj]
theorem found (lv : Nat → Int) (k n : Nat) (hk : k < n) (hno : NoHit lv k) (hr : runLen lv (k + 1) = 4) (hl : lv k < 4) : 3 ≤ k ∧ firstHit lv n = some (k - 3) ∧ lv (k - 3) = lv k := by
  have h3 : 3 ≤ k := by have := runLen_le lv (k + 1); omega
  have e1 := runLen_same lv k 1 (by omega)
  have e2 := runLen_same lv k 2 (by omega)
  have e3 := runLen_same lv k 3 (by omega)
  refine ⟨h3, find_first (by omega) ?_ (fun j hj => hno j (by omega)), e3⟩
  unfold hit
  rw [show k - 3 + 1 = k - 2 from by omega, show k - 3 + 2 = k - 1 from by omega, show k - 3 + 3 = k from by omega, e1, e2, e3]
  simp [hl]
theorem passed (lv : Nat → Int) (k : Nat) (hno : NoHit lv k) (hr : ¬ (runLen lv (k + 1) = 4 ∧ lv k < 4)) : NoHit lv (k + 1) := by
  intro i hi
  by_cases h : i + 4 ≤ k
  · exact hno i h
  · have : i = k - 3 := by omega
    subst this
    cases hh : hit lv (k - 3) with
    | false => rfl
    | true =>
      exfalso
      simp only [hit, Bool.and_eq_true, decide_eq_true_eq] at hh
      rw [show k - 3 + 1 = k - 2 from by omega, show k - 3 + 2 = k - 1 from by omega, show k - 3 + 3 = k from by omega] at hh
      obtain ⟨a, b, c, d⟩ := hh
      have g := runLen_ge lv k 3 (by omega) (fun j hj => by
        have : j = 0 ∨ j = 1 ∨ j = 2 ∨ j = 3 := by omega
        rcases this with rfl | rfl | rfl | rfl
        · rfl
        · rw [c, d]
        · rw [b, d]
        · exact d.symm)
      have g5 : 4 < runLen lv (k + 1) := by
        rcases Nat.lt_or_ge 4 (runLen lv (k + 1)) with h | h
        · exact h
        · exact absurd ⟨by omega, by rw [d]; exact a⟩ hr
      have hk4 : 4 ≤ k := by have := runLen_le lv (k + 1); omega
      have e4 := runLen_same lv k 4 g5
      have := hno (k - 4) (by omega)
      simp only [hit] at this
      rw [show k - 4 + 1 = k - 3 from by omega, show k - 4 + 2 = k - 2 from by omega, show k - 4 + 3 = k - 1 from by omega, e4, ← d, b, c, d] at this
      rw [← d] at this
      simp at this
      omega
theorem none_found (lv : Nat → Int) (n : Nat) (hno : NoHit lv n) : firstHit lv n = none := by
  unfold firstHit
  rw [List.find?_eq_none]
  intro i hi
  simp at hi
  simp [hno i (by omega)]
/-- a slice of files: level and tombs of each -/
def InfosAt (w : World) (a : Option Addr) (len : Nat) (lv : Nat → Int) (tb : Nat → Bool) : Prop :=
  ∀ i, i < len → ∃ b off, a = some ⟨b, off, none⟩ ∧ b < w.heap.size ∧ w.cell? ⟨b, off + i * 2, none⟩ = some (.int .i64 (lv i)) ∧ w.cell? ⟨b, off + i * 2 + 1, none⟩ = some (.bool (tb i))
def Planned (lv : Nat → Int) (tb : Nat → Bool) (len : Nat) (w : World) (e : Ending) (w' : World) : Prop :=
  e = .returned (.tuple #[.int .i64 (plan lv (tb 0) len).1, .int .i64 (plan lv (tb 0) len).2.1, .int .i64 (plan lv (tb 0) len).2.2]) ∧ Below w.heap.size w w'
def InPlan (lv : Nat → Int) (len : Nat) (w : World) (r i : Value) (wr : World) : Prop :=
  ∃ k : Nat, k ≤ len ∧ i = .int .i64 k ∧ r = .int .i64 (runLen lv k) ∧ NoHit lv k ∧ Below w.heap.size w wr
theorem inPlan_next {lv : Nat → Int} {len k : Nat} {w wr : World} {r : Int} (hk : k < len) (hr : r = runLen lv (k + 1)) (hno : NoHit lv k) (hx : ¬ (runLen lv (k + 1) = 4 ∧ lv k < 4)) (hb : Below w.heap.size w wr) (o : Obj) (n : Nat) :
    InPlan lv len w (.int .i64 r) (.int .i64 ((k : Int) + 1)) ((wr.alloc o).drewN n) ∧ len - (intOf (Value.int IntKind.i64 ((k : Int) + 1))).toNat < len - (intOf (Value.int IntKind.i64 (k : Int))).toNat := by
  refine ⟨⟨k + 1, hk, by go_num, by rw [hr], passed lv k hno hx, below_drewN (hb.alloc hb.size o) n⟩, ?_⟩
  simp [intOf]; omega
theorem plan_hit {lv : Nat → Int} {tb : Bool} {len k : Nat} (hk : k < len) (hno : NoHit lv k) (h4 : runLen lv (k + 1) = 4) (hl : lv k < 4) : plan lv tb len = ((k : Int) + 1 - 4, 4, lv k + 1) := by
  obtain ⟨h3, hf, he⟩ := found lv k len hk hno h4 hl
  unfold plan
  rw [hf]
  show (((k - 3 : Nat) : Int), (4 : Int), lv (k - 3) + 1) = _
  rw [he]
  show (((k - 3 : Nat) : Int), (4 : Int), lv k + 1) = _
  rw [show ((k - 3 : Nat) : Int) = (k : Int) + 1 - 4 from by omega]
theorem mplan (a : Option Addr) (len cap : Nat) (lv : Nat → Int) (tb : Nat → Bool) (w : World) (hlen : len < 2 ^ 62) (hlo : ∀ i, -9223372036854775808 ≤ lv i ∧ lv i ≤ 9223372036854775807)
    (hc : InfosAt w a len lv tb) :
    Calls Try.prog 10 #[.slice a len cap] w (Planned lv tb len w) := by
  have HC := Lib.hid hc
  have HL := Lib.hid hlo
  clear hc hlo
  go_enter Try.func10, Try.ntmps10
  go_wp2
  go_loopw [5, 10] (fun r i wr => InPlan lv len w r i wr) (fun _ i _ => len - (intOf i).toNat)
  case atStart => exact ⟨0, Nat.zero_le _, rfl, rfl, noHit_zero lv, Below.refl _ _⟩
  case round =>
    obtain ⟨k, hk, rfl, rfl, hno, hb⟩ := hrel
    have HN := Lib.hid hno
    have HB := Lib.hid hb
    have hrl := runLen_le lv k
    clear hno hb
    by_cases hlt : k < len
    · obtain ⟨b, off, ha, hbw, hc1, hc2⟩ := HC.out k hlt
      subst ha
      have hd1 : wr.cell? ⟨b, off + k * 2, none⟩ = some (.int .i64 (lv k)) := by rw [← hc1]; exact HB.out.cell hbw
      have hd2 : wr.cell? ⟨b, off + k * 2 + 1, none⟩ = some (.bool (tb k)) := by rw [← hc2]; exact HB.out.cell hbw
      clear hc1 hc2
      by_cases hk0 : k = 0
      · have hd : decide (0 < k) = false := by simp; omega
        have HK0 := Lib.hid hk0
        clear hk0
        go_wp2_with fail
        go_quiet (fail)
        go_wp2
        exact inPlan_next hlt (by simp [runLen, HK0.out]) HN.out (by simp [runLen, HK0.out]) HB.out _ _
      · obtain ⟨b', off', ha', hbw', hc1', hc2'⟩ := HC.out (k - 1) (by omega)
        cases ha'
        have hd3 : wr.cell? ⟨b, off + (k - 1) * 2, none⟩ = some (.int .i64 (lv (k - 1))) := by rw [← hc1']; exact HB.out.cell hbw
        clear hc1' hc2' hbw'
        have hbr : b < wr.heap.size := Nat.lt_of_lt_of_le hbw HB.out.size
        have hp : decide (0 < k) = true := by simp; omega
        have hq : (1 : Int) ≤ (k : Int) := by omega
        have hq1 : (k : Int) - 1 < (len : Int) := by omega
        have hq2 : ((k : Int) - 1).toNat = k - 1 := by omega
        have hq3 : IntKind.i64.wrap ((k : Int) - 1) = (k : Int) - 1 := IntWalk.i64_in _ (by omega)
        by_cases he : lv k = lv (k - 1)
        · have hbe : (lv k == lv (k - 1)) = true := by simp [he]
          have hr1 : runLen lv (k + 1) = runLen lv k + 1 := by simp [runLen, he]; omega
          have HE := Lib.hid he
          have HR := Lib.hid hr1
          clear he hr1
          by_cases h4 : runLen lv k + 1 = 4
          · have H4 := Lib.hid h4
            have h4b : (((runLen lv k : Nat) : Int) + 1 == 4) = true := by simp; omega
            clear h4
            by_cases hl : lv k < 4
            · have hl1 := (HL.out k).1
              have hq4 : IntKind.i64.wrap ((k : Int) + 1) = (k : Int) + 1 := IntWalk.i64_in _ (by omega)
              have hq5 : IntKind.i64.wrap ((k : Int) + 1 - 4) = (k : Int) + 1 - 4 := IntWalk.i64_in _ (by omega)
              have hq6 : IntKind.i64.wrap (lv k + 1) = lv k + 1 := IntWalk.i64_in _ (by omega)
              go_wp2_with fail
              go_quiet (fail)
              go_wp2_with fail
              go_quiet (fail)
              go_wp2
              go_ret3
              have hp := plan_hit (tb := tb 0) hlt HN.out (by rw [HR.out]; exact H4.out) hl
              unfold Planned
              rw [hp]
              exact ⟨rfl, below_drewN (below_drewN (HB.out.alloc HB.out.size _) _) _⟩
            · go_wp2_with fail
              go_quiet (fail)
              go_wp2
              exact inPlan_next hlt (by rw [HR.out]; omega) HN.out (fun h => by have := h.2; omega) HB.out _ _
          · have H4 := Lib.hid h4
            have h4b : (((runLen lv k : Nat) : Int) + 1 == 4) = false := by simp; omega
            clear h4
            go_wp2_with fail
            go_quiet (fail)
            go_wp2
            exact inPlan_next hlt (by rw [HR.out]; omega) HN.out (fun h => by have := HR.out; have := H4.out; omega) HB.out _ _
        · have hbe : (lv k == lv (k - 1)) = false := by simp [he]
          have HE := Lib.hid he
          clear he
          go_wp2_with fail
          go_quiet (fail)
          go_wp2
          exact inPlan_next hlt (by simp [runLen, HE.out]) HN.out (by simp [runLen, HE.out]) HB.out _ _
    · have hke : k = len := by omega
      have HNO := Lib.hid (none_found lv len (by rw [← hke]; exact HN.out))
      have HKE := Lib.hid hke
      clear hke
      rcases Nat.lt_or_ge 1 len with h2 | h2
      · have hp : plan lv (tb 0) len = (0, (len : Int), 4) := by unfold plan; rw [HNO.out]; simp; omega
        have HP := Lib.hid hp
        clear hp
        go_wp2
        go_ret3
        unfold Planned
        rw [HP.out]
        exact ⟨rfl, HB.out⟩
      · by_cases h1 : len = 1
        · obtain ⟨b, off, ha, hbw, hc1, hc2⟩ := HC.out 0 (by omega)
          subst ha
          have hd1 : wr.cell? ⟨b, off, none⟩ = some (.int .i64 (lv 0)) := by rw [← HB.out.cell (p := ⟨b, off + 0 * 2, none⟩) hbw] at hc1; simpa using hc1
          have hd2 : wr.cell? ⟨b, off + 1, none⟩ = some (.bool (tb 0)) := by rw [← HB.out.cell (p := ⟨b, off + 0 * 2 + 1, none⟩) hbw] at hc2; simpa using hc2
          clear hc1 hc2
          cases htb : tb 0 with
          | true =>
            have hp : plan lv true len = (0, 1, lv 0) := by unfold plan; rw [HNO.out]; simp [h1]
            have HP := Lib.hid hp
            rw [htb] at hd2
            have h1b : ((len : Int) == 1) = true := by simp; omega
            have h1c : (0 : Int) < (len : Int) := by omega
            have h1d : 0 < len := by omega
            have HT := Lib.hid htb
            have H1 := Lib.hid h1
            clear hp htb h1
            go_wp2_with fail
            go_quiet (fail)
            go_wp2
            go_ret3
            unfold Planned
            rw [HT.out, HP.out]
            exact ⟨rfl, below_drewN HB.out _⟩
          | false =>
            have hp : plan lv false len = (0, 0, 0) := by unfold plan; rw [HNO.out]; simp [h1]
            have HP := Lib.hid hp
            rw [htb] at hd2
            have h1b : ((len : Int) == 1) = true := by simp; omega
            have h1c : (0 : Int) < (len : Int) := by omega
            have h1d : 0 < len := by omega
            have HT := Lib.hid htb
            have H1 := Lib.hid h1
            clear hp htb h1
            go_wp2
            go_ret3
            unfold Planned
            rw [HT.out, HP.out]
            exact ⟨rfl, HB.out⟩
        · have hp : plan lv (tb 0) len = (0, 0, 0) := by unfold plan; rw [HNO.out]; simp [h1]; omega
          have HP := Lib.hid hp
          have h1b : ((len : Int) == 1) = false := by simp; omega
          have H1 := Lib.hid h1
          clear hp h1
          go_wp2
          go_ret3
          unfold Planned
          rw [HP.out]
          exact ⟨rfl, HB.out⟩
def lv2 : Nat → Int := fun i => if i = 0 then 2 else 1
theorem lv2_ok (i : Nat) : -9223372036854775808 ≤ lv2 i ∧ lv2 i ≤ 9223372036854775807 := by unfold lv2; split <;> omega
theorem plan2 : plan lv2 false 2 = (0, 2, 4) := by decide
theorem awake (w : World) : Calls Try.prog 5 #[] w fun e w' => e = .returned (.bool true) ∧ Below w.heap.size w w' := by
  go_enter Try.func5, Try.ntmps5
  go_wp2_with fail
  refine (mplan _ 2 2 lv2 (fun _ => false) _ (by omega) lv2_ok ?_).mono ?_
  · intro i hi
    refine ⟨_, _, rfl, by simp, ?_⟩
    have : i = 0 ∨ i = 1 := by omega
    rcases this with rfl | rfl <;> simp [World.cell?_alloc_new, lv2]
  · unfold Planned
    rw [plan2]
    rintro e w' ⟨rfl, hb⟩
    have HB := Lib.hid hb
    clear hb
    go_wp2_with fail
    go_ret
    exact ⟨rfl, ((Below.refl _ _).alloc (Nat.le_refl _) _).trans (HB.out.mono (by simp))⟩
end Go.Proofs.Ytblpjhgbckfaeaa
