/- The walk of the reference: gristref14.Plan gives the same plan. Conditions: as for merge.Plan. -/
import Derived.Test.YtkiladicdpahjaaA
namespace Go.Proofs.Ytkiladicdpahjaa
open Go.RowKit
def InRef (lv : Nat → Int) (w : World) (i : Value) (len : Nat) (wr : World) : Prop :=
  ∃ k : Nat, k ≤ len ∧ i = .int .i64 k ∧ NoHit lv (k + 3) ∧ Below w.heap.size w wr
theorem inRef_next {lv : Nat → Int} {len k : Nat} {w wr : World} (hk : k + 4 ≤ len) (hno : NoHit lv (k + 3)) (hx : hit lv k = false) (hb : Below w.heap.size w wr) :
    InRef lv w (.int .i64 ((k : Int) + 1)) len wr ∧ len - (intOf (Value.int IntKind.i64 ((k : Int) + 1))).toNat < len - (intOf (Value.int IntKind.i64 (k : Int))).toNat := by
  refine ⟨⟨k + 1, by omega, by go_num, ?_, hb⟩, ?_⟩
  · intro i hi
    by_cases h : i = k
    · rw [h]; exact hx
    · exact hno i (by omega)
  · simp [intOf]; omega
theorem hit_plan {lv : Nat → Int} {tb : Bool} {len k : Nat} (hk : k + 4 ≤ len) (hno : NoHit lv (k + 3)) (hx : hit lv k = true) : plan lv tb len = ((k : Int), 4, lv k + 1) := by
  have : firstHit lv len = some k := find_first (by omega) hx (fun j hj => hno j (by omega))
  unfold plan
  rw [this]
theorem rplan (a : Option Addr) (len cap : Nat) (lv : Nat → Int) (tb : Nat → Bool) (w : World) (hlen : len < 2 ^ 62) (hlo : ∀ i, -9223372036854775808 ≤ lv i ∧ lv i ≤ 9223372036854775807)
    (hc : InfosAt w a len lv tb) :
    Calls Try.prog 8 #[.slice a len cap] w (Planned lv tb len w) := by
  have HC := Lib.hid hc
  have HL := Lib.hid hlo
  clear hc hlo
  go_enter Try.func8, Try.ntmps8
  go_wp2
  go_loopw [5] (fun i wr => InRef lv w i len wr) (fun i _ => len - (intOf i).toNat)
  case atStart => exact ⟨0, Nat.zero_le _, rfl, fun i h => absurd h (by omega), Below.refl _ _⟩
  case round =>
    obtain ⟨k, hk, rfl, hno, hb⟩ := hrel
    have HN := Lib.hid hno
    have HB := Lib.hid hb
    clear hno hb
    by_cases hlt : k + 4 ≤ len
    · obtain ⟨b, off, ha, hbw, hc1, _⟩ := HC.out k (by omega)
      subst ha
      have hd0 : wr.cell? ⟨b, off + k * 2, none⟩ = some (.int .i64 (lv k)) := by rw [← hc1]; exact HB.out.cell hbw
      obtain ⟨b', off', ha', _, hc1', _⟩ := HC.out (k + 1) (by omega)
      cases ha'
      have hd1 : wr.cell? ⟨b, off + (k + 1) * 2, none⟩ = some (.int .i64 (lv (k + 1))) := by rw [← hc1']; exact HB.out.cell hbw
      obtain ⟨b', off', ha', _, hc2', _⟩ := HC.out (k + 2) (by omega)
      cases ha'
      have hd2 : wr.cell? ⟨b, off + (k + 2) * 2, none⟩ = some (.int .i64 (lv (k + 2))) := by rw [← hc2']; exact HB.out.cell hbw
      obtain ⟨b', off', ha', _, hc3', _⟩ := HC.out (k + 3) (by omega)
      cases ha'
      have hd3 : wr.cell? ⟨b, off + (k + 3) * 2, none⟩ = some (.int .i64 (lv (k + 3))) := by rw [← hc3']; exact HB.out.cell hbw
      clear hc1 hc1' hc2' hc3'
      have hl1 := (HL.out k).1
      by_cases t0 : lv k < 4
      · by_cases t1 : lv (k + 1) = lv k
        · have t1b : (lv (k + 1) == lv k) = true := by simp [t1]
          have T1 := Lib.hid t1
          clear t1
          by_cases t2 : lv (k + 2) = lv k
          · have t2b : (lv (k + 2) == lv k) = true := by simp [t2]
            have T2 := Lib.hid t2
            clear t2
            by_cases t3 : lv (k + 3) = lv k
            · have t3b : (lv (k + 3) == lv k) = true := by simp [t3]
              have T3 := Lib.hid t3
              clear t3
              go_wp2
              go_ret3
              unfold Planned
              rw [hit_plan hlt HN.out (by simp [hit, t0, T1.out, T2.out, T3.out])]
              exact ⟨rfl, HB.out⟩
            · have t3b : (lv (k + 3) == lv k) = false := by simp [t3]
              have T3 := Lib.hid t3
              clear t3
              go_wp2
              exact inRef_next hlt HN.out (by simp [hit, T3.out]) HB.out
          · have t2b : (lv (k + 2) == lv k) = false := by simp [t2]
            have T2 := Lib.hid t2
            clear t2
            go_wp2
            exact inRef_next hlt HN.out (by simp [hit, T2.out]) HB.out
        · have t1b : (lv (k + 1) == lv k) = false := by simp [t1]
          have T1 := Lib.hid t1
          clear t1
          go_wp2
          exact inRef_next hlt HN.out (by simp [hit, T1.out]) HB.out
      · go_wp2
        exact inRef_next hlt HN.out (by simp [hit, t0]) HB.out
    · have HNO := Lib.hid (none_found lv len (fun i hi => HN.out i (by omega)))
      rcases Nat.lt_or_ge 1 len with h2 | h2
      · have hp : plan lv (tb 0) len = (0, (len : Int), 4) := by unfold plan; rw [HNO.out]; simp; omega
        have HP := Lib.hid hp
        clear hp
        go_wp2
        go_ret3
        unfold Planned
        rw [HP.out]
        exact ⟨rfl, HB.out⟩
      · by_cases h1 : len = 1
        · obtain ⟨b, off, ha, hbw, hc1, hc2⟩ := HC.out 0 (by omega)
          subst ha
          have hd1 : wr.cell? ⟨b, off, none⟩ = some (.int .i64 (lv 0)) := by rw [← HB.out.cell (p := ⟨b, off + 0 * 2, none⟩) hbw] at hc1; simpa using hc1
          have hd2 : wr.cell? ⟨b, off + 1, none⟩ = some (.bool (tb 0)) := by rw [← HB.out.cell (p := ⟨b, off + 0 * 2 + 1, none⟩) hbw] at hc2; simpa using hc2
          clear hc1 hc2
          cases htb : tb 0 with
          | true =>
            have hp : plan lv true len = (0, 1, lv 0) := by unfold plan; rw [HNO.out]; simp [h1]
            have HP := Lib.hid hp
            rw [htb] at hd2
            have h1b : ((len : Int) == 1) = true := by simp; omega
            have h1c : (0 : Int) < (len : Int) := by omega
            have h1d : 0 < len := by omega
            have HT := Lib.hid htb
            have H1 := Lib.hid h1
            clear hp htb h1
            go_wp2_with fail
            go_quiet (fail)
            go_wp2
            go_ret3
            unfold Planned
            rw [HT.out, HP.out]
            exact ⟨rfl, below_drewN HB.out _⟩
          | false =>
            have hp : plan lv false len = (0, 0, 0) := by unfold plan; rw [HNO.out]; simp [h1]
            have HP := Lib.hid hp
            rw [htb] at hd2
            have h1b : ((len : Int) == 1) = true := by simp; omega
            have h1c : (0 : Int) < (len : Int) := by omega
            have h1d : 0 < len := by omega
            have HT := Lib.hid htb
            have H1 := Lib.hid h1
            clear hp htb h1
            go_wp2
            go_ret3
            unfold Planned
            rw [HT.out, HP.out]
            exact ⟨rfl, HB.out⟩
        · have hp : plan lv (tb 0) len = (0, 0, 0) := by unfold plan; rw [HNO.out]; simp [h1]; omega
          have HP := Lib.hid hp
          have h1b : ((len : Int) == 1) = false := by simp; omega
          have H1 := Lib.hid h1
          clear hp h1
          go_wp2
          go_ret3
          unfold Planned
          rw [HP.out]
          exact ⟨rfl, HB.out⟩
end Go.Proofs.Ytkiladicdpahjaa
