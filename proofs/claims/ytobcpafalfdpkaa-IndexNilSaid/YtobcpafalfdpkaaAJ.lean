/- The laws' awake: true. No condition. -/
import Derived.Test.YtobcpafalfdpkaaAF
import Derived.Test.YtobcpafalfdpkaaAI
namespace Go.Proofs.Ytobcpafalfdpkaa
open Go.RowKit Go.WideMaps Go.Sort
def sCpu : Sr := ⟨⟨#[99, 112, 117]⟩, []⟩
theorem cpu_ok : sCpu.ok = true := by decide
theorem cpu_in (w : World) : SrIn w (.agg #[.string ⟨#[99, 112, 117]⟩, .slice none 0 0]) sCpu :=
  ⟨none, 0, rfl, fun _ => rfl, by decide, fun i hi => absurd hi (Nat.not_lt_zero _), by unfold maxLen; decide, fun p hp => nomatch hp⟩
theorem full0 : Full me0 := ⟨fun _ hp => (nomatch hp), fun _ hp => (nomatch hp)⟩
theorem bdn0 : BdN me0 0 := ⟨Nat.le_refl _, fun _ => Nat.le_refl _, fun _ _ => Nat.le_refl _⟩
theorem BdN.bd {μ : Me} {N : Nat} (h : BdN μ N) (hN : N ≤ 3518437208780) (hs : μ.ss.length ≤ 3518437208780) (hk : μ.kd.length ≤ 3518437208780) : Bd μ := by
  have hV : ∀ k, (valsOf μ k).length ≤ 3518437208780 := fun k => by
    unfold valsOf
    cases get μ.A k with
    | none => exact Nat.zero_le _
    | some _ => exact Nat.le_trans (h.V k) hN
  refine ⟨hs, hV, fun k v => ?_, hk⟩
  unfold textsOf
  cases get (valsOf μ k) v with
  | none => exact Nat.zero_le _
  | some _ => exact Nat.le_trans (h.X k v) hN
theorem Step.toBelow {w w' : World} {ρ ρ' : Nat → Option Role} {Q : Role → Prop} (h : Step w w' ρ ρ' Q) {B : Nat} (hB : ∀ k, ρ k ≠ none → B ≤ k) (hBw : B ≤ w.heap.size) : Below B w w' :=
  ⟨h.os, h.tape, h.output, h.size, fun k hk => h.block k (Nat.lt_of_lt_of_le hk hBw) fun r e => by
    have := hB k (by rw [e]; simp)
    omega⟩
set_option maxRecDepth 100000 in
set_option maxHeartbeats 4000000 in
theorem awake7 (w : World) : Calls Try.prog 7 #[] w fun e w' => e = .returned (.bool true) ∧ Below w.heap.size w w' := by
  go_enter Try.func7, Try.ntmps7
  go_wp2_with fail
  refine (new8 w).mono ?_
  rintro e w1 ⟨rfl, hidx, hb1, hfr⟩
  have HFR := Lib.hid hfr
  have HIDX := Lib.hid hidx
  have HB1 := Lib.hid hb1
  clear hidx hb1 hfr
  go_wp2_with fail
  have hme : meOf ([] : List (BA × Nat)) (fun _ => me0) sCpu.name = me0 := rfl
  have had : addA me0 sCpu = (true, 0) := by unfold addA; rw [if_pos cpu_ok]; rfl
  have HC := Lib.hid (add9 HIDX.out (cpu_in w1) (fun nm a n c h _ _ _ => by injection h with h; simp at h) (by simp) (N := 0) (by omega) (by rw [hme]; exact bdn0) (by rw [hme]; unfold maxLen; decide) (by rw [hme]; exact full0))
  clear hme
  refine HC.out.mono ?_
  intro e w2 hp
  unfold AddPost at hp
  obtain ⟨ρ', L', M', he, hch, _, hyes⟩ := hp
  have hme : meOf ([] : List (BA × Nat)) (fun _ => me0) sCpu.name = me0 := rfl
  rw [hme, had] at he hyes
  subst he
  obtain ⟨sv, hsv, hss, hkd, _, hbd, _⟩ := hyes rfl
  have hl1 : (meOf L' M' sCpu.name).ss.length = 1 := by rw [hss]; rfl
  have HA := Lib.hid (all14 (hch.idx.gets) sCpu.name (by unfold maxLen; decide) (hbd.bd (by omega) (by omega) (by rw [hkd]; decide)))
  have HL1 := Lib.hid hl1
  have HCH := Lib.hid hch
  clear hch hyes hsv hss hkd hbd hl1 hme had
  go_wp2_with fail
  refine HA.out.mono ?_
  rintro e w3 ⟨v, L, rfl, hmap, hrow, _, hb3⟩
  have hln : L.length = 1 := by
    have := congrArg List.length hmap
    simp at this
    rw [this]; exact HL1.out
  obtain ⟨va, vc, rfl⟩ := row_form hrow
  have HB3 := Lib.hid hb3
  clear hmap hrow hb3
  rw [hln]
  go_wp2_with fail
  go_ret
  exact ⟨rfl, HB1.out.trans ((HCH.out.step.toBelow HFR.out HB1.out.size).trans (HB3.out.mono (Nat.le_trans HB1.out.size HCH.out.step.size)))⟩
end Go.Proofs.Ytobcpafalfdpkaa
