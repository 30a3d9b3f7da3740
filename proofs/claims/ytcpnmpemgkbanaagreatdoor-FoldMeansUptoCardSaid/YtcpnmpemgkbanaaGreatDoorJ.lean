/- The walk of FoldWindows. Condition: the table of blanks is as the text lays it. -/
import Derived.Test.YtcpnmpemgkbanaaGreatDoorI
import Derived.Test.YtcpnmpemgkbanaaGreatDoorLaid
namespace Go.Proofs.YtcpnmpemgkbanaaGreatDoor
open Go.RowKit Go.Sort Go.WideShapes Go.ChangeShapes
theorem ownsRow_same {w w' : World} {base n size : Nat} {t : TypeId} {v : Value} {xs : List Value} (h : w.ownsRow base t size v n xs) (hk : ∀ g, v.ownBlock = some g → w'.heap[g]? = w.heap[g]?) : w'.ownsRow base t size v n xs := by
  obtain ⟨h0, h⟩ := h
  refine ⟨h0, ?_⟩
  rcases h with h | ⟨g, cap, cur, rfl, h1, h2, h3⟩
  · exact .inl h
  · exact .inr ⟨g, cap, cur, rfl, h1, (hk g rfl).trans h2, h3⟩
theorem own_lt {w : World} {B n size g : Nat} {t : TypeId} {v : Value} {xs : List Value} (h : w.ownsRow B t size v n xs) (hg : v.ownBlock = some g) : g < w.heap.size := by
  rcases h.2 with ⟨rfl, _⟩ | ⟨g', cap, cur, rfl, h1, h2, _⟩
  · cases hg
  · cases hg
    exact heap_lt h2
theorem own_later {w w' : World} {base n size : Nat} {t : TypeId} {v : Value} {xs : List Value} (h : w.ownsRow base t size v n xs) (hb : Below w.heap.size w w') : w'.ownsRow base t size v n xs :=
  ownsRow_same h fun g hg => hb.block g (own_lt h hg)
/-- What a row of integers holds at a place. -/
theorem own_at {w : World} {B n c : Nat} {a : Option Addr} {xs : List Value} (h : w.ownsRow B 2 1 (.slice a n c) n xs) {i : Nat} (hi : i < n) : ∃ g, a = some ⟨g, 0, none⟩ ∧ w.cell? ⟨g, i, none⟩ = xs[i]? := by
  rcases h.2 with ⟨h0, h1⟩ | ⟨g, cap', cur, hv, _⟩
  · injection h0 with e1 e2 e3
    omega
  · injection hv with e1 _ _
    subst e1
    exact ⟨g, rfl, h.cellAt i (by omega)⟩
theorem i64_wf {r : Int} (h : (Lit.int .i64 r).wf = true) : lo63 ≤ r ∧ r ≤ 9223372036854775807 := by
  unfold lo63
  simpa [Lit.wf, IntKind.min, IntKind.max, IntKind.signed, IntKind.bits] using h
def InCmp (wl : World) (k : Nat) (i : Value) (wr : World) : Prop := ∃ j q : Nat, j ≤ k ∧ i = .int .i64 j ∧ wr = wl.drewN q
set_option maxRecDepth 100000 in
set_option maxHeartbeats 1000000 in
theorem foldWindows_walk (H : Type) (enc : TypeId × Value → H) (W : World) (base : Nat) (v0 v1 v2 : Value) (d0 d1 d2 : DataW H) (p0 p1 p2 : List MemPlace)
    (h0 : DataW.Trod enc Tryz.prog W 0 (fun _ => true) true 2 v0 d0 p0) (o0 : Value.okWide Tryz.prog W .any base 2 v0) (h1 : DataW.Trod enc Tryz.prog W 0 (fun _ => true) true 2 v1 d1 p1) (o1 : Value.okWide Tryz.prog W .any base 2 v1)
    (h2 : DataW.Trod enc Tryz.prog W 0 (fun _ => true) true 2 v2 d2 p2) (o2 : Value.okWide Tryz.prog W .any base 2 v2) (hL : laidMetH Tryz.prog Laid.lst W) :
    Calls Tryz.prog 6 #[v0, v1, v2] W fun e w' => e = .returned (.bool true) ∧ Below W.heap.size W w' := by
  obtain ⟨f, rfl, rfl, rfl, wf0⟩ := open_int Tryz.underlying2 o0 h0
  obtain ⟨l, rfl, rfl, rfl, wf1⟩ := open_int Tryz.underlying2 o1 h1
  obtain ⟨wd, rfl, rfl, rfl, wf2⟩ := open_int Tryz.underlying2 o2 h2
  have hf := i64_wf wf0
  have hl := i64_wf wf1
  have hw := i64_wf wf2
  have HAW := Lib.hid (awake8 W (Laid.space hL))
  have HW1 := Lib.hid (fun w => windows14 f l wd w hf hl hw.2)
  have HW2 := Lib.hid (fun w => windows15 f l wd w hf hl hw.2)
  have HA := Lib.hid (fun w => window_any f wd w (by unfold lo63 at hf; exact hf) hw.2)
  have HB := Lib.hid (fun w => window_any l wd w (by unfold lo63 at hl; exact hl) hw.2)
  have HC := Lib.hid (fun w => refWindow_any f wd w (by unfold lo63 at hf; exact hf) hw.2)
  have HD := Lib.hid (fun w => refWindow_any l wd w (by unfold lo63 at hl; exact hl) hw.2)
  clear h0 o0 h1 o1 h2 o2 hL wf0 wf1 wf2 hf hl hw
  go_enter Tryz.func6, Tryz.ntmps6
  go_wp2_with fail
  refine HAW.out.mono ?_
  rintro e w1 ⟨rfl, hb1⟩
  have HB1 := Lib.hid hb1
  clear hb1
  go_wp2_with fail
  refine (HW1.out _).mono ?_
  rintro e w2 ⟨x, k, err, rfl, hs2, ho2, hb2⟩
  have HS2 := Lib.hid hs2
  have HO2 := Lib.hid ho2
  have HB2 := Lib.hid (HB1.out.trans (hb2.mono HB1.out.size))
  clear hs2 ho2 hb2
  go_wp2_with fail
  refine (HW2.out _).mono ?_
  rintro e w3 ⟨y, k', err', rfl, hs3, ho3, hb3⟩
  obtain ⟨rfl, rfl⟩ := winSays_one HS2.out hs3
  have HO2b := Lib.hid (own_later HO2.out hb3)
  have HO3 := Lib.hid ho3
  have HB3 := Lib.hid (HB2.out.trans (hb3.mono HB2.out.size))
  obtain ⟨a, c, rfl⟩ := own_form HO2b.out
  obtain ⟨a', c', rfl⟩ := own_form HO3.out
  have hk : k ≤ 1000 := by
    rcases hs3 with ⟨_, rfl, _⟩ | ⟨_, ⟨rfl, _⟩ | ⟨_, h, _⟩⟩ <;> omega
  clear hs3 hb3 ho3 HS2 HO2 HW1 HW2
  go_wp2_with fail
  go_loopw [40] (fun i wr => InCmp w3 k i wr) (fun i _ => k - (intOf i).toNat)
  case atStart => exact ⟨0, 0, Nat.zero_le _, rfl, rfl⟩
  case round =>
    obtain ⟨j, q, hj, rfl, rfl⟩ := hrel
    by_cases hlt : j < k
    · obtain ⟨g1, rfl, e1⟩ := own_at HO2b.out hlt
      obtain ⟨g2, rfl, e2⟩ := own_at HO3.out hlt
      rw [watL_at f wd hlt] at e1 e2
      obtain ⟨z, hz⟩ : ∃ z, wat f wd j = z := ⟨_, rfl⟩
      rw [hz] at e1 e2
      clear hz
      go_wp2_with fail
      go_quiet (fail)
      go_wp2_with fail
      refine ⟨⟨j + 1, _, by omega, by go_num, rfl⟩, by simp [intOf]; omega⟩
    · have hjk : j = k := by omega
      subst hjk
      go_wp2_with fail
      refine (HA.out _).mono ?_
      rintro e w4 ⟨rfl, rfl⟩
      go_wp2_with fail
      refine (HC.out _).mono ?_
      rintro e w4 ⟨rfl, rfl⟩
      go_wp2_with fail
      refine (HB.out _).mono ?_
      rintro e w4 ⟨rfl, rfl⟩
      go_wp2_with fail
      refine (HD.out _).mono ?_
      rintro e w4 ⟨rfl, rfl⟩
      go_wp2_with fail
      go_ret
      exact ⟨rfl, HB3.out.os, HB3.out.tape, HB3.out.output, HB3.out.size, HB3.out.block⟩
end Go.Proofs.YtcpnmpemgkbanaaGreatDoor
