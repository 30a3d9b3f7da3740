/- The law CacheBounds, walked. No condition. -/
import Derived.Test.YtfhdaihladgchaaAE
namespace Go.Proofs.Ytfhdaihladgchaa
open Go.RowKit Go.Deep Go.WideShapes Go.ChangeShapes
/-- A call of the script in some later world. -/
theorem op_cells {W w : World} {bb off i : Nat} {x : OpX} (h : Lies W ⟨bb, off, none⟩ i (opV x)) (hb : Below W.heap.size W w) :
    w.cell? ⟨bb, off + i, none⟩ = some (.int .i64 x.kind) ∧ w.cell? ⟨bb, off + i + 1, none⟩ = some (.string x.s) ∧ w.cell? ⟨bb, off + i + 2, none⟩ = some (.string x.f) ∧ w.cell? ⟨bb, off + i + 3, none⟩ = some (.int .i64 x.p.t) ∧ w.cell? ⟨bb, off + i + 4, none⟩ = some (.int .i64 x.p.k) ∧ w.cell? ⟨bb, off + i + 5, none⟩ = some (.int .u64 x.p.b) ∧ w.cell? ⟨bb, off + i + 6, none⟩ = some (.string x.p.s) ∧ w.cell? ⟨bb, off + i + 7, none⟩ = some (.int .i64 x.a) ∧ w.cell? ⟨bb, off + i + 8, none⟩ = some (.int .i64 x.b) :=
  ⟨lies_cell (j := 0) h hb rfl, lies_cell (j := 1) h hb rfl, lies_cell (j := 2) h hb rfl, lies_cell (j := 3) h hb rfl, lies_cell (j := 4) h hb rfl, lies_cell (j := 5) h hb rfl, lies_cell (j := 6) h hb rfl, lies_cell (j := 7) h hb rfl, lies_cell (j := 8) h hb rfl⟩
def CIn (W w : World) (c : Nat) (L : List Col) (most : Int) : Prop := ∃ S m, CacheAt w S c m L most (total L) ∧ (∀ k, S k → W.heap.size ≤ k ∧ k < w.heap.size) ∧ Below W.heap.size W w
theorem CIn.below {W w : World} {c : Nat} {L : List Col} {most : Int} (h : CIn W w c L most) : Below W.heap.size W w := by
  obtain ⟨S, m, _, _, h⟩ := h
  exact h
theorem CIn.new {W w w' : World} {n : Int} (hb0 : Below W.heap.size W w) (h : CacheAt w' (fun k => k = w.heap.size ∨ k = w.heap.size + 1) (w.heap.size + 1) w.heap.size [] (max n 0) 0) (hb : Below w.heap.size w w') (hs : w'.heap.size = w.heap.size + 2) : CIn W w' (w.heap.size + 1) [] (max n 0) :=
  ⟨_, _, h, fun x hx => by have := hb0.size; rcases hx with rfl | rfl <;> omega, hb0.trans (hb.mono hb0.size)⟩
theorem both_new {W w w' : World} {c r : Nat} {L : List Col} {most rmost : Int} (h : CIn W w c L most) (hr : RefAt w' (fun k => k = r) r [] rmost) (hrr : r = w.heap.size) (hb : Below w.heap.size w w') (hs : w'.heap.size = w.heap.size + 1) : ∃ S T B O m, Both W w' S T B O c m L most r [] rmost := by
  obtain ⟨S, m, h1, h2, h3⟩ := h
  refine ⟨S, fun k => k = r, 0, none, m, h1.later hb, hr, fun k hk hT => ?_, fun k hk => ?_, (fun o ho => by cases ho), h3.trans (hb.mono h3.size), good_nil⟩
  · have := (h2 k hk).2; omega
  · rcases hk with hk | hk
    · have := h2 k hk; omega
    · have := h3.size; omega
theorem both_in {W w : World} {S T : Nat → Prop} {B : Nat} {O : Option Obj} {c m : Nat} {L : List Col} {most : Int} {r : Nat} {R : List RC} {rmost : Int} (h : Both W w S T B O c m L most r R rmost) : CIn W w c L most := ⟨S, m, h.ca, fun k hk => h.low k (.inl hk), h.below⟩
theorem size_in {W : World} (w : World) {c : Nat} {L : List Col} {most : Int} (h : CIn W w c L most) : Calls Try.prog 13 #[.pointer (some ⟨c, 0, none⟩)] w fun e w' => e = .returned (.int .i64 (total L)) ∧ w = w' := by
  obtain ⟨S, m, h1, _⟩ := h
  exact sizeC w S c m L most _ h1
def InBounds (W : World) (c n : Nat) (most : Int) (i : Value) (wr : World) : Prop := ∃ (k : Nat) (L : List Col), k ≤ n ∧ i = .int .i64 k ∧ CIn W wr c L most ∧ (total L : Int) ≤ most
set_option maxHeartbeats 1000000 in
set_option maxRecDepth 100000 in
theorem cacheBounds_walk (H : Type) (enc : TypeId × Value → H) (W : World) (base : Nat) (v0 v1 : Value) (d0 d1 : DataW H) (p0 p1 : List MemPlace) (h0 : DataW.Trod enc Try.prog W 0 (fun _ => true) true 5 v0 d0 p0) (o0 : Value.okWide Try.prog W .any base 5 v0) (h1 : DataW.Trod enc Try.prog W 0 (fun _ => true) true 39 v1 d1 p1) (o1 : Value.okWide Try.prog W .any base 39 v1) :
    Calls Try.prog 5 #[v0, v1] W fun e w' => e = .returned (.bool true) ∧ Below W.heap.size W w' := by
  obtain ⟨mo, rfl, hm0, hm1⟩ : ∃ z, v0 = .int .u8 z ∧ 0 ≤ z ∧ z ≤ 255 := by
    obtain ⟨fuel, hf⟩ := h0
    obtain ⟨z, hz, _, hw⟩ := DataW.trod_int Try.underlying5 hf
    have h9 : 0 ≤ z ∧ z ≤ 255 := by simpa [Lit.wf, IntKind.min, IntKind.max, IntKind.signed, IntKind.bits] using hw
    refine ⟨z, ?_, h9⟩
    simp only [Value.okWide, Try.underlying5, Cell.okWide] at o0
    cases v0 <;> simp_all [Value.cells, Cell.ok]
  obtain ⟨a, len, cap, X, rfl, hlc, hlm, hat⟩ := ops_open h1 o1
  have HAT := Lib.hid hat
  unfold maxLen at hlm
  clear h0 o0 h1 o1 hat hlc
  go_enter Try.func5, Try.ntmps5
  go_wp2_with fail
  refine (awake W).mono ?_
  rintro e w1 ⟨rfl, hb1⟩
  have HB1 := Lib.hid hb1
  clear hb1
  go_wp2_with fail
  refine (new mo w1).mono ?_
  rintro e w2 ⟨rfl, hc2, hb2, hs2⟩
  have hci := CIn.new HB1.out hc2 hb2 hs2
  rw [show max mo 0 = mo by omega] at hci
  have HC2 := Lib.hid hci
  clear hc2 hb2 hs2 hci
  obtain ⟨c, hc⟩ : ∃ c, w1.heap.size + 1 = c := ⟨_, rfl⟩
  rw [hc] at HC2 ⊢
  clear hc
  go_wp2_with fail
  go_loopw [14] (fun i wr => InBounds W c len mo i wr) (fun i _ => len - (intOf i).toNat)
  case atStart => exact ⟨0, [], Nat.zero_le _, rfl, HC2.out, by show (0 : Int) ≤ mo; exact hm0⟩
  case round =>
    obtain ⟨k, L, hkl, rfl, hci, htot⟩ := hrel
    have HCI := Lib.hid hci
    have HTOT := Lib.hid htot
    clear hci htot HC2
    by_cases hlt : k < len
    · obtain ⟨b, rfl, hlies, hok⟩ := HAT.out k hlt
      obtain ⟨b', hb', hlies0, _⟩ := HAT.out 0 (by omega)
      injection hb' with hb'
      subst hb'
      have hsp := lies_spot (by simpa [opV] using hlies0)
      obtain ⟨bb, off, spot⟩ := b
      simp only at hsp
      subst hsp
      obtain ⟨x, hx⟩ : ∃ x, X k = x := ⟨_, rfl⟩
      rw [hx] at hlies hok
      have HL := Lib.hid hlies
      have HOK := Lib.hid hok
      have HOPS := Lib.hid (fun (w' : World) (hb : Below W.heap.size W w') => op_cells hlies hb)
      obtain ⟨q0, q1, q2, q3, q4, q5, q6, q7, q8⟩ := op_cells hlies HCI.out.below
      have hik : ((off + k * 9 : Nat) : Int) = off + k * 9 := by omega
      clear hlies hlies0 hok hx hik
      go_wp2_with fail
      have HCD := Lib.hid (show CIn W wr.drew c L mo from by
        obtain ⟨S, m, g1, g2, g3⟩ := HCI.out
        exact ⟨S, m, g1.same2 fun _ _ _ => rfl, g2, below_drewN g3 1⟩)
      go_region_held3 (fun w' => w'.cell? ⟨bb, off + k * 9, none⟩ = some (.int .i64 x.kind) ∧ w'.cell? ⟨bb, off + k * 9 + 1, none⟩ = some (.string x.s) ∧ w'.cell? ⟨bb, off + k * 9 + 2, none⟩ = some (.string x.f) ∧ w'.cell? ⟨bb, off + k * 9 + 3, none⟩ = some (.int .i64 x.p.t) ∧ w'.cell? ⟨bb, off + k * 9 + 4, none⟩ = some (.int .i64 x.p.k) ∧ w'.cell? ⟨bb, off + k * 9 + 5, none⟩ = some (.int .u64 x.p.b) ∧ w'.cell? ⟨bb, off + k * 9 + 6, none⟩ = some (.string x.p.s) ∧ w'.cell? ⟨bb, off + k * 9 + 7, none⟩ = some (.int .i64 x.a) ∧ w'.cell? ⟨bb, off + k * 9 + 8, none⟩ = some (.int .i64 x.b)) (first | exact HOPS.out _ HC4.out.below | exact HOPS.out _ HB3.out.below | go_keep)
        (first
          | (go_at_call 15; refine (refNew 0 wr.drew).mono ?_; rintro e w3 ⟨rfl, hr3, hb3, hs3⟩; obtain ⟨S3, T3, B3, O3, m3, hb3'⟩ := both_new HCD.out hr3 rfl hb3 hs3; have HB3 := Lib.hid hb3'; clear hr3 hb3 hs3 hb3')
          | (go_at_call 14; refine (play_any HB3.out x HOK.out (by have := HTOT.out; omega) (by show (0 : Nat) ≤ _; omega)).mono ?_; rintro e w4 ⟨pb, S4, T4, B4, O4, m4, L4, R4, rfl, hb4, _, _, _, hmm⟩; have HC4 := Lib.hid (both_in hb4); have HM4 := Lib.hid (hmm HTOT.out); clear hb4 hmm))
      go_wp2_with fail
      refine (size_in _ HC4.out).mono ?_
      rintro e w5 ⟨rfl, rfl⟩
      obtain ⟨tt, htt⟩ : ∃ t, total L4 = t := ⟨_, rfl⟩
      rw [htt]
      have htt9 : (tt : Int) ≤ mo := by rw [← htt]; exact HM4.out
      have HTT := Lib.hid htt
      clear htt
      go_wp2_with fail
      refine (size_in _ HC4.out).mono ?_
      rw [HTT.out]
      rintro e w5 ⟨rfl, rfl⟩
      go_wp2_with fail
      go_roundw
      case rel => exact ⟨k + 1, L4, by omega, by go_num, HC4.out, HM4.out⟩
      case measure => simp [intOf]; omega
    · go_wp2_with fail
      go_ret
      exact ⟨rfl, HCI.out.below⟩
end Go.Proofs.Ytfhdaihladgchaa
