/- The law CacheLast, walked. No condition. -/
import Derived.Test.YtfhdaihladgchaaO
import Derived.Deep.QuietTactic
import Derived.BigQuiet
namespace Go.Proofs.Ytfhdaihladgchaa
open Go.RowKit Go.Deep Go.WideShapes Go.ChangeShapes
def LastOk (t : Int) (l : List Pt) : Prop := l = [] ∨ ∃ q : Pt, l = [q] ∧ q.t = t ∧ q.k = 2
def mk2 (t u : Int) : Pt := ⟨t, 2, u, ⟨#[]⟩⟩
theorem last_put {t u size : Int} {l : List Pt} (h : LastOk t l) (hs : size < 10000) : putE l size 10000 (mk2 t u) = 0 ∧ putN l size 10000 (mk2 t u) = [mk2 t u] ∧ putD l size 10000 (mk2 t u) ≤ 1 := by
  have hf : formedB (mk2 t u).k (mk2 t u).b (mk2 t u).s = true := formed2 u
  have hE : putE l size 10000 (mk2 t u) = 0 := by
    rcases h with rfl | ⟨q, rfl, ht, hk⟩
    · rw [putE_nil hf, if_neg (by omega)]
    · rw [putE, hf]; simp [otherK, hk, mk2, ht, thereB, loI, hiI]
  refine ⟨hE, ?_, ?_⟩
  · unfold putN
    rw [if_pos hE]
    rcases h with rfl | ⟨q, rfl, ht, hk⟩
    · simp [putL, thereB, loI, hiI]
    · simp [putL, thereB, loI, hiI, mk2, ht]
  · unfold putD
    rw [if_pos hE]
    split <;> omega
theorem rng_one (t u : Int) : rng [mk2 t u] t t = [mk2 t u] := by simp [rng, loI, endI, hiI, mk2]
theorem putD_le (l : List Pt) (size most : Int) (p : Pt) : putD l size most p ≤ 1 := by
  unfold putD
  split
  · split <;> omega
  · omega
theorem wrap_u64 (x : Int) : 0 ≤ IntKind.u64.wrap x ∧ IntKind.u64.wrap x < 2 ^ 64 := by
  simp only [IntKind.wrap, IntKind.bits, IntKind.signed]
  simp
  omega
theorem row_one {w : World} {base : Nat} {v : Value} {p : Pt} (h : w.ownsRow base 33 4 v [p].length (ptC [p])) : ∃ g cp, v = .slice (some ⟨g, 0, none⟩) 1 cp ∧ w.cell? ⟨g, 0, none⟩ = some (.int .i64 p.t) ∧ w.cell? ⟨g, 1, none⟩ = some (.int .i64 p.k) ∧ w.cell? ⟨g, 2, none⟩ = some (.int .u64 p.b) ∧ w.cell? ⟨g, 3, none⟩ = some (.string p.s) := by
  rcases h.2 with ⟨_, h0⟩ | ⟨g, cp, cur, rfl, _⟩
  · simp at h0
  · exact ⟨g, cp, rfl, h.cellAt 0 (by simp), h.cellAt 1 (by simp), h.cellAt 2 (by simp), h.cellAt 3 (by simp)⟩
theorem CState.drewN {W w : World} {c m : Nat} {L : List Col} {most : Int} (h : CState W w c m L most) (n : Nat) : CState W (w.drewN n) c m L most := h.later (below_drewN (Below.refl _ _) n)
def InLast (W : World) (c m : Nat) (t : Int) (len : Nat) (i : Value) (wr : World) : Prop :=
  ∃ (k : Nat) (L : List Col), k ≤ len ∧ k ≤ 100 ∧ i = .int .i64 k ∧ CState W wr c m L 10000 ∧ LastOk t (ptsOf (look L ⟨#[115]⟩ ⟨#[102]⟩)) ∧ total L ≤ 2 * k
set_option maxRecDepth 100000 in
theorem cacheLast_walk (H : Type) (enc : TypeId × Value → H) (W : World) (base : Nat) (v0 v1 v2 : Value) (d0 d1 d2 : DataW H) (p0 p1 p2 : List MemPlace) (h0 : DataW.Trod enc Try.prog W 0 (fun _ => true) true 2 v0 d0 p0) (o0 : Value.okWide Try.prog W .any base 2 v0) (h1 : DataW.Trod enc Try.prog W 0 (fun _ => true) true 22 v1 d1 p1) (o1 : Value.okWide Try.prog W .any base 22 v1) (h2 : DataW.Trod enc Try.prog W 0 (fun _ => true) true 23 v2 d2 p2) (o2 : Value.okWide Try.prog W .any base 23 v2) :
    Calls Try.prog 3 #[v0, v1, v2] W fun e w' => e = .returned (.bool true) ∧ Below W.heap.size W w' := by
  obtain ⟨t, rfl⟩ : ∃ z, v0 = .int .i64 z := by
    obtain ⟨fuel, hf⟩ := h0
    obtain ⟨z, hz, _, hw⟩ := DataW.trod_int Try.underlying2 hf
    refine ⟨z, ?_⟩
    simp only [Value.okWide, Try.underlying2, Cell.okWide] at o0
    cases v0 <;> simp_all [Value.cells, Cell.ok]
  obtain ⟨a, len, cap, X, rfl, hlc, hlm, hat⟩ := ints_open h1 o1
  obtain ⟨a2, len2, cap2, Y, rfl, hlc2, hlm2, hat2⟩ := pts_open h2 o2
  have HAT := Lib.hid hat
  have HAT2 := Lib.hid hat2
  unfold maxLen at hlm hlm2
  clear h0 o0 h1 o1 h2 o2 hat hat2 hlc hlc2
  go_enter Try.func3, Try.ntmps3
  go_wp2_with fail
  refine (awake W).mono ?_
  rintro e w1 ⟨rfl, hb1⟩
  have HB1 := Lib.hid hb1
  clear hb1
  go_wp2_with fail
  refine (new 10000 w1).mono ?_
  rintro e w2 ⟨rfl, hc2, hb2, hs2⟩
  have HC2 := Lib.hid (CState.new HB1.out hc2 hb2)
  clear hc2 hb2 hs2
  obtain ⟨c, hc⟩ : ∃ c, w1.heap.size + 1 = c := ⟨_, rfl⟩
  obtain ⟨m, hm⟩ : ∃ m, w1.heap.size = m := ⟨_, rfl⟩
  rw [hc, hm] at HC2
  rw [hc]
  clear hc hm
  go_wp2_with fail
  go_loopw [15] (fun i wr => InLast W c m t len i wr) (fun i _ => len - (intOf i).toNat)
  case atStart => exact ⟨0, [], Nat.zero_le _, Nat.zero_le _, rfl, HC2.out, .inl rfl, Nat.le_refl _⟩
  case round =>
    obtain ⟨k, L, hkl, hk1, rfl, hcs, hlast, htot⟩ := hrel
    have HCS := Lib.hid hcs
    have HLAST := Lib.hid hlast
    have HTOT := Lib.hid htot
    clear hcs hlast htot HC2
    by_cases hlt : k < len
    · by_cases hk2 : k < 100
      · obtain ⟨b, rfl, hlies, _, _⟩ := HAT.out k hlt
        obtain ⟨b', hb', hlies0, _, _⟩ := HAT.out 0 (by omega)
        injection hb' with hb'
        subst hb'
        have hsp := lies_spot hlies0
        obtain ⟨bb, off, spot⟩ := b
        simp only at hsp
        subst hsp
        have HL := Lib.hid hlies
        have hcv := (lies_cell (j := 0) hlies HCS.out.below rfl : wr.cell? ⟨bb, off + k + 0, none⟩ = some (.int .i64 (X k)))
        rw [Nat.add_zero] at hcv
        obtain ⟨u, hu⟩ : ∃ u, IntKind.u64.wrap (X k) = u := ⟨_, rfl⟩
        have hub : 0 ≤ u ∧ u < 2 ^ 64 := by rw [← hu]; exact wrap_u64 _
        have HU := Lib.hid hu
        have HUB := Lib.hid hub
        have HLP := Lib.hid (last_put (u := u) (size := (total L : Int)) HLAST.out (by have := HTOT.out; omega))
        clear hub hlies hlies0
        go_wp2_with fail
        refine (put_st _ ⟨#[115]⟩ ⟨#[102]⟩ (mk2 t u) HCS.out (by decide) (by decide) HUB.out (by show (0 : Nat) ≤ maxLen; decide) (by have := HTOT.out; omega)).mono ?_
        rintro e w3 ⟨L1, rfl, hcs1, hlk1, htot1⟩
        rw [HLP.out.1]
        have HCS1 := Lib.hid hcs1
        have HLK1 := Lib.hid (show ptsOf (look L1 ⟨#[115]⟩ ⟨#[102]⟩) = [mk2 t u] by rw [hlk1, if_pos ⟨rfl, rfl⟩]; exact HLP.out.2.1)
        have HTOT1 := Lib.hid (show total L1 ≤ 2 * k + 1 by rw [htot1]; have := HLP.out.2.2; have := HTOT.out; omega)
        clear hcs1 hlk1 htot1 hcv hu
        by_cases hlt2 : k < len2
        · obtain ⟨b, rfl, hliesY, hpok⟩ := HAT2.out k hlt2
          obtain ⟨b', hb', hlies0, _⟩ := HAT2.out 0 (by omega)
          injection hb' with hb'
          subst hb'
          have hsp := lies_spot hlies0
          obtain ⟨bY, offY, spot⟩ := b
          simp only at hsp
          subst hsp
          have q0 := (lies_cell (j := 0) hliesY HCS1.out.below rfl : w3.cell? ⟨bY, offY + k * 4 + 0, none⟩ = some (.int .i64 (Y k).t))
          have q1 := (lies_cell (j := 1) hliesY HCS1.out.below rfl : w3.cell? ⟨bY, offY + k * 4 + 1, none⟩ = some (.int .i64 (Y k).k))
          have q2 := (lies_cell (j := 2) hliesY HCS1.out.below rfl : w3.cell? ⟨bY, offY + k * 4 + 2, none⟩ = some (.int .u64 (Y k).b))
          have q3 := (lies_cell (j := 3) hliesY HCS1.out.below rfl : w3.cell? ⟨bY, offY + k * 4 + 3, none⟩ = some (.string (Y k).s))
          rw [Nat.add_zero] at q0
          obtain ⟨y, hy⟩ : ∃ y, Y k = y := ⟨_, rfl⟩
          rw [hy] at q0 q1 q2 q3 hpok
          have HPOK := Lib.hid hpok
          clear hliesY hlies0 hpok hy
          go_wp2_with fail
          refine (put_st _ ⟨#[116]⟩ ⟨#[102]⟩ y HCS1.out (by decide) (by decide) ⟨HPOK.out.2.2.2.2.1, HPOK.out.2.2.2.2.2.1⟩ HPOK.out.2.2.2.2.2.2 (by have := HTOT1.out; omega)).mono ?_
          rintro e w4 ⟨L2, rfl, hcs2, hlk2, htot2⟩
          have HCS2 := Lib.hid hcs2
          have HLK2 := Lib.hid (show ptsOf (look L2 ⟨#[115]⟩ ⟨#[102]⟩) = [mk2 t u] by rw [hlk2, if_neg (by decide)]; exact HLK1.out)
          have HTOT2 := Lib.hid (show total L2 ≤ 2 * (k + 1) by rw [htot2]; have := putD_le (ptsOf (look L1 ⟨#[116]⟩ ⟨#[102]⟩)) (total L1) 10000 y; have := HTOT1.out; omega)
          clear hcs2 hlk2 htot2 q0 q1 q2 q3
          go_wp2_with fail
          refine (get_st _ ⟨#[115]⟩ ⟨#[102]⟩ t t HCS2.out (by decide) (by decide) (by have := HTOT2.out; omega)).mono ?_
          rintro e w5 ⟨v5, base5, rfl, hbase5, hrow5, hb5⟩
          rw [HLK2.out, rng_one] at hrow5
          obtain ⟨g, cp, rfl, r0, r1, r2, r3⟩ := row_one hrow5
          have HCS5 := Lib.hid (CState.later HCS2.out hb5)
          have hcv := (lies_cell (j := 0) HL.out HCS5.out.below rfl : w5.cell? ⟨bb, off + k + 0, none⟩ = some (.int .i64 (X k)))
          rw [Nat.add_zero] at hcv
          clear hbase5 hrow5 hb5
          have hu := HU.out
          simp only [mk2] at r0 r1 r2 r3
          go_wp2_with fail
          go_quiet (fail)
          go_wp2_with fail
          go_roundw
          case rel => exact ⟨k + 1, _, by omega, by omega, by go_num, HCS5.out.drewN _, .inr ⟨mk2 t u, HLK2.out, rfl, rfl⟩, HTOT2.out⟩
          case measure => simp [intOf]; omega
        · have HLK2 := HLK1
          have HTOT2 := Lib.hid (show total L1 ≤ 2 * (k + 1) by have := HTOT1.out; omega)
          go_wp2_with fail
          refine (get_st _ ⟨#[115]⟩ ⟨#[102]⟩ t t HCS1.out (by decide) (by decide) (by have := HTOT2.out; omega)).mono ?_
          rintro e w5 ⟨v5, base5, rfl, hbase5, hrow5, hb5⟩
          rw [HLK2.out, rng_one] at hrow5
          obtain ⟨g, cp, rfl, r0, r1, r2, r3⟩ := row_one hrow5
          have HCS5 := Lib.hid (CState.later HCS1.out hb5)
          have hcv := (lies_cell (j := 0) HL.out HCS5.out.below rfl : w5.cell? ⟨bb, off + k + 0, none⟩ = some (.int .i64 (X k)))
          rw [Nat.add_zero] at hcv
          clear hbase5 hrow5 hb5
          have hu := HU.out
          simp only [mk2] at r0 r1 r2 r3
          go_wp2_with fail
          go_quiet (fail)
          go_wp2_with fail
          go_roundw
          case rel => exact ⟨k + 1, _, by omega, by omega, by go_num, HCS5.out.drewN _, .inr ⟨mk2 t u, HLK2.out, rfl, rfl⟩, HTOT2.out⟩
          case measure => simp [intOf]; omega
      · go_wp2_with fail
        go_ret
        exact ⟨rfl, HCS.out.below⟩
    · go_wp2_with fail
      go_ret
      exact ⟨rfl, HCS.out.below⟩
end Go.Proofs.Ytfhdaihladgchaa
