/- The law CacheRanges, walked. No condition. -/
import Derived.Test.YtfhdaihladgchaaQ
namespace Go.Proofs.Ytfhdaihladgchaa
open Go.RowKit Go.Deep Go.WideShapes Go.ChangeShapes
def InFill (W : World) (c m n : Nat) (i : Value) (wr : World) : Prop :=
  ∃ (k : Nat) (L : List Col), k ≤ n ∧ i = .int .i64 k ∧ CState W wr c m L 1000 ∧ total L ≤ 1000 ∧ total L = (ptsOf (look L ⟨#[115]⟩ ⟨#[102]⟩)).length ∧ ∀ q ∈ ptsOf (look L ⟨#[115]⟩ ⟨#[102]⟩), PtOk q
def InCut (w3 : World) (l : List Pt) (n : Nat) (i got fr : Value) (wr : World) : Prop :=
  ∃ (k : Nat) (t : Int), k ≤ n ∧ i = .int .i64 k ∧ fr = .int .i64 t ∧ -9223372036854775808 ≤ t ∧ t ≤ 9223372036854775807 ∧ Below w3.heap.size w3 wr ∧ wr.ownsRow w3.heap.size 33 4 got (l.take (loI l t)).length (ptC (l.take (loI l t)))
set_option maxRecDepth 100000 in
theorem cacheRanges_walk (H : Type) (enc : TypeId × Value → H) (W : World) (base : Nat) (v0 v1 : Value) (d0 d1 : DataW H) (p0 p1 : List MemPlace) (h0 : DataW.Trod enc Try.prog W 0 (fun _ => true) true 23 v0 d0 p0) (o0 : Value.okWide Try.prog W .any base 23 v0) (h1 : DataW.Trod enc Try.prog W 0 (fun _ => true) true 22 v1 d1 p1) (o1 : Value.okWide Try.prog W .any base 22 v1) :
    Calls Try.prog 4 #[v0, v1] W fun e w' => e = .returned (.bool true) ∧ Below W.heap.size W w' := by
  obtain ⟨a, len, cap, X, rfl, hlc, hlm, hat⟩ := ints_open h1 o1
  obtain ⟨a2, len2, cap2, Y, rfl, hlc2, hlm2, hat2⟩ := pts_open h0 o0
  obtain ⟨i0, z0', hi, hz0, hz1, hz2, hz3⟩ := zparts33
  have HI := Lib.hid hi
  have HI0 := Lib.hid hz0
  have HI1 := Lib.hid hz1
  have HI2 := Lib.hid hz2
  have HI3 := Lib.hid hz3
  have HAT := Lib.hid hat
  have HAT2 := Lib.hid hat2
  unfold maxLen at hlm hlm2
  clear h0 o0 h1 o1 hat hat2 hlc hlc2 hi hz0 hz1 hz2 hz3
  go_enter Try.func4, Try.ntmps4
  go_wp2_with fail
  refine (awake W).mono ?_
  rintro e w1 ⟨rfl, hb1⟩
  have HB1 := Lib.hid hb1
  clear hb1
  go_wp2_with fail
  refine (new 1000 w1).mono ?_
  rintro e w2 ⟨rfl, hc2, hb2, hs2⟩
  have HC2 := Lib.hid (CState.new HB1.out hc2 hb2)
  clear hc2 hb2 hs2
  obtain ⟨c, hc⟩ : ∃ c, w1.heap.size + 1 = c := ⟨_, rfl⟩
  obtain ⟨m, hm⟩ : ∃ m, w1.heap.size = m := ⟨_, rfl⟩
  rw [hc, hm] at HC2
  rw [hc]
  clear hc hm
  go_wp2_with fail
  go_loopw [15] (fun i wr => InFill W c m len2 i wr) (fun i _ => len2 - (intOf i).toNat)
  case atStart => exact ⟨0, [], Nat.zero_le _, rfl, HC2.out, Nat.zero_le _, rfl, fun q hq => nomatch hq⟩
  case round =>
    obtain ⟨k, L, hkl, rfl, hcs, htot, htl, hok⟩ := hrel
    have HCS := Lib.hid hcs
    have HTL := Lib.hid htl
    have HOK := Lib.hid hok
    have HTOT := Lib.hid htot
    clear hcs htl hok htot HC2
    by_cases hlt : k < len2
    · obtain ⟨b, rfl, hliesY, hpok⟩ := HAT2.out k hlt
      obtain ⟨b', hb', hlies0, _⟩ := HAT2.out 0 (by omega)
      injection hb' with hb'
      subst hb'
      have hsp := lies_spot hlies0
      obtain ⟨bY, offY, spot⟩ := b
      simp only at hsp
      subst hsp
      have q0 := (lies_cell (j := 0) hliesY HCS.out.below rfl : wr.cell? ⟨bY, offY + k * 4 + 0, none⟩ = some (.int .i64 (Y k).t))
      have q1 := (lies_cell (j := 1) hliesY HCS.out.below rfl : wr.cell? ⟨bY, offY + k * 4 + 1, none⟩ = some (.int .i64 (Y k).k))
      have q2 := (lies_cell (j := 2) hliesY HCS.out.below rfl : wr.cell? ⟨bY, offY + k * 4 + 2, none⟩ = some (.int .u64 (Y k).b))
      have q3 := (lies_cell (j := 3) hliesY HCS.out.below rfl : wr.cell? ⟨bY, offY + k * 4 + 3, none⟩ = some (.string (Y k).s))
      rw [Nat.add_zero] at q0
      obtain ⟨y, hy⟩ : ∃ y, Y k = y := ⟨_, rfl⟩
      rw [hy] at q0 q1 q2 q3 hpok
      have HPOK := Lib.hid hpok
      clear hliesY hlies0 hpok hy
      go_wp2_with fail
      refine (put_st _ ⟨#[115]⟩ ⟨#[102]⟩ y HCS.out (by decide) (by decide) ⟨HPOK.out.2.2.2.2.1, HPOK.out.2.2.2.2.2.1⟩ HPOK.out.2.2.2.2.2.2 (by have := HTOT.out; omega)).mono ?_
      rintro e w4 ⟨L2, rfl, hcs2, hlk2, htot2⟩
      have HCS2 := Lib.hid hcs2
      have hlk3 := hlk2 ⟨#[115]⟩ ⟨#[102]⟩
      rw [if_pos ⟨rfl, rfl⟩] at hlk3
      have HLK := Lib.hid hlk3
      have HT2 := Lib.hid htot2
      clear hcs2 hlk2 hlk3 htot2 q0 q1 q2 q3
      go_wp2_with fail
      go_roundw
      case rel =>
        refine ⟨k + 1, L2, by omega, by go_num, HCS2.out, ?_, ?_, fun q hq => ?_⟩
        · have h1 := putD_bound (l := ptsOf (look L ⟨#[115]⟩ ⟨#[102]⟩)) (size := total L) (most := 1000) (p := y) (by have := HTOT.out; omega)
          rw [HT2.out]; omega
        · rw [HT2.out, HLK.out, putN_len, HTL.out]
        · rw [HLK.out] at hq
          rcases putN_mem hq with hq | hq
          · exact HOK.out q hq
          · rw [hq.1]; exact HPOK.out
      case measure => simp [intOf]; omega
    · obtain ⟨l, hl⟩ : ∃ l, ptsOf (look L ⟨#[115]⟩ ⟨#[102]⟩) = l := ⟨_, rfl⟩
      rw [hl] at HTL HOK
      have HL := Lib.hid hl
      have hlo : loI l (-9223372036854775808) = 0 := lo_first fun q hq => (HOK.out q hq).1
      have hhi : hiI l 9223372036854775807 = l.length := hi_last fun q hq => by have := (HOK.out q hq).2.1; omega
      have HLO := Lib.hid hlo
      have HHI := Lib.hid hhi
      have hlen : l.length ≤ 1000 := by rw [← HTL.out]; exact HTOT.out
      have HLEN := Lib.hid hlen
      clear hl hlo hhi hlen
      go_wp2_with fail
      go_loopw [27, 7, 8] (fun i got fr w' => InCut wr l len i got fr w') (fun i _ _ _ => len - (intOf i).toNat)
      case atStart =>
        refine ⟨0, -9223372036854775808, Nat.zero_le _, rfl, rfl, by omega, by omega, Below.refl _ _, ?_⟩
        rw [HLO.out]
        exact World.ownsRow_nil _ _ _ _
      case round =>
        obtain ⟨j, t, hjl, rfl, rfl, ht0, ht1, hbj, hrow⟩ := hrel
        have HBJ := Lib.hid hbj
        have HROW := Lib.hid hrow
        have HCJ := Lib.hid (HCS.out.later hbj)
        clear hbj hrow
        by_cases hjlt : j < len
        · obtain ⟨b, rfl, hlies, hx0, hx1⟩ := HAT.out j hjlt
          obtain ⟨b', hb', hlies0, _, _⟩ := HAT.out 0 (by omega)
          injection hb' with hb'
          subst hb'
          have hsp := lies_spot hlies0
          obtain ⟨bb, off, spot⟩ := b
          simp only at hsp
          subst hsp
          have HLI := Lib.hid hlies
          have hcv := (lies_cell (j := 0) hlies HCJ.out.below rfl : _ = some (Value.int .i64 (X j)))
          rw [Nat.add_zero] at hcv
          obtain ⟨x, hx⟩ : ∃ x, X j = x := ⟨_, rfl⟩
          rw [hx] at hcv hx0 hx1 HLI
          clear hlies hlies0 hx
          by_cases h1 : t ≤ x
          · by_cases h2 : x < 9223372036854775807
            · have hgl : (l.take (loI l t)).length ≤ 1000 := by rw [List.length_take]; have := HLEN.out; omega
              have hrl : (rng l t x).length ≤ 1000 := by unfold rng; rw [List.length_take, List.length_drop]; have := HLEN.out; omega
              have HGL := Lib.hid hgl
              have HRL := Lib.hid hrl
              clear hgl hrl
              go_wp2_with fail
              refine (get_st _ ⟨#[115]⟩ ⟨#[102]⟩ t x HCJ.out (by decide) (by decide) (by have := HTOT.out; omega)).mono ?_
              rintro e w5 ⟨v5, base5, rfl, hbase5, hrow5, hb5⟩
              rw [HL.out] at hrow5
              have HB5 := Lib.hid (HBJ.out.trans (hb5.mono HBJ.out.size))
              have HS5 := Lib.hid (row_src hrow5)
              have HG5 := Lib.hid (row_later HROW.out hb5)
              obtain ⟨n1, hn1⟩ : ∃ n1, (l.take (loI l t)).length = n1 := ⟨_, rfl⟩
              obtain ⟨n2, hn2⟩ : ∃ n2, (rng l t x).length = n2 := ⟨_, rfl⟩
              rw [hn1] at HG5 HGL
              rw [hn2] at HS5 HRL
              have HN1 := Lib.hid hn1
              have HN2 := Lib.hid hn2
              clear hbase5 hrow5 hb5 hcv hn1 hn2
              go_wp2_with (at_builtin; go_must (refine wpList_append_srcN rfl _ _ 23 rfl _ 33 i0 z0' 4 40 Try.underlying23 HI.out HI0.out HI1.out HI2.out HI3.out (by omega) _ n1 _ rfl HG5.out v5 n2 _ rfl HS5.out (by have := HGL.out; have := HRL.out; unfold maxLen; omega) (by have := HGL.out; have := HRL.out; omega) (by have := HB5.out.size; omega) ?_); intro v6 w6 hr6 hg6 hat6; have HG6 := Lib.hid hr6; have HB6 := Lib.hid (HB5.out.grown hg6 HB5.out.size (fun b hb => (HG5.out.lt b hb).1)); have hcv := (lies_cell (j := 0) HLI.out (HCS.out.later HB6.out).below rfl : _ = some (Value.int .i64 x)); rw [Nat.add_zero] at hcv; clear hr6 hg6 hat6)
              go_roundw
              case rel =>
                refine ⟨j + 1, x + 1, by omega, by go_num, rfl, by omega, by omega, HB6.out, ?_⟩
                have h6 := HG6.out
                rw [← ptC_append, rng_next l h1, ← lo_succ, ← HN1.out, ← HN2.out, ← List.length_append, rng_next l h1, ← lo_succ] at h6
                exact h6
              case measure => simp [intOf]; omega
            · go_wp2_with fail
              go_roundw
              case rel => exact ⟨j + 1, t, by omega, by go_num, rfl, ht0, ht1, HBJ.out, HROW.out⟩
              case measure => simp [intOf]; omega
          · go_wp2_with fail
            go_roundw
            case rel => exact ⟨j + 1, t, by omega, by go_num, rfl, ht0, ht1, HBJ.out, HROW.out⟩
            case measure => simp [intOf]; omega
        · have hgl : (l.take (loI l t)).length ≤ 1000 := by rw [List.length_take]; have := HLEN.out; omega
          have hrl : (rng l t 9223372036854775807).length ≤ 1000 := by unfold rng; rw [List.length_take, List.length_drop]; have := HLEN.out; omega
          have HGL := Lib.hid hgl
          have HRL := Lib.hid hrl
          have HT1 := Lib.hid ht1
          clear hgl hrl
          go_wp2_with fail
          refine (get_st _ ⟨#[115]⟩ ⟨#[102]⟩ t 9223372036854775807 HCJ.out (by decide) (by decide) (by have := HTOT.out; omega)).mono ?_
          rintro e w5 ⟨v5, base5, rfl, hbase5, hrow5, hb5⟩
          rw [HL.out] at hrow5
          have HB5 := Lib.hid (HBJ.out.trans (hb5.mono HBJ.out.size))
          have HS5 := Lib.hid (row_src hrow5)
          have HG5 := Lib.hid (row_later HROW.out hb5)
          obtain ⟨n1, hn1⟩ : ∃ n1, (l.take (loI l t)).length = n1 := ⟨_, rfl⟩
          obtain ⟨n2, hn2⟩ : ∃ n2, (rng l t 9223372036854775807).length = n2 := ⟨_, rfl⟩
          rw [hn1] at HG5 HGL
          rw [hn2] at HS5 HRL
          have HN1 := Lib.hid hn1
          have HN2 := Lib.hid hn2
          clear hbase5 hrow5 hb5 hn1 hn2
          go_wp2_with (at_builtin; go_must (refine wpList_append_srcN rfl _ _ 23 rfl _ 33 i0 z0' 4 40 Try.underlying23 HI.out HI0.out HI1.out HI2.out HI3.out (by omega) _ n1 _ rfl HG5.out v5 n2 _ rfl HS5.out (by have := HGL.out; have := HRL.out; unfold maxLen; omega) (by have := HGL.out; have := HRL.out; omega) (by have := HB5.out.size; omega) ?_); intro v6 w6 hr6 hg6 hat6)
          have HB6 := Lib.hid (HB5.out.grown hg6 HB5.out.size (fun b hb => (HG5.out.lt b hb).1))
          have hr7 := hr6
          rw [← ptC_append, rng_next l HT1.out, ← HN1.out, ← HN2.out, ← List.length_append, rng_next l HT1.out, HHI.out, List.take_length] at hr7
          have HG6 := Lib.hid hr7
          have HC6 := Lib.hid (HCS.out.later HB6.out)
          clear hr6 hg6 hat6 hr7
          go_wp2_with fail
          refine (get_st _ ⟨#[115]⟩ ⟨#[102]⟩ (-9223372036854775808) 9223372036854775807 HC6.out (by decide) (by decide) (by have := HTOT.out; omega)).mono ?_
          rintro e w7 ⟨v7, base7, rfl, hbase7, hrow7, hb7⟩
          have hwh : rng l (-9223372036854775808) 9223372036854775807 = l := by
            have h8 := rng_next l (show (-9223372036854775808 : Int) ≤ 9223372036854775807 by omega)
            rw [HLO.out, HHI.out, List.take_length] at h8
            simpa using h8
          rw [HL.out, hwh] at hrow7
          have HR7 := Lib.hid hrow7
          have HG7 := Lib.hid (row_later HG6.out hb7)
          have HC7 := Lib.hid (HC6.out.later hb7)
          clear hbase7 hrow7 hb7 hwh
          go_wp2_with fail
          refine (samePoints _ _ _ v6 v7 l HG7.out HR7.out (by have := HLEN.out; omega)).mono ?_
          rintro e w8 ⟨rfl, hb8⟩
          have HC8 := Lib.hid (HC7.out.later hb8)
          obtain ⟨a6, c6, hv6⟩ := row_form HG6.out
          obtain ⟨ln, hln⟩ : ∃ n, l.length = n := ⟨_, rfl⟩
          rw [hln] at hv6
          subst hv6
          have HLN := Lib.hid hln
          clear hb8 hln
          go_wp2_with fail
          refine (size_st _ HC8.out).mono ?_
          rw [HTL.out, HLN.out]
          rintro e w9 ⟨rfl, rfl⟩
          go_wp2_with fail
          go_ret
          exact ⟨rfl, HC8.out.below⟩
end Go.Proofs.Ytfhdaihladgchaa
