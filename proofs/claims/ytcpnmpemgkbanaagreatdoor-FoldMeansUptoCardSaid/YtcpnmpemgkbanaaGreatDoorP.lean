/- The walk of Same, and of FoldFills. Condition: the table of blanks is as the text lays it; the input's reach. -/
import Derived.Test.YtcpnmpemgkbanaaGreatDoorO
namespace Go.Proofs.YtcpnmpemgkbanaaGreatDoor
open Go.RowKit Go.Sort Go.WideShapes Go.ChangeShapes Go.Deep Go.Joins
set_option maxRecDepth 100000 in
theorem same13 (w : World) (v1 v2 : Value) (n : Nat) (f : Nat → V3) (h1 : RowV w v1 n f) (h2 : RowV w v2 n f) (hn : n ≤ 9223372036854775806) :
    Calls Tryz.prog 13 #[v1, v2] w fun e w' => e = .returned (.bool true) ∧ ∃ q, w' = w.drewN q := by
  obtain ⟨a1, c1, rfl, h1⟩ := h1
  obtain ⟨a2, c2, rfl, h2⟩ := h2
  have H1 := Lib.hid h1
  have H2 := Lib.hid h2
  clear h1 h2
  go_enter Tryz.func13, Tryz.ntmps13
  go_wp2_with fail
  go_loopw [13] (fun i wr => ∃ k q : Nat, k ≤ n ∧ i = .int .i64 k ∧ wr = w.drewN q) (fun i _ => n - (intOf i).toNat)
  case atStart => exact ⟨0, 0, Nat.zero_le _, rfl, rfl⟩
  case round =>
    obtain ⟨k, q, hk, rfl, rfl⟩ := hrel
    by_cases hlt : k < n
    · obtain ⟨g1, o1, rfl, hb1, e1, e2, e3⟩ := H1.out k hlt
      obtain ⟨g2, o2, rfl, hb2, e4, e5, e6⟩ := H2.out k hlt
      obtain ⟨X, hX⟩ : ∃ X, f k = X := ⟨_, rfl⟩
      rw [hX] at e1 e2 e3 e4 e5 e6
      clear hX
      go_wp2_with fail
      go_quiet (fail)
      go_wp2_with fail
      refine ⟨⟨k + 1, _, by omega, by go_num, rfl⟩, by simp [intOf]; omega⟩
    · go_wp2_with fail
      go_ret
      exact ⟨rfl, _, rfl⟩
structure In5 (W : World) (num : V3) (wr : World) : Prop where
  box : wr.heap[W.heap.size]? = some (.cells #[.int .i64 num.k, .int .u64 num.b, .string num.t] 27 (0, 0))
  below : Below W.heap.size W wr
theorem In5.later {W w w' : World} {num : V3} (h : In5 W num w) (hb : Below w.heap.size w w') : In5 W num w' :=
  ⟨(hb.block _ (heap_lt h.box)).trans h.box, h.below.trans (hb.mono h.below.size)⟩
set_option maxRecDepth 100000 in
set_option maxHeartbeats 2000000 in
theorem foldFills_walk (H : Type) (enc : TypeId × Value → H) (W : World) (base : Nat) (v0 v1 v2 v3 : Value) (d0 d1 d2 d3 : DataW H) (p0 p1 p2 p3 : List MemPlace)
    (h0 : DataW.Trod enc Tryz.prog W 0 (fun _ => true) true 3 v0 d0 p0) (o0 : Value.okWide Tryz.prog W .any base 3 v0) (h1 : DataW.Trod enc Tryz.prog W 0 (fun _ => true) true 27 v1 d1 p1) (o1 : Value.okWide Tryz.prog W .any base 27 v1)
    (h2 : DataW.Trod enc Tryz.prog W 0 (fun _ => true) true 24 v2 d2 p2) (o2 : Value.okWide Tryz.prog W .any base 24 v2) (h3 : DataW.Trod enc Tryz.prog W 0 (fun _ => true) true 38 v3 d3 p3) (o3 : Value.okWide Tryz.prog W .any base 38 v3)
    (hsz : (DataW.weightsEach Tryz.prog [3, 27, 24, 38] [d0, d1, d2, d3]).all (· ≤ reachBytes) = true) (hL : laidMetH Tryz.prog Laid.lst W) :
    Calls Tryz.prog 5 #[v0, v1, v2, v3] W fun e w' => e = .returned (.bool true) ∧ Below W.heap.size W w' := by
  obtain ⟨kind, rfl, rfl, rfl, wf0⟩ := open_int Tryz.underlying3 o0 h0
  obtain ⟨c0, c1, c2, y0, y1, y2, nn, rfl, rfl, rfl, e0, e1, e2⟩ := open_agg3 Tryz.underlying27 (by kernel_rfl) cells27 o1 h1
  obtain ⟨z, g1, _, g3⟩ := DataW.trod_int Tryz.underlying3 e0
  obtain ⟨u, g4, _, g5⟩ := DataW.trod_int Tryz.underlying25 e1
  obtain ⟨t, g6, _⟩ := DataW.trod_string Tryz.underlying9 e2
  simp only [List.cons.injEq, and_true] at g1 g4 g6
  subst g1 g4 g6
  obtain ⟨nl, l, hl, hnl⟩ := vals_open h2 o2 (j := 2) rfl rfl hsz
  obtain ⟨nt, th, ht, hnt⟩ := bools_open h3 o3
  obtain ⟨num, hnum⟩ : ∃ num : V3, num = ⟨z, u, t⟩ := ⟨_, rfl⟩
  have q1 : z = num.k := by rw [hnum]
  have q2 : u = num.b := by rw [hnum]
  have q3 : t = num.t := by rw [hnum]
  subst q1 q2 q3
  have hnt2 : nt ≤ 9223372036854775807 := by unfold maxLen at hnt; omega
  have HL := Lib.hid hl
  have HT := Lib.hid ht
  have HAW := Lib.hid (awake8 (W.alloc (.cells #[.int .i64 num.k, .int .u64 num.b, .string num.t] 27)) (Lib.tabIs_alloc (Laid.space hL) _))
  have HBX := Lib.hid (show In5 W num (W.alloc (.cells #[.int .i64 num.k, .int .u64 num.b, .string num.t] 27)) from ⟨heap_alloc_new W _, (Below.refl _ _).alloc (Nat.le_refl _) _⟩)
  obtain ⟨nn2, hnn2⟩ : ∃ nn2, min nl nt = nn2 := ⟨_, rfl⟩
  have hnn3 : nn2 ≤ nl ∧ nn2 ≤ nt := by omega
  have HNN := Lib.hid hnn2
  clear h0 o0 h1 o1 h2 o2 h3 o3 hsz hL wf0 g3 g5 e0 e1 e2 hnum hl ht hnt hnn2
  go_enter Tryz.func5, Tryz.ntmps5
  go_wp2_with fail
  refine HAW.out.mono ?_
  rintro e w1 ⟨rfl, hb1⟩
  have HB1 := Lib.hid (HBX.out.later hb1)
  clear hb1 HBX HAW
  go_wp2_with fail
  go_loopw [18] (fun i wr => ∃ k : Nat, k ≤ 6 ∧ i = .int .i64 k ∧ In5 W num wr) (fun i _ => 6 - (intOf i).toNat)
  case atStart => exact ⟨0, by omega, rfl, HB1.out⟩
  case round =>
    obtain ⟨k, hk, rfl, hA⟩ := hrel
    have HA := Lib.hid hA
    have dx0 : wr.cell? ⟨W.heap.size, 0, none⟩ = some (.int .i64 num.k) := by simp [World.cell?, hA.box]
    have dx1 : wr.cell? ⟨W.heap.size, 1, none⟩ = some (.int .u64 num.b) := by simp [World.cell?, hA.box]
    have dx2 : wr.cell? ⟨W.heap.size, 2, none⟩ = some (.string num.t) := by simp [World.cell?, hA.box]
    by_cases hlt : k < 6
    · obtain ⟨kk, hkk⟩ : ∃ kk : Int, kk = if k = 5 then kind else (k : Int) := ⟨_, rfl⟩
      have HF1 := Lib.hid (fill11 wr kk num v2 v3 nl nt l th (HL.out.later HA.out.below) (HT.out.later HA.out.below) hnl hnt2)
      unfold V3.agg at HF1
      by_cases h5 : k = 5
      · have hk5 : ((k : Int) == 5) = true := by simp; omega
        rw [if_pos h5] at hkk
        subst hkk
        clear h5 hA
        go_wp2_with fail
        refine HF1.out.mono ?_
        rintro e w2 ⟨a1, b1, rfl, hr1, hq1, hb2⟩
        rw [HNN.out] at hr1 hq1
        have HA2 := Lib.hid (HA.out.later hb2)
        have ey0 : w2.cell? ⟨W.heap.size, 0, none⟩ = some (.int .i64 num.k) := by simp [World.cell?, HA2.out.box]
        have ey1 : w2.cell? ⟨W.heap.size, 1, none⟩ = some (.int .u64 num.b) := by simp [World.cell?, HA2.out.box]
        have ey2 : w2.cell? ⟨W.heap.size, 2, none⟩ = some (.string num.t) := by simp [World.cell?, HA2.out.box]
        have HR1 := Lib.hid hr1
        have HQ1 := Lib.hid hq1
        clear hb2 hr1 hq1 dx0 dx1 dx2
        go_wp2_with fail
        have HF2 := fill12 w2 kk num v2 v3 nl nt l th (HL.out.later HA2.out.below) (HT.out.later HA2.out.below) hnl hnt2
        unfold V3.agg at HF2
        refine HF2.mono ?_
        clear HF2
        rintro e w3 ⟨a2, b2, rfl, hr2, hq2, hb3⟩
        rw [HNN.out] at hr2 hq2
        have HA3 := Lib.hid (HA2.out.later hb3)
        have hr1 := HR1.out.later hb3
        have hq1 := HQ1.out.later hb3
        have HL3 := Lib.hid (HL.out.later HA3.out.below)
        have HT3 := Lib.hid (HT.out.later HA3.out.below)
        clear hb3 ey0 ey1 ey2
        go_wp2_with fail
        refine (same13 w3 a1 a2 nn2 _ hr1 hr2 (by omega)).mono ?_
        rintro e w4 ⟨rfl, q0, rfl⟩
        obtain ⟨xb, cb, rfl, hq1⟩ := hq1
        obtain ⟨yb, db, rfl, hq2⟩ := hq2
        obtain ⟨xa, ca, rfl, hr1⟩ := hr1
        obtain ⟨xl, cl, hvl, hl3⟩ := HL3.out
        obtain ⟨xt, ct, hvt, ht3⟩ := HT3.out
        subst hvl hvt
        have HQ1 := Lib.hid hq1
        have HQ2 := Lib.hid hq2
        have HR1 := Lib.hid hr1
        have HL4 := Lib.hid hl3
        have HT4 := Lib.hid ht3
        clear hq1 hq2 hr1 hr2 hl3 ht3 HL3 HT3
        go_wp2_with fail
        go_loopw [54] (fun i wr => ∃ j q : Nat, j ≤ nn2 ∧ i = .int .i64 j ∧ wr = w3.drewN q) (fun i _ => nn2 - (intOf i).toNat)
        case atStart => exact ⟨0, _, Nat.zero_le _, rfl, rfl⟩
        case round =>
          obtain ⟨j, q, hj, rfl, rfl⟩ := hrel
          by_cases hlt2 : j < nn2
          · obtain ⟨g1, o1, rfl, _, e1⟩ := HQ1.out j hlt2
            obtain ⟨g2, o2, rfl, _, e2⟩ := HQ2.out j hlt2
            obtain ⟨g3, o3, rfl, _, e3, e4, e5⟩ := HR1.out j hlt2
            obtain ⟨g4, o4, rfl, _, e6, e7, e8⟩ := HL4.out j (by omega)
            obtain ⟨g5, o5, rfl, _, e9⟩ := HT4.out j (by omega)
            cases hth : th j with
            | true =>
              rw [fillL_th hth] at e1 e2 e3 e4 e5
              rw [hth] at e9
              obtain ⟨X, hX⟩ : ∃ X, l j = X := ⟨_, rfl⟩
              rw [hX] at e3 e4 e5 e6 e7 e8
              clear hth hX
              go_wp2_with fail
              go_quiet (fail)
              go_wp2_with fail
              refine ⟨⟨j + 1, _, by omega, by go_num, rfl⟩, by simp [intOf]; omega⟩
            | false =>
              rw [hth] at e9
              obtain ⟨⟨X, bb⟩, hX⟩ : ∃ X, fillL kk num l th j = X := ⟨_, rfl⟩
              rw [hX] at e1 e2 e3 e4 e5
              clear hth hX
              go_wp2_with fail
              go_quiet (fail)
              go_wp2_with fail
              refine ⟨⟨j + 1, _, by omega, by go_num, rfl⟩, by simp [intOf]; omega⟩
          · go_wp2_with fail
            go_roundw
            case rel => exact ⟨k + 1, by omega, by go_num, HA3.out.later ⟨rfl, rfl, rfl, Nat.le_refl _, fun _ _ => rfl⟩⟩
            case measure => simp [intOf]; omega
      · have hk5 : ((k : Int) == 5) = false := by simp; omega
        rw [if_neg h5] at hkk
        have HKK := Lib.hid hkk
        rw [hkk] at HF1
        clear h5 hA hkk
        go_wp2_with fail
        refine HF1.out.mono ?_
        rintro e w2 ⟨a1, b1, rfl, hr1, hq1, hb2⟩
        rw [HNN.out] at hr1 hq1
        have HA2 := Lib.hid (HA.out.later hb2)
        have ey0 : w2.cell? ⟨W.heap.size, 0, none⟩ = some (.int .i64 num.k) := by simp [World.cell?, HA2.out.box]
        have ey1 : w2.cell? ⟨W.heap.size, 1, none⟩ = some (.int .u64 num.b) := by simp [World.cell?, HA2.out.box]
        have ey2 : w2.cell? ⟨W.heap.size, 2, none⟩ = some (.string num.t) := by simp [World.cell?, HA2.out.box]
        have HR1 := Lib.hid hr1
        have HQ1 := Lib.hid hq1
        clear hb2 hr1 hq1 dx0 dx1 dx2
        go_wp2_with fail
        have HF2 := fill12 w2 (k : Int) num v2 v3 nl nt l th (HL.out.later HA2.out.below) (HT.out.later HA2.out.below) hnl hnt2
        unfold V3.agg at HF2
        refine HF2.mono ?_
        clear HF2
        rintro e w3 ⟨a2, b2, rfl, hr2, hq2, hb3⟩
        rw [HNN.out] at hr2 hq2
        have HA3 := Lib.hid (HA2.out.later hb3)
        have hr1 := HR1.out.later hb3
        have hq1 := HQ1.out.later hb3
        have HL3 := Lib.hid (HL.out.later HA3.out.below)
        have HT3 := Lib.hid (HT.out.later HA3.out.below)
        clear hb3 ey0 ey1 ey2
        go_wp2_with fail
        refine (same13 w3 a1 a2 nn2 _ hr1 hr2 (by omega)).mono ?_
        rintro e w4 ⟨rfl, q0, rfl⟩
        obtain ⟨xb, cb, rfl, hq1⟩ := hq1
        obtain ⟨yb, db, rfl, hq2⟩ := hq2
        obtain ⟨xa, ca, rfl, hr1⟩ := hr1
        obtain ⟨xl, cl, hvl, hl3⟩ := HL3.out
        obtain ⟨xt, ct, hvt, ht3⟩ := HT3.out
        subst hvl hvt
        have HQ1 := Lib.hid hq1
        have HQ2 := Lib.hid hq2
        have HR1 := Lib.hid hr1
        have HL4 := Lib.hid hl3
        have HT4 := Lib.hid ht3
        clear hq1 hq2 hr1 hr2 hl3 ht3 HL3 HT3
        go_wp2_with fail
        go_loopw [54] (fun i wr => ∃ j q : Nat, j ≤ nn2 ∧ i = .int .i64 j ∧ wr = w3.drewN q) (fun i _ => nn2 - (intOf i).toNat)
        case atStart => exact ⟨0, _, Nat.zero_le _, rfl, rfl⟩
        case round =>
          obtain ⟨j, q, hj, rfl, rfl⟩ := hrel
          by_cases hlt2 : j < nn2
          · obtain ⟨g1, o1, rfl, _, e1⟩ := HQ1.out j hlt2
            obtain ⟨g2, o2, rfl, _, e2⟩ := HQ2.out j hlt2
            obtain ⟨g3, o3, rfl, _, e3, e4, e5⟩ := HR1.out j hlt2
            obtain ⟨g4, o4, rfl, _, e6, e7, e8⟩ := HL4.out j (by omega)
            obtain ⟨g5, o5, rfl, _, e9⟩ := HT4.out j (by omega)
            cases hth : th j with
            | true =>
              rw [fillL_th hth] at e1 e2 e3 e4 e5
              rw [hth] at e9
              obtain ⟨X, hX⟩ : ∃ X, l j = X := ⟨_, rfl⟩
              rw [hX] at e3 e4 e5 e6 e7 e8
              clear hth hX
              go_wp2_with fail
              go_quiet (fail)
              go_wp2_with fail
              refine ⟨⟨j + 1, _, by omega, by go_num, rfl⟩, by simp [intOf]; omega⟩
            | false =>
              rw [hth] at e9
              obtain ⟨⟨X, bb⟩, hX⟩ : ∃ X, fillL (k : Int) num l th j = X := ⟨_, rfl⟩
              rw [hX] at e1 e2 e3 e4 e5
              clear hth hX
              go_wp2_with fail
              go_quiet (fail)
              go_wp2_with fail
              refine ⟨⟨j + 1, _, by omega, by go_num, rfl⟩, by simp [intOf]; omega⟩
          · go_wp2_with fail
            go_roundw
            case rel => exact ⟨k + 1, by omega, by go_num, HA3.out.later ⟨rfl, rfl, rfl, Nat.le_refl _, fun _ _ => rfl⟩⟩
            case measure => simp [intOf]; omega
    · go_wp2_with fail
      go_ret
      exact ⟨rfl, HA.out.below⟩
end Go.Proofs.YtcpnmpemgkbanaaGreatDoor
