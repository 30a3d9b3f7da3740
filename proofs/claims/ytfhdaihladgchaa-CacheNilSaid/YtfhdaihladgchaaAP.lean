/- The law CachePlays: the cache and the document's table, played side by side, say the same. No condition. -/
import Derived.Test.YtfhdaihladgchaaAO
import Derived.Test.YtfhdaihladgchaaP
namespace Go.Proofs.Ytfhdaihladgchaa
open Go.RowKit Go.WideMaps Go.Sort
theorem colsP_sorted {L : List Col} {ks : List Ky} (h : SortedKs ks) : Sorted (colsP L ks) := by
  unfold Sorted colsP
  rw [List.pairwise_map]
  exact h
theorem same_all {L : List Col} {R Ro : List RC} {ks : List Ky} (hl : Like L R) (hg : Good (R.map pc)) (hL : ∀ x ∈ L, x.l ≠ []) (hk : KeysOf L ks) (hs : SortedKs ks) (hm : Ro.map pc = colsP L ks) : Ro.map pc = R.map pc := by
  rw [hm]
  exact sorted_eq (colsP_sorted hs) hg.sorted (colsP_ne hk hL) (fun t ht => (hg.ok t ht).1) fun s f => by rw [colsP_pts hk, hl.1]
theorem get_same {L : List Col} {R : List RC} {s f : ByteArray} {a b : Int} (hl : Like L R) (hg : Good (R.map pc)) (hr : Rises (ptsOf (look L s f))) : rng (ptsOf (look L s f)) a b = (atL R s f).filter (inR a b) := by
  rw [rng_filter hr, at_pts hg.sorted, hl.1]
theorem op_box {x : OpX} {kb : Nat} (w' : World) (h : w'.heap[kb]? = some (opO x)) : w'.cell? ⟨kb, 0, none⟩ = some (.int .i64 x.kind) ∧ w'.cell? ⟨kb, 1, none⟩ = some (.string x.s) ∧ w'.cell? ⟨kb, 2, none⟩ = some (.string x.f) ∧ w'.cell? ⟨kb, 3, none⟩ = some (.int .i64 x.p.t) ∧ w'.cell? ⟨kb, 4, none⟩ = some (.int .i64 x.p.k) ∧ w'.cell? ⟨kb, 5, none⟩ = some (.int .u64 x.p.b) ∧ w'.cell? ⟨kb, 6, none⟩ = some (.string x.p.s) ∧ w'.cell? ⟨kb, 7, none⟩ = some (.int .i64 x.a) ∧ w'.cell? ⟨kb, 8, none⟩ = some (.int .i64 x.b) := by
  simp [World.cell?, h, opO]
def InPlays (W : World) (c r n : Nat) (most : Int) (i : Value) (wr : World) : Prop := ∃ (k : Nat) (S T : Nat → Prop) (B : Nat) (O : Option Obj) (m : Nat) (L : List Col) (R : List RC), k ≤ n ∧ k ≤ 200 ∧ i = .int .i64 k ∧ Both W wr S T B O c m L most r R most ∧ Like L R ∧ total L ≤ k
theorem columns_any {W w : World} {S T : Nat → Prop} {B : Nat} {O : Option Obj} {c m : Nat} {L : List Col} {most : Int} {r : Nat} {R : List RC} {rmost : Int} (h : Both W w S T B O c m L most r R rmost) (hl : Like L R) (ht : total L ≤ 1000000000000) : Calls Try.prog 19 #[.pointer (some ⟨c, 0, none⟩)] w fun e w' => ∃ v Ro, e = .returned v ∧ Ro.map pc = R.map pc ∧ w'.ownsRow w.heap.size 55 3 v Ro.length (rcC Ro) ∧ ColsOwn w Ro w' ∧ Below w.heap.size w w' := by
  refine (columnsC w S c m L most _ h.ca ht).mono ?_
  rintro e w' ⟨v, Ro, ks, he, hk, hs, hm, hr, ho, hb⟩
  exact ⟨v, Ro, he, same_all hl h.good (fun x hx => (h.ca.col x hx).2.2.1) hk hs hm, hr, ho, hb⟩
theorem ref_rows {W w : World} {S T : Nat → Prop} {B : Nat} {O : Option Obj} {c m : Nat} {L : List Col} {most : Int} {r : Nat} {R : List RC} {rmost : Int} (h : Both W w S T B O c m L most r R rmost) : (∃ v, w.heap[r]? = some (.cells #[v, .int .i64 rmost] 50 (0, 0)) ∧ w.ownsRow 0 55 3 v R.length (rcC R)) ∧ ∀ x ∈ R, w.ownsRow 0 33 4 x.v x.l.length (ptC x.l) := by
  obtain ⟨v, h1, h2, _⟩ := h.re.blk
  exact ⟨⟨v, h1, h2⟩, h.re.col⟩
theorem pts_small {R : List RC} {N : Nat} (h : rtot R ≤ N) : ∀ y ∈ R, y.l.length ≤ N := fun y hy => by
  obtain ⟨k, hk⟩ := List.getElem?_of_mem hy
  have h1 := rtot_take R k y hk
  have h2 := rtot_le R (k + 1)
  omega
set_option maxHeartbeats 4000000 in
set_option maxRecDepth 100000 in
theorem cachePlays_walk (H : Type) (enc : TypeId × Value → H) (W : World) (base : Nat) (v0 v1 : Value) (d0 d1 : DataW H) (p0 p1 : List MemPlace) (h0 : DataW.Trod enc Try.prog W 0 (fun _ => true) true 3 v0 d0 p0) (o0 : Value.okWide Try.prog W .any base 3 v0) (h1 : DataW.Trod enc Try.prog W 0 (fun _ => true) true 39 v1 d1 p1) (o1 : Value.okWide Try.prog W .any base 39 v1) :
    Calls Try.prog 6 #[v0, v1] W fun e w' => e = .returned (.bool true) ∧ Below W.heap.size W w' := by
  obtain ⟨mo, rfl⟩ : ∃ z, v0 = .int .i64 z := by
    obtain ⟨fuel, hf⟩ := h0
    obtain ⟨z, hz, _, hw⟩ := DataW.trod_int Try.underlying3 hf
    refine ⟨z, ?_⟩
    simp only [Value.okWide, Try.underlying3, Cell.okWide] at o0
    cases v0 <;> simp_all [Value.cells, Cell.ok]
  obtain ⟨a, len, cap, X, rfl, hlc, hlm, hat⟩ := ops_open h1 o1
  have HAT := Lib.hid hat
  unfold maxLen at hlm
  clear h0 o0 h1 o1 hat hlc
  go_enter Try.func6, Try.ntmps6
  go_wp2_with fail
  refine (awake W).mono ?_
  rintro e w1 ⟨rfl, hb1⟩
  have HB1 := Lib.hid hb1
  clear hb1
  go_wp2_with fail
  refine (new mo w1).mono ?_
  rintro e w2 ⟨rfl, hc2, hb2, hs2⟩
  have HC2 := Lib.hid (CIn.new HB1.out hc2 hb2 hs2)
  clear hc2 hb2 hs2
  obtain ⟨c, hc⟩ : ∃ c, w1.heap.size + 1 = c := ⟨_, rfl⟩
  rw [hc] at HC2 ⊢
  clear hc
  go_wp2_with fail
  refine (refNew mo w2).mono ?_
  rintro e w3 ⟨rfl, hr3, hb3, hs3⟩
  obtain ⟨S3, T3, B3, O3, m3, hb3'⟩ := both_new HC2.out hr3 rfl hb3 hs3
  obtain ⟨r, hr⟩ : ∃ r, w2.heap.size = r := ⟨_, rfl⟩
  obtain ⟨mx, hmx⟩ : ∃ z, max mo 0 = z := ⟨_, rfl⟩
  rw [hr, hmx] at hb3'
  rw [hr]
  have HB3 := Lib.hid hb3'
  clear hr3 hb3 hs3 hb3' hr hmx
  go_wp2_with fail
  go_loopw [17] (fun i wr => InPlays W c r len mx i wr) (fun i _ => len - (intOf i).toNat)
  case atStart => exact ⟨0, S3, T3, B3, O3, m3, [], [], Nat.zero_le _, by omega, rfl, HB3.out, like_nil, Nat.le_refl _⟩
  case round =>
    obtain ⟨k, S, T, B, O, m, L, R, hkl, hk2, rfl, hbo, hlk, htot⟩ := hrel
    have HBO := Lib.hid hbo
    have HLK := Lib.hid hlk
    have HTOT := Lib.hid htot
    clear hbo hlk htot HB3 HC2
    by_cases hlt : k < len
    · obtain ⟨b, rfl, hlies, hok⟩ := HAT.out k hlt
      obtain ⟨b', hb', hlies0, _⟩ := HAT.out 0 (by omega)
      injection hb' with hb'
      subst hb'
      have hsp := lies_spot (by simpa [opV] using hlies0)
      obtain ⟨bb, off, spot⟩ := b
      simp only at hsp
      subst hsp
      obtain ⟨x, hx⟩ : ∃ x, X k = x := ⟨_, rfl⟩
      rw [hx] at hlies hok
      have HOK := Lib.hid hok
      obtain ⟨q0, q1, q2, q3, q4, q5, q6, q7, q8⟩ := op_cells hlies HBO.out.below
      have hik : ((off + k * 9 : Nat) : Int) = off + k * 9 := by omega
      have hbx := HBO.out.boxed (opO x)
      have hX : BothX (wr.heap.size, opO x) W (wr.alloc (opO x)) S T wr.heap.size (some (opO x)) c m L mx r R mx := ⟨hbx, hbx.box _ rfl⟩
      obtain ⟨w1, hw1⟩ : ∃ w1, wr.alloc (opO x) = w1 := ⟨_, rfl⟩
      obtain ⟨kb, hkb⟩ : ∃ kb, wr.heap.size = kb := ⟨_, rfl⟩
      rw [hw1, hkb] at hX
      have HX := Lib.hid hX
      have e9 := op_box w1 hX.x.1
      unfold opO at hw1
      obtain ⟨e0, e1, e2, e3, e4, e5, e6, e7, e8⟩ := e9
      clear hlies hlies0 hok hx hik hbx hX
      by_cases h200 : k < 200
      · skip
        have HK2 := Lib.hid hk2
        have HTL := Lib.hid (show total L ≤ 1000000000000 by have := HTOT.out; omega)
        have HTP := Lib.hid (show totP (R.map pc) ≤ 1000000000000 by rw [← HLK.out.2]; exact HTL.out)
        clear hk2
        go_wp2_with fail
        clear hw1 hkb q0 q1 q2 q3 q4 q5 q6 q7 q8
        go_region_held3 (fun w' => w'.cell? ⟨kb, 0, none⟩ = some (.int .i64 x.kind) ∧ w'.cell? ⟨kb, 1, none⟩ = some (.string x.s) ∧ w'.cell? ⟨kb, 2, none⟩ = some (.string x.f) ∧ w'.cell? ⟨kb, 3, none⟩ = some (.int .i64 x.p.t) ∧ w'.cell? ⟨kb, 4, none⟩ = some (.int .i64 x.p.k) ∧ w'.cell? ⟨kb, 5, none⟩ = some (.int .u64 x.p.b) ∧ w'.cell? ⟨kb, 6, none⟩ = some (.string x.p.s) ∧ w'.cell? ⟨kb, 7, none⟩ = some (.int .i64 x.a) ∧ w'.cell? ⟨kb, 8, none⟩ = some (.int .i64 x.b)) (first | exact op_box _ HB7.out.x.1 | exact op_box _ HB6.out.x.1 | exact op_box _ HB5.out.x.1 | exact op_box _ HB4.out.x.1 | exact op_box _ HX.out.drew.x.1 | go_keep)
          (first
            | (go_at_call 14; refine (xplay_any HX.out.drew x HOK.out HTL.out HTP.out).mono ?_; rintro e w4 ⟨pb, S4, T4, B4, O4, m4, L4, R4, rfl, hb4, hlk4, ht4, _, _⟩; obtain ⟨rfl, hlk5⟩ := hlk4 HLK.out rfl; have HB4 := Lib.hid hb4; have HLK4 := Lib.hid hlk5; have HT4 := Lib.hid (show total L4 ≤ k + 1 by have := HTOT.out; omega); obtain ⟨tt, htt⟩ : ∃ t, total L4 = t := ⟨_, rfl⟩; have HTT := Lib.hid htt; have HRT := Lib.hid (show rtot R4 = tt by rw [rtot_pc, ← hlk5.2, htt]); have HT9 := Lib.hid (show total L4 ≤ 1000000000000 by have := HTOT.out; omega); have HR9 := Lib.hid (show rtot R4 ≤ 1000000000000 by rw [rtot_pc, ← hlk5.2]; exact HT9.out); have HRL := Lib.hid (show R4.length ≤ 1000000000000 from Nat.le_trans (both_len hb4.both) (by rw [← hlk5.2]; exact HT9.out)); have HRI := Lib.hid (valOf_row hb4.ca x.s x.f).2; have HPL := Lib.hid (Nat.le_trans (len_le hb4.ca x.s x.f) HT9.out); clear hlk4 hlk5 ht4 hb4 htt)
            | (go_at_call 13; refine (sizeC _ S4 c m4 L4 mx _ HB4.out.ca).mono ?_; rw [HTT.out]; rintro e w5 ⟨rfl, rfl⟩)
            | (go_at_call 16; refine (refSize _ T4 r R4 mx HB4.out.re HR9.out HRL.out).mono ?_; rw [HRT.out]; rintro e w5 ⟨rfl, rfl⟩)
            | (go_at_call 11; refine (getC _ S4 c m4 L4 mx _ x.s x.f x.a x.b HB4.out.ca HOK.out.1 HOK.out.2.1 HPL.out).mono ?_; rintro e w5 ⟨v5, b5, rfl, _, hr5, hb5⟩; have HR5 := Lib.hid hr5; have HB5 := Lib.hid (HB4.out.later hb5); clear hr5 hb5)
            | (go_at_call 17; refine (refGet _ T4 r R4 mx x.s x.f x.a x.b HB5.out.re HRL.out (by rw [at_pts HB5.out.good.sorted, ← HLK4.out.1]; exact HPL.out)).mono ?_; rintro e w6 ⟨v6, b6, rfl, _, hr6, hb6⟩; rw [← get_same HLK4.out HB5.out.good HRI.out] at hr6; have HR6 := Lib.hid hr6; have HR56 := Lib.hid (row_later HR5.out hb6); have HB6 := Lib.hid (HB5.out.later hb6); clear hr6 hb6)
            | (go_at_call 12; refine (samePoints _ _ _ _ _ _ HR56.out HR6.out (by rw [rng_filter HRI.out]; exact Nat.le_trans (List.length_filter_le _ _) HPL.out)).mono ?_; rintro e w7 ⟨rfl, hb7⟩; have HB7 := Lib.hid (HB6.out.later hb7); clear hb7))
        go_wp2_with fail
        go_roundw
        case rel => exact ⟨k + 1, S4, T4, B4, O4, m4, L4, R4, by omega, by omega, by go_num, HB7.out.both, HLK4.out, HT4.out⟩
        case measure => simp [intOf]; omega
      · have HK2 := Lib.hid hk2
        have hge : 200 ≤ k := by omega
        clear hk2 h200
        have HE := Lib.hid HX.out.both
        go_wp2_with fail
        obtain ⟨⟨v, hv1, hv2⟩, hv3⟩ := ref_rows HE.out
        obtain ⟨va, vc, rfl⟩ := row55_form hv2
        have HS := Lib.hid (fun (w' : World) (hb : Below w1.heap.size w1 w') => (by simp [World.cell?, (hb.block r (heap_lt hv1)).trans hv1] : w'.cell? ⟨r, 0, none⟩ = some (.slice va R.length vc)))
        have HV2 := Lib.hid hv2
        have HV3 := Lib.hid hv3
        have HTL := Lib.hid (show total L ≤ 1000000000000 by have := HTOT.out; have := HK2.out; omega)
        have HRT := Lib.hid (show rtot R ≤ 1000000000000 by rw [rtot_pc, ← HLK.out.2]; exact HTL.out)
        have HRL := Lib.hid (show R.length ≤ 1000000000000 from Nat.le_trans (both_len HE.out) (by rw [← HLK.out.2]; exact HTL.out))
        clear hv1 hv2 hv3
        go_region_held3 (fun w' => w'.cell? ⟨r, 0, none⟩ = some (.slice va R.length vc)) (first | exact HS.out _ HC5.out | exact HS.out _ HC4.out | exact HS.out _ ((Below.refl _ _).drew) | go_keep)
          (first
            | (go_at_call 19; refine (columns_any HE.out.drew HLK.out HTL.out).mono ?_; rintro e w4 ⟨v4, Ro, rfl, hm4, hr4, ho4, hb4⟩; have HC4 := Lib.hid (((Below.refl w1.heap.size w1).drew).trans hb4); have HM4 := Lib.hid hm4; have HR4 := Lib.hid hr4; have HO4 := Lib.hid ho4; clear hm4 hr4 ho4 hb4)
            | (go_at_call 18; refine (sameCols _ _ 0 _ _ Ro R HR4.out (row55_later HV2.out HC4.out) HM4.out (fun y hy => row_lower (HO4.out y hy) (Nat.zero_le _)) (fun y hy => row_later (HV3.out y hy) HC4.out) (by have h9 := congrArg List.length HM4.out; simp only [List.length_map] at h9; rw [h9]; exact HRL.out) (pts_small (by rw [rtot_pc, HM4.out, ← rtot_pc]; exact HRT.out))).mono ?_; rintro e w5 ⟨rfl, hb5⟩; have HC5 := Lib.hid (HC4.out.trans (hb5.mono HC4.out.size)); clear hb5))
        go_wp2_with fail
        go_ret
        exact ⟨rfl, HE.out.below.trans (HC5.out.mono HE.out.below.size)⟩
    · have HK2 := Lib.hid hk2
      clear hk2
      go_wp2_with fail
      obtain ⟨⟨v, hv1, hv2⟩, hv3⟩ := ref_rows HBO.out
      obtain ⟨va, vc, rfl⟩ := row55_form hv2
      have HS := Lib.hid (fun (w' : World) (hb : Below wr.heap.size wr w') => (by simp [World.cell?, (hb.block r (heap_lt hv1)).trans hv1] : w'.cell? ⟨r, 0, none⟩ = some (.slice va R.length vc)))
      have HV2 := Lib.hid hv2
      have HV3 := Lib.hid hv3
      have HTL := Lib.hid (show total L ≤ 1000000000000 by have := HTOT.out; have := HK2.out; omega)
      have HRT := Lib.hid (show rtot R ≤ 1000000000000 by rw [rtot_pc, ← HLK.out.2]; exact HTL.out)
      have HRL := Lib.hid (show R.length ≤ 1000000000000 from Nat.le_trans (both_len HBO.out) (by rw [← HLK.out.2]; exact HTL.out))
      clear hv1 hv2 hv3
      go_region_held3 (fun w' => w'.cell? ⟨r, 0, none⟩ = some (.slice va R.length vc)) (first | exact HS.out _ HC5.out | exact HS.out _ HC4.out | exact HS.out _ ((Below.refl _ _).drew) | go_keep)
        (first
          | (go_at_call 19; refine (columns_any HBO.out.drew HLK.out HTL.out).mono ?_; rintro e w4 ⟨v4, Ro, rfl, hm4, hr4, ho4, hb4⟩; have HC4 := Lib.hid (((Below.refl wr.heap.size wr).drew).trans hb4); have HM4 := Lib.hid hm4; have HR4 := Lib.hid hr4; have HO4 := Lib.hid ho4; clear hm4 hr4 ho4 hb4)
          | (go_at_call 18; refine (sameCols _ _ 0 _ _ Ro R HR4.out (row55_later HV2.out HC4.out) HM4.out (fun y hy => row_lower (HO4.out y hy) (Nat.zero_le _)) (fun y hy => row_later (HV3.out y hy) HC4.out) (by have h9 := congrArg List.length HM4.out; simp only [List.length_map] at h9; rw [h9]; exact HRL.out) (pts_small (by rw [rtot_pc, HM4.out, ← rtot_pc]; exact HRT.out))).mono ?_; rintro e w5 ⟨rfl, hb5⟩; have HC5 := Lib.hid (HC4.out.trans (hb5.mono HC4.out.size)); clear hb5))
      go_wp2_with fail
      go_ret
      exact ⟨rfl, HBO.out.below.trans (HC5.out.mono HBO.out.below.size)⟩
end Go.Proofs.Ytfhdaihladgchaa
