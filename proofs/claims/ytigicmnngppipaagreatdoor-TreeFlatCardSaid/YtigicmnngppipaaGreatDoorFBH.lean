/- Several texts of this proof, laid together. Conditions: as each says. -/
import Derived.Test.YtigicmnngppipaaGreatDoorFBG
import Derived.Deep.WholeRow
/- Conditions that hold the same are the same. No condition. -/
namespace Go.Proofs.YtigicmnngppipaaGreatDoor.Tp
open Go.RowKit Lx
set_option maxRecDepth 100000
abbrev AllB : Nat → Prop := fun _ => True
theorem CdsIs.later {w w' : World} {v : Value} {cs : List Cd} (h : CdsIs w AllB v cs) (hb : Below w.heap.size w w') : CdsIs w' AllB v cs := h.keep fun k _ hl => ⟨hb.block k hl, trivial⟩
/-- What a row's k-th condition reads. -/
theorem cd_cells {w wr : World} {g cap k : Nat} {cs : List Cd} {zs : List (Cd × Value)} (hz : zs.map (·.1) = cs) (hown : w.ownsRow 0 51 7 (.slice (some ⟨g, 0, none⟩) cs.length cap) cs.length (flatCells zs)) (hk : k < cs.length) (hb : Below w.heap.size w wr) :
    ∃ z, zs[k]? = some z ∧ cs[k]? = some z.1 ∧ g < w.heap.size ∧ ∀ j v, (cdCells z.1 z.2)[j]? = some v → wr.cell? ⟨g, k * 7 + j, none⟩ = some v := by
  have hkz : k < zs.length := by rw [zs_len hz]; exact hk
  refine ⟨zs[k], List.getElem?_eq_getElem hkz, ?_, (hown.lt g rfl).2, fun j v hj => ?_⟩
  · rw [← hz, List.getElem?_map, List.getElem?_eq_getElem hkz]; rfl
  · have hj7 : j < 7 := (List.getElem?_eq_some_iff.1 hj).1
    exact (hb.cell (p := ⟨g, k * 7 + j, none⟩) (hown.lt g rfl).2).trans ((hown.cellAt (k * 7 + j) (by have : (k + 1) * 7 ≤ cs.length * 7 := Nat.mul_le_mul_right 7 hk; omega)).trans ((flat_at zs k hkz j hj7).trans hj))
set_option maxHeartbeats 2000000 in
theorem eqf_31 (v1 v2 : Value) (cs : List Cd) (w : World) (h1 : CdsIs w AllB v1 cs) (h2 : CdsIs w AllB v2 cs)
    (hC : ∀ c ∈ cs, ∀ s1 s2 w', Below w.heap.size w w' → CdsIs w' AllB s1 c.parts → CdsIs w' AllB s2 c.parts → Calls Tryz.prog 32 #[cdV c s1, cdV c s2] w' fun e w2 => e = .returned (.bool true) ∧ Below w'.heap.size w' w2) :
    Calls Tryz.prog 31 #[v1, v2, .func (.func 32) #[] #[]] w fun e w' => e = .returned (.bool true) ∧ Below w.heap.size w w' := by
  rcases h1.row_of with ⟨rfl, rfl⟩ | ⟨g1, cap1, zs1, rfl, hz1, _, ho1, hn1, hp1⟩
  · rcases h2.row_of with ⟨rfl, _⟩ | ⟨g2, cap2, zs2, rfl, hz2, _, ho2, hn2, hp2⟩
    · clear h1 h2 hC
      go_enter Tryz.func31, Tryz.ntmps31
      go_wp2_with fail
      go_loopw [17] (fun i wr => i = .int .i64 0 ∧ Below w.heap.size w wr) (fun _ _ => 0)
      case atStart => exact ⟨rfl, Below.refl _ _⟩
      case round =>
        obtain ⟨rfl, hb⟩ := hrel
        have HB := Lib.hid hb
        clear hb
        go_wp2_with fail
        go_ret
        exact ⟨rfl, HB.out⟩
    · exact absurd hn2 (Nat.lt_irrefl 0)
  rcases h2.row_of with ⟨_, q⟩ | ⟨g2, cap2, zs2, rfl, hz2, _, ho2, hn2, hp2⟩
  · subst q; exact absurd hn1 (Nat.lt_irrefl 0)
  have HC := Lib.hid hC
  have HZ1 := Lib.hid hz1
  have HZ2 := Lib.hid hz2
  have HO1 := Lib.hid ho1
  have HO2 := Lib.hid ho2
  have HP1 := Lib.hid hp1
  have HP2 := Lib.hid hp2
  obtain ⟨n, hn⟩ : ∃ n, cs.length = n := ⟨_, rfl⟩
  have HN := Lib.hid hn
  have HL : Hid (n ≤ maxLen) := Lib.hid (by rw [← hn]; exact own_max ho1)
  rw [hn]
  clear h1 h2 hC hz1 hz2 ho1 ho2 hp1 hp2 hn1 hn2 hn
  go_enter Tryz.func31, Tryz.ntmps31
  go_wp2_with fail
  go_loopw [17] (fun i wr => ∃ k : Nat, i = .int .i64 k ∧ k ≤ n ∧ Below w.heap.size w wr) (fun i _ => n - (intOf i).toNat)
  case atStart => exact ⟨0, rfl, Nat.zero_le _, Below.refl _ _⟩
  case round =>
    obtain ⟨k, rfl, hkn, hb⟩ := hrel
    have HB := Lib.hid hb
    clear hb
    by_cases hk : k = n
    · subst hk
      clear hkn
      go_wp2_with fail
      go_ret
      exact ⟨rfl, HB.out⟩
    · have hlt : (k : Int) < (n : Int) := by omega
      have HLT : Hid (k < n) := Lib.hid (by omega)
      obtain ⟨⟨c, s1⟩, hz1, hc1, hg1, q1⟩ := cd_cells (k := k) HZ1.out HO1.out (by have := HN.out; omega) HB.out
      obtain ⟨⟨c', s2⟩, hz2, hc2, hg2, q2⟩ := cd_cells (k := k) HZ2.out HO2.out (by have := HN.out; omega) HB.out
      rw [hc1] at hc2
      obtain rfl : c = c' := Option.some.inj hc2
      have hp1 := (HP1.out _ (List.mem_of_getElem? hz1)).later HB.out
      have hp2 := (HP2.out _ (List.mem_of_getElem? hz2)).later HB.out
      have hm := List.mem_of_getElem? hc1
      obtain ⟨a1, b1, hs1⟩ := cds_slice hp1
      obtain ⟨a2, b2, hs2⟩ := cds_slice hp2
      obtain ⟨cop, cn, csg, ⟨ck, cb, ct⟩, cp⟩ := c
      simp only [Cd.parts] at hs1 hs2 hp1 hp2
      subst hs1
      subst hs2
      have hg1r := Nat.lt_of_lt_of_le hg1 HB.out.size
      have hg2r := Nat.lt_of_lt_of_le hg2 HB.out.size
      have d0 := q1 0 _ rfl
      have d1 := q1 1 _ rfl
      have d2 := q1 2 _ rfl
      have d3 := q1 3 _ rfl
      have d4 := q1 4 _ rfl
      have d5 := q1 5 _ rfl
      have d6 := q1 6 _ rfl
      have e0 := q2 0 _ rfl
      have e1 := q2 1 _ rfl
      have e2 := q2 2 _ rfl
      have e3 := q2 3 _ rfl
      have e4 := q2 4 _ rfl
      have e5 := q2 5 _ rfl
      have e6 := q2 6 _ rfl
      simp only [Cd.op, Cd.name, Cd.sign, Cd.val, Nat.add_zero] at d0 d1 d2 d3 d4 d5 d6 e0 e1 e2 e3 e4 e5 e6
      have hb1 : Below wr.heap.size wr ((wr.alloc (.cells #[.int .i64 cop, .string cn, .string csg, .int .i64 ck, .int .u64 cb, .string ct, .slice a1 cp.length b1] 51 (0, 0))).alloc (.cells #[.int .i64 cop, .string cn, .string csg, .int .i64 ck, .int .u64 cb, .string ct, .slice a2 cp.length b2] 51 (0, 0))) := ((Below.refl _ _).alloc (Nat.le_refl _) _).alloc (by rw [alloc_size]; omega) _
      have HM := Lib.hid (HC.out _ hm _ _ _ (HB.out.trans (hb1.mono HB.out.size)) (hp1.later hb1) (hp2.later hb1))
      have HB1 := Lib.hid hb1
      clear hk hkn hp1 hp2 hm hz1 hz2 hc1 hc2 q1 q2 hb1 hg1 hg2
      unfold cdV at HM
      simp only [Cd.op, Cd.name, Cd.sign, Cd.val] at HM
      go_wp2_with fail
      refine HM.out.mono ?_
      clear HM
      rintro e w2 ⟨rfl, hb2⟩
      have HB2 := Lib.hid ((HB.out.trans (HB1.out.mono HB.out.size)).trans (hb2.mono (HB.out.trans (HB1.out.mono HB.out.size)).size))
      clear hb2
      go_wp2_with fail
      have w1 : wrap64 ((k : Int) + 1) = ((k + 1 : Nat) : Int) := by have := HL.out; have := HLT.out; unfold maxLen at *; unfold wrap64; omega
      rw [w1]
      exact ⟨⟨k + 1, rfl, HLT.out, HB2.out⟩, by have := HLT.out; simp [intOf]; omega⟩
theorem part_lt {op : Int} {n s : ByteArray} {v : Val} {ps : List Cd} {c : Cd} (h : c ∈ ps) : SizeOf.sizeOf c < SizeOf.sizeOf (Cd.mk op n s v ps) := by
  have := List.sizeOf_lt_of_mem h
  simp only [Cd.mk.sizeOf_spec]
  omega
set_option maxHeartbeats 2000000 in
theorem cond_32 : ∀ (n : Nat) (c : Cd), SizeOf.sizeOf c ≤ n → ∀ (s1 s2 : Value) (w : World), CdsIs w AllB s1 c.parts → CdsIs w AllB s2 c.parts → Calls Tryz.prog 32 #[cdV c s1, cdV c s2] w fun e w' => e = .returned (.bool true) ∧ Below w.heap.size w w' := by
  intro n
  induction n with
  | zero =>
    intro c hc
    obtain ⟨cop, cn, csg, cv, cp⟩ := c
    simp at hc
  | succ n ih =>
    intro c hc s1 s2 w h1 h2
    have HM := Lib.hid (fun w2 (hb : Below w.heap.size w w2) => eqf_31 s1 s2 c.parts w2 (h1.later hb) (h2.later hb) fun c' hc' s1' s2' w3 hb3 k1 k2 => ih c' (by
      obtain ⟨cop, cn, csg, cv, cp⟩ := c
      have := part_lt (op := cop) (n := cn) (s := csg) (v := cv) (ps := cp) hc'
      omega) s1' s2' w3 k1 k2)
    obtain ⟨a1, b1, hs1⟩ := cds_slice h1
    obtain ⟨a2, b2, hs2⟩ := cds_slice h2
    obtain ⟨cop, cn, csg, ⟨ck, cb, ct⟩, cp⟩ := c
    simp only [Cd.parts] at hs1 hs2 HM
    subst hs1
    subst hs2
    clear h1 h2 ih hc
    unfold cdV
    simp only [Cd.op, Cd.name, Cd.sign, Cd.val]
    have hb1 : Below w.heap.size w ((w.alloc (.cells #[.int .i64 cop, .string cn, .string csg, .int .i64 ck, .int .u64 cb, .string ct, .slice a1 cp.length b1] 51 (0, 0))).alloc (.cells #[.int .i64 cop, .string cn, .string csg, .int .i64 ck, .int .u64 cb, .string ct, .slice a2 cp.length b2] 51 (0, 0))) := ((Below.refl _ _).alloc (Nat.le_refl _) _).alloc (by rw [alloc_size]; omega) _
    have HM2 := Lib.hid (HM.out _ hb1)
    have HB1 := Lib.hid hb1
    clear HM hb1
    go_enter Tryz.func32, Tryz.ntmps32
    go_wp2_with fail
    refine HM2.out.mono ?_
    clear HM2
    rintro e w2 ⟨rfl, hb2⟩
    have HB2 := Lib.hid (HB1.out.trans (hb2.mono HB1.out.size))
    clear hb2
    go_wp2_with fail
    go_ret
    exact ⟨rfl, HB2.out⟩
end Go.Proofs.YtigicmnngppipaaGreatDoor.Tp
/- Statements that hold the same are the same. No condition. -/
namespace Go.Proofs.YtigicmnngppipaaGreatDoor.Tp
open Go.RowKit Lx
set_option maxRecDepth 100000
/-- What hangs on a statement, as it is read. -/
structure S0R (w : World) (s : S0) (vi vw vt : Value) : Prop where
  its : w.ownsRow 0 83 2 vi s.items.length (itemCells s.items)
  whr : CdsIs w AllB vw s.whr
  tgs : w.ownsRow 0 9 1 vt s.tags.length (s.tags.map Value.string)
theorem S0Is.r {w : World} {B : Nat} {s : S0} {vi vw vt : Value} (h : S0Is w B s vi vw vt) : S0R w s vi vw vt :=
  ⟨owns_base h.its fun _ _ => Nat.zero_le _, h.whr.keep fun _ _ _ => ⟨rfl, trivial⟩, owns_base h.tgs fun _ _ => Nat.zero_le _⟩
theorem S0R.later {w w' : World} {s : S0} {vi vw vt : Value} (h : S0R w s vi vw vt) (hb : Below w.heap.size w w') : S0R w' s vi vw vt :=
  ⟨owns_le h.its fun k _ hl => hb.block k hl, h.whr.later hb, owns_le h.tgs fun k _ hl => hb.block k hl⟩
set_option maxHeartbeats 4000000 in
theorem same_of (s : S0) (vi vw vt vi' vw' vt' : Value) (qa qb : Option Addr) (qn qc qn' qc' : Nat) (w : World) (h1 : S0R w s vi vw vt) (h2 : S0R w s vi' vw' vt')
    (hq : ∀ w', Below w.heap.size w w' → Calls Tryz.prog 34 #[.slice qa qn qc, .slice qb qn' qc', .func (.func 16) #[] #[]] w' fun e w2 => e = .returned (.bool true) ∧ Below w'.heap.size w' w2) :
    Calls Tryz.prog 16 #[.agg (stCells s vi vw vt (.slice qa qn qc)).toArray, .agg (stCells s vi' vw' vt' (.slice qb qn' qc')).toArray] w fun e w' => e = .returned (.bool true) ∧ Below w.heap.size w w' := by
  obtain ⟨ia, ic, rfl, _⟩ := own_form h1.its
  obtain ⟨ta, tc, rfl, _⟩ := own_form h1.tgs
  obtain ⟨wa, wc, rfl⟩ := cds_slice h1.whr
  obtain ⟨ia', ic', rfl, _⟩ := own_form h2.its
  obtain ⟨ta', tc', rfl, _⟩ := own_form h2.tgs
  obtain ⟨wa', wc', rfl⟩ := cds_slice h2.whr
  have M30 := Lib.hid (fun w2 (hb : Below w.heap.size w w2) => equal_30 _ _ s.items w2 (h1.later hb).its (h2.later hb).its)
  have M31 := Lib.hid (fun w2 (hb : Below w.heap.size w w2) => eqf_31 _ _ s.whr w2 (h1.later hb).whr (h2.later hb).whr fun c _ s1 s2 w3 _ k1 k2 => cond_32 _ c (Nat.le_refl _) s1 s2 w3 k1 k2)
  have M33 := Lib.hid (fun w2 (hb : Below w.heap.size w w2) => equal_33 _ _ s.tags w2 (h1.later hb).tgs (h2.later hb).tgs)
  have M34 := Lib.hid hq
  obtain ⟨sk, sa, si, sin, sfr, sw, swn, stg, sfl, ⟨nk, nb, nt⟩, sd, sl, so, sn⟩ := s
  unfold stCells
  simp only at M30 M31 M33 ⊢
  have s1 := alloc_size w (.cells #[.int .i64 sk, .bool sa, .slice ia si.length ic, .string sin, .string sfr, .slice wa sw.length wc, .int .i64 swn, .slice ta stg.length tc, .int .i64 sfl, .int .i64 nk, .int .u64 nb, .string nt, .bool sd, .int .i64 sl, .int .i64 so, .string sn, .slice qa qn qc] 31 (0, 0))
  have HB2 : Hid (Below w.heap.size w ((w.alloc (.cells #[.int .i64 sk, .bool sa, .slice ia si.length ic, .string sin, .string sfr, .slice wa sw.length wc, .int .i64 swn, .slice ta stg.length tc, .int .i64 sfl, .int .i64 nk, .int .u64 nb, .string nt, .bool sd, .int .i64 sl, .int .i64 so, .string sn, .slice qa qn qc] 31 (0, 0))).alloc (.cells #[.int .i64 sk, .bool sa, .slice ia' si.length ic', .string sin, .string sfr, .slice wa' sw.length wc', .int .i64 swn, .slice ta' stg.length tc', .int .i64 sfl, .int .i64 nk, .int .u64 nb, .string nt, .bool sd, .int .i64 sl, .int .i64 so, .string sn, .slice qb qn' qc'] 31 (0, 0)))) := Lib.hid (((Below.refl _ _).alloc (Nat.le_refl _) _).alloc (by rw [s1]; omega) _)
  have HX2 := Lib.hid ((Below.heap_alloc (w.alloc (.cells #[.int .i64 sk, .bool sa, .slice ia si.length ic, .string sin, .string sfr, .slice wa sw.length wc, .int .i64 swn, .slice ta stg.length tc, .int .i64 sfl, .int .i64 nk, .int .u64 nb, .string nt, .bool sd, .int .i64 sl, .int .i64 so, .string sn, .slice qa qn qc] 31 (0, 0))) (.cells #[.int .i64 sk, .bool sa, .slice ia' si.length ic', .string sin, .string sfr, .slice wa' sw.length wc', .int .i64 swn, .slice ta' stg.length tc', .int .i64 sfl, .int .i64 nk, .int .u64 nb, .string nt, .bool sd, .int .i64 sl, .int .i64 so, .string sn, .slice qb qn' qc'] 31 (0, 0)) w.heap.size (by rw [s1]; omega)).trans (newest w (.cells #[.int .i64 sk, .bool sa, .slice ia si.length ic, .string sin, .string sfr, .slice wa sw.length wc, .int .i64 swn, .slice ta stg.length tc, .int .i64 sfl, .int .i64 nk, .int .u64 nb, .string nt, .bool sd, .int .i64 sl, .int .i64 so, .string sn, .slice qa qn qc] 31 (0, 0))))
  have HY2 : Hid (((w.alloc (.cells #[.int .i64 sk, .bool sa, .slice ia si.length ic, .string sin, .string sfr, .slice wa sw.length wc, .int .i64 swn, .slice ta stg.length tc, .int .i64 sfl, .int .i64 nk, .int .u64 nb, .string nt, .bool sd, .int .i64 sl, .int .i64 so, .string sn, .slice qa qn qc] 31 (0, 0))).alloc (.cells #[.int .i64 sk, .bool sa, .slice ia' si.length ic', .string sin, .string sfr, .slice wa' sw.length wc', .int .i64 swn, .slice ta' stg.length tc', .int .i64 sfl, .int .i64 nk, .int .u64 nb, .string nt, .bool sd, .int .i64 sl, .int .i64 so, .string sn, .slice qb qn' qc'] 31 (0, 0))).heap[w.heap.size + 1]? = some (.cells #[.int .i64 sk, .bool sa, .slice ia' si.length ic', .string sin, .string sfr, .slice wa' sw.length wc', .int .i64 swn, .slice ta' stg.length tc', .int .i64 sfl, .int .i64 nk, .int .u64 nb, .string nt, .bool sd, .int .i64 sl, .int .i64 so, .string sn, .slice qb qn' qc'] 31 (0, 0))) := Lib.hid (by have := newest (w.alloc (.cells #[.int .i64 sk, .bool sa, .slice ia si.length ic, .string sin, .string sfr, .slice wa sw.length wc, .int .i64 swn, .slice ta stg.length tc, .int .i64 sfl, .int .i64 nk, .int .u64 nb, .string nt, .bool sd, .int .i64 sl, .int .i64 so, .string sn, .slice qa qn qc] 31 (0, 0))) (.cells #[.int .i64 sk, .bool sa, .slice ia' si.length ic', .string sin, .string sfr, .slice wa' sw.length wc', .int .i64 swn, .slice ta' stg.length tc', .int .i64 sfl, .int .i64 nk, .int .u64 nb, .string nt, .bool sd, .int .i64 sl, .int .i64 so, .string sn, .slice qb qn' qc'] 31 (0, 0)); rw [s1] at this; exact this)
  have HM := Lib.hid (M30.out _ HB2.out)
  clear h1 h2 hq s1
  go_enter Tryz.func16, Tryz.ntmps16
  go_wp2_with fail
  refine HM.out.mono ?_
  clear HM
  rintro e w3 ⟨rfl, hb3⟩
  have HX3 := Lib.hid ((hb3.block w.heap.size (lt_of_block HX2.out)).trans HX2.out)
  have HY3 := Lib.hid ((hb3.block (w.heap.size + 1) (lt_of_block HY2.out)).trans HY2.out)
  have HB3 := Lib.hid (HB2.out.trans (hb3.mono HB2.out.size))
  have d3 : w3.cell? ⟨w.heap.size, 3, none⟩ = some (.string sin) := Lib.cell_of_heap HX3.out 3
  have e3 : w3.cell? ⟨w.heap.size + 1, 3, none⟩ = some (.string sin) := Lib.cell_of_heap HY3.out 3
  have d4 : w3.cell? ⟨w.heap.size, 4, none⟩ = some (.string sfr) := Lib.cell_of_heap HX3.out 4
  have e4 : w3.cell? ⟨w.heap.size + 1, 4, none⟩ = some (.string sfr) := Lib.cell_of_heap HY3.out 4
  have d5 : w3.cell? ⟨w.heap.size, 5, none⟩ = some (.slice wa sw.length wc) := Lib.cell_of_heap HX3.out 5
  have e5 : w3.cell? ⟨w.heap.size + 1, 5, none⟩ = some (.slice wa' sw.length wc') := Lib.cell_of_heap HY3.out 5
  have HM := Lib.hid (M31.out _ HB3.out)
  clear hb3
  go_wp2_with fail
  refine HM.out.mono ?_
  clear HM d3 e3 d4 e4 d5 e5
  rintro e w4 ⟨rfl, hb4⟩
  have HX4 := Lib.hid ((hb4.block w.heap.size (lt_of_block HX3.out)).trans HX3.out)
  have HY4 := Lib.hid ((hb4.block (w.heap.size + 1) (lt_of_block HY3.out)).trans HY3.out)
  have HB4 := Lib.hid (HB3.out.trans (hb4.mono HB3.out.size))
  have d6 : w4.cell? ⟨w.heap.size, 6, none⟩ = some (.int .i64 swn) := Lib.cell_of_heap HX4.out 6
  have e6 : w4.cell? ⟨w.heap.size + 1, 6, none⟩ = some (.int .i64 swn) := Lib.cell_of_heap HY4.out 6
  have d7 : w4.cell? ⟨w.heap.size, 7, none⟩ = some (.slice ta stg.length tc) := Lib.cell_of_heap HX4.out 7
  have e7 : w4.cell? ⟨w.heap.size + 1, 7, none⟩ = some (.slice ta' stg.length tc') := Lib.cell_of_heap HY4.out 7
  have HM := Lib.hid (M33.out _ HB4.out)
  clear hb4
  go_wp2_with fail
  refine HM.out.mono ?_
  clear HM d6 e6 d7 e7
  rintro e w5 ⟨rfl, hb5⟩
  have HX5 := Lib.hid ((hb5.block w.heap.size (lt_of_block HX4.out)).trans HX4.out)
  have HY5 := Lib.hid ((hb5.block (w.heap.size + 1) (lt_of_block HY4.out)).trans HY4.out)
  have HB5 := Lib.hid (HB4.out.trans (hb5.mono HB4.out.size))
  have d8 : w5.cell? ⟨w.heap.size, 8, none⟩ = some (.int .i64 sfl) := Lib.cell_of_heap HX5.out 8
  have e8 : w5.cell? ⟨w.heap.size + 1, 8, none⟩ = some (.int .i64 sfl) := Lib.cell_of_heap HY5.out 8
  have d9 : w5.cell? ⟨w.heap.size, 9, none⟩ = some (.int .i64 nk) := Lib.cell_of_heap HX5.out 9
  have e9 : w5.cell? ⟨w.heap.size + 1, 9, none⟩ = some (.int .i64 nk) := Lib.cell_of_heap HY5.out 9
  have d10 : w5.cell? ⟨w.heap.size, 10, none⟩ = some (.int .u64 nb) := Lib.cell_of_heap HX5.out 10
  have e10 : w5.cell? ⟨w.heap.size + 1, 10, none⟩ = some (.int .u64 nb) := Lib.cell_of_heap HY5.out 10
  have d11 : w5.cell? ⟨w.heap.size, 11, none⟩ = some (.string nt) := Lib.cell_of_heap HX5.out 11
  have e11 : w5.cell? ⟨w.heap.size + 1, 11, none⟩ = some (.string nt) := Lib.cell_of_heap HY5.out 11
  have d12 : w5.cell? ⟨w.heap.size, 12, none⟩ = some (.bool sd) := Lib.cell_of_heap HX5.out 12
  have e12 : w5.cell? ⟨w.heap.size + 1, 12, none⟩ = some (.bool sd) := Lib.cell_of_heap HY5.out 12
  have d13 : w5.cell? ⟨w.heap.size, 13, none⟩ = some (.int .i64 sl) := Lib.cell_of_heap HX5.out 13
  have e13 : w5.cell? ⟨w.heap.size + 1, 13, none⟩ = some (.int .i64 sl) := Lib.cell_of_heap HY5.out 13
  have d14 : w5.cell? ⟨w.heap.size, 14, none⟩ = some (.int .i64 so) := Lib.cell_of_heap HX5.out 14
  have e14 : w5.cell? ⟨w.heap.size + 1, 14, none⟩ = some (.int .i64 so) := Lib.cell_of_heap HY5.out 14
  have d15 : w5.cell? ⟨w.heap.size, 15, none⟩ = some (.string sn) := Lib.cell_of_heap HX5.out 15
  have e15 : w5.cell? ⟨w.heap.size + 1, 15, none⟩ = some (.string sn) := Lib.cell_of_heap HY5.out 15
  have d16 : w5.cell? ⟨w.heap.size, 16, none⟩ = some (.slice qa qn qc) := Lib.cell_of_heap HX5.out 16
  have e16 : w5.cell? ⟨w.heap.size + 1, 16, none⟩ = some (.slice qb qn' qc') := Lib.cell_of_heap HY5.out 16
  have HM := Lib.hid (M34.out _ HB5.out)
  clear hb5
  go_wp2_with fail
  refine HM.out.mono ?_
  clear HM d8 e8 d9 e9 d10 e10 d11 e11 d12 e12 d13 e13 d14 e14 d15 e15 d16 e16
  rintro e w6 ⟨rfl, hb6⟩
  have HB6 := Lib.hid (HB5.out.trans (hb6.mono HB5.out.size))
  clear hb6
  go_wp2_with fail
  go_ret
  exact ⟨rfl, HB6.out⟩
end Go.Proofs.YtigicmnngppipaaGreatDoor.Tp
/- A statement with its queries is the same as one that holds the same. No condition. -/
namespace Go.Proofs.YtigicmnngppipaaGreatDoor.Tp
open Go.RowKit Lx
set_option maxRecDepth 100000
theorem eqf34_nil (w : World) : Calls Tryz.prog 34 #[.slice none 0 0, .slice none 0 0, .func (.func 16) #[] #[]] w fun e w' => e = .returned (.bool true) ∧ Below w.heap.size w w' := by
  go_enter Tryz.func34, Tryz.ntmps34
  go_wp2_with fail
  go_loopw [17] (fun i wr => i = .int .i64 0 ∧ Below w.heap.size w wr) (fun _ _ => 0)
  case atStart => exact ⟨rfl, Below.refl _ _⟩
  case round =>
    obtain ⟨rfl, hb⟩ := hrel
    have HB := Lib.hid hb
    clear hb
    go_wp2_with fail
    go_ret
    exact ⟨rfl, HB.out⟩
theorem same_flat (s : S0) (vi vw vt vi' vw' vt' : Value) (w : World) (h1 : S0R w s vi vw vt) (h2 : S0R w s vi' vw' vt') :
    Calls Tryz.prog 16 #[.agg (stCells s vi vw vt vNil).toArray, .agg (stCells s vi' vw' vt' vNil).toArray] w fun e w' => e = .returned (.bool true) ∧ Below w.heap.size w w' :=
  same_of s vi vw vt vi' vw' vt' none none 0 0 0 0 w h1 h2 fun w' _ => eqf34_nil w'
set_option maxHeartbeats 2000000 in
theorem eqf34_one (s : S0) (vi vw vt vi' vw' vt' : Value) (g1 g2 : Nat) (w : World) (h1 : S0R w s vi vw vt) (h2 : S0R w s vi' vw' vt') (k1 : w.heap[g1]? = some (.cells (stCells s vi vw vt vNil).toArray 31 (0, 0))) (k2 : w.heap[g2]? = some (.cells (stCells s vi' vw' vt' vNil).toArray 31 (0, 0))) :
    Calls Tryz.prog 34 #[.slice (some ⟨g1, 0, none⟩) 1 1, .slice (some ⟨g2, 0, none⟩) 1 1, .func (.func 16) #[] #[]] w fun e w' => e = .returned (.bool true) ∧ Below w.heap.size w w' := by
  have HM := Lib.hid (fun w2 (hb : Below w.heap.size w w2) => same_flat s vi vw vt vi' vw' vt' w2 (h1.later hb) (h2.later hb))
  have O1 : (stCells s vi vw vt vNil).toArray.all (·.oneCell') = true := st_one (items_one h1.its) (cds_one h1.whr) (items_one h1.tgs) rfl
  have O2 : (stCells s vi' vw' vt' vNil).toArray.all (·.oneCell') = true := st_one (items_one h2.its) (cds_one h2.whr) (items_one h2.tgs) rfl
  obtain ⟨c1, hc1⟩ : ∃ c, (stCells s vi vw vt vNil).toArray = c := ⟨_, rfl⟩
  obtain ⟨c2, hc2⟩ : ∃ c, (stCells s vi' vw' vt' vNil).toArray = c := ⟨_, rfl⟩
  have Z1 : c1.size = 17 := by rw [← hc1]; rfl
  have Z2 : c2.size = 17 := by rw [← hc2]; rfl
  rw [hc1] at O1 k1 HM
  rw [hc2] at O2 k2 HM
  have S1 := Lib.hid (show (Tryz.prog.info? 31).map (·.size) = some c1.size by rw [Z1]; exact info31s)
  have S2 := Lib.hid (show (Tryz.prog.info? 31).map (·.size) = some c2.size by rw [Z2]; exact info31s)
  have Z1 := Lib.hid (show z17.size = c1.size by rw [Z1]; rfl)
  have Z2 := Lib.hid (show z17.size = c2.size by rw [Z2]; rfl)
  have O1 := Lib.hid O1
  have O2 := Lib.hid O2
  have K1 := Lib.hid k1
  have K2 := Lib.hid k2
  clear h1 h2 k1 k2 hc1 hc2
  go_enter Tryz.func34, Tryz.ntmps34
  go_wp2_with fail
  go_loopw [17] (fun i wr => ∃ k : Nat, i = .int .i64 k ∧ k ≤ 1 ∧ Below w.heap.size w wr) (fun i _ => 1 - (intOf i).toNat)
  case atStart => exact ⟨0, rfl, Nat.zero_le _, Below.refl _ _⟩
  case round =>
    obtain ⟨k, rfl, hk1, hb⟩ := hrel
    have HB := Lib.hid hb
    clear hb
    by_cases hk : k = 1
    · subst hk
      clear hk1
      go_wp2_with fail
      go_ret
      exact ⟨rfl, HB.out⟩
    · obtain rfl : k = 0 := by omega
      clear hk hk1
      have s1 := alloc_size wr (.cells c1 31 (0, 0))
      have R1 := Lib.hid ((HB.out.block g1 (lt_of_block K1.out)).trans K1.out)
      have R2 := Lib.hid ((Below.heap_alloc wr (.cells c1 31 (0, 0)) g2 (Nat.lt_of_lt_of_le (lt_of_block K2.out) HB.out.size)).trans ((HB.out.block g2 (lt_of_block K2.out)).trans K2.out))
      have hb2 : Below wr.heap.size wr ((wr.alloc (.cells c1 31 (0, 0))).alloc (.cells c2 31 (0, 0))) := ((Below.refl _ _).alloc (Nat.le_refl _) _).alloc (by rw [s1]; omega) _
      have A1 := Lib.hid ((Below.heap_alloc (wr.alloc (.cells c1 31 (0, 0))) (.cells c2 31 (0, 0)) wr.heap.size (by rw [s1]; omega)).trans (newest wr (.cells c1 31 (0, 0))))
      have A2 := Lib.hid (show ((wr.alloc (.cells c1 31 (0, 0))).alloc (.cells c2 31 (0, 0))).heap[wr.heap.size + 1]? = some (.cells c2 31 (0, 0)) by have := newest (wr.alloc (.cells c1 31 (0, 0))) (.cells c2 31 (0, 0)); rw [s1] at this; exact this)
      have N1 := Lib.hid (newest wr (.cells z17 31 (0, 0)))
      have N2 := Lib.hid (show ((wr.alloc (.cells c1 31 (0, 0))).alloc (.cells z17 31 (0, 0))).heap[wr.heap.size + 1]? = some (.cells z17 31 (0, 0)) by have := newest (wr.alloc (.cells c1 31 (0, 0))) (.cells z17 31 (0, 0)); rw [s1] at this; exact this)
      have E1 : (wr.alloc (.cells #[.int .i64 0, .bool false, .slice none 0 0, .string ⟨#[]⟩, .string ⟨#[]⟩, .slice none 0 0, .int .i64 0, .slice none 0 0, .int .i64 0, .int .i64 0, .int .u64 0, .string ⟨#[]⟩, .bool false, .int .i64 0, .int .i64 0, .string ⟨#[]⟩, .slice none 0 0] 31 (0, 0))).setRow wr.heap.size c1 = wr.alloc (.cells c1 31 (0, 0)) := World.setRow_alloc_new wr #[.int .i64 0, .bool false, .slice none 0 0, .string ⟨#[]⟩, .string ⟨#[]⟩, .slice none 0 0, .int .i64 0, .slice none 0 0, .int .i64 0, .int .i64 0, .int .u64 0, .string ⟨#[]⟩, .bool false, .int .i64 0, .int .i64 0, .string ⟨#[]⟩, .slice none 0 0] c1 31
      have E2 : ((wr.alloc (.cells c1 31 (0, 0))).alloc (.cells #[.int .i64 0, .bool false, .slice none 0 0, .string ⟨#[]⟩, .string ⟨#[]⟩, .slice none 0 0, .int .i64 0, .slice none 0 0, .int .i64 0, .int .i64 0, .int .u64 0, .string ⟨#[]⟩, .bool false, .int .i64 0, .int .i64 0, .string ⟨#[]⟩, .slice none 0 0] 31 (0, 0))).setRow (wr.heap.size + 1) c2 = (wr.alloc (.cells c1 31 (0, 0))).alloc (.cells c2 31 (0, 0)) := by have := World.setRow_alloc_new (wr.alloc (.cells c1 31 (0, 0))) #[.int .i64 0, .bool false, .slice none 0 0, .string ⟨#[]⟩, .string ⟨#[]⟩, .slice none 0 0, .int .i64 0, .slice none 0 0, .int .i64 0, .int .i64 0, .int .u64 0, .string ⟨#[]⟩, .bool false, .int .i64 0, .int .i64 0, .string ⟨#[]⟩, .slice none 0 0] c2 31; rw [s1] at this; exact this
      have E1 := Lib.hid E1
      have E2 := Lib.hid E2
      have HM2 := Lib.hid (HM.out _ (HB.out.trans (hb2.mono HB.out.size)))
      have HB2 := Lib.hid (HB.out.trans (hb2.mono HB.out.size))
      clear hb2 s1
      go_wp2_with (first
        | (refine wpList_load_row (by rfl) 31 _ (by rfl) g1 (by rfl) 31 c1 (0, 0) _ R1.out Tryz.underlying31 (by rfl) S1.out ?_)
        | (refine wpList_load_row (by rfl) 31 _ (by rfl) g2 (by rfl) 31 c2 (0, 0) _ R2.out Tryz.underlying31 (by rfl) S2.out ?_)
        | (refine wpList_load_row (by rfl) 31 _ (by rfl) wr.heap.size (by rfl) 31 c1 (0, 0) _ A1.out Tryz.underlying31 (by rfl) S1.out ?_)
        | (refine wpList_load_row (by rfl) 31 _ (by rfl) (wr.heap.size + 1) (by rfl) 31 c2 (0, 0) _ A2.out Tryz.underlying31 (by rfl) S2.out ?_)
        | (refine wpList_store_row (by rfl) 31 _ _ (by rfl) wr.heap.size c1 (by rfl) (by rfl) 31 z17 N1.out S1.out Z1.out O1.out ?_; rw [E1.out])
        | (refine wpList_store_row (by rfl) 31 _ _ (by rfl) (wr.heap.size + 1) c2 (by rfl) (by rfl) 31 z17 N2.out S2.out Z2.out O2.out ?_; rw [E2.out]))
      refine HM2.out.mono ?_
      clear HM2
      rintro e w2 ⟨rfl, hb2⟩
      have HB3 := Lib.hid (HB2.out.trans (hb2.mono HB2.out.size))
      clear hb2
      go_wp2_with fail
      exact ⟨⟨1, rfl, Nat.le_refl _, HB3.out⟩, by simp [intOf]⟩
theorem same_16 {B1 B2 : Nat} (x : St) (v1 v2 : Value) (w : World) (h1 : StIs w B1 x v1) (h2 : StIs w B2 x v2) : Calls Tryz.prog 16 #[v1, v2] w fun e w' => e = .returned (.bool true) ∧ Below w.heap.size w w' := by
  obtain ⟨vi, vw, vt, vq, rfl, r1, q1⟩ := h1
  obtain ⟨vi', vw', vt', vq', rfl, r2, q2⟩ := h2
  obtain ⟨s, qs⟩ := x
  simp only [St.s, St.query] at r1 r2 q1 q2 ⊢
  rcases q1 with ⟨rfl, rfl⟩ | ⟨t, a, b, c, g, rfl, rfl, hg, k1, p1⟩
  · rcases q2 with ⟨_, rfl⟩ | ⟨t', a', b', c', g', q, _⟩
    · exact same_flat s _ _ _ _ _ _ w r1.r r2.r
    · cases q
  · rcases q2 with ⟨q, _⟩ | ⟨t', a', b', c', g', q, rfl, hg', k2, p2⟩
    · cases q
    · cases q
      exact same_of s _ _ _ _ _ _ (some ⟨g, 0, none⟩) (some ⟨g', 0, none⟩) 1 1 1 1 w r1.r r2.r fun w' hb => eqf34_one t a b c a' b' c' g g' w' (p1.r.later hb) (p2.r.later hb) ((hb.block _ (lt_of_block k1)).trans k1) ((hb.block _ (lt_of_block k2)).trans k2)
end Go.Proofs.YtigicmnngppipaaGreatDoor.Tp
/- A text that is parsed at the start; flat texts. No condition. -/
namespace Go.Proofs.YtigicmnngppipaaGreatDoor.Tp
open Go.RowKit Lx
set_option maxRecDepth 100000
def awT : ByteArray := ⟨#[83, 69, 76, 69, 67, 84, 32, 77, 69, 65, 78, 40, 118, 41, 32, 70, 82, 79, 77, 32, 99, 112, 117, 32, 71, 82, 79, 85, 80, 32, 66, 89, 32, 84, 73, 77, 69, 40, 49, 48, 41, 44, 32, 104, 111, 115, 116]⟩
def awS : S0 := { s0 with kind := 1, items := [(wMEAN, ⟨#[118]⟩)], frm := ⟨#[99, 112, 117]⟩, window := 10, tags := [⟨#[104, 111, 115, 116]⟩] }
theorem aw_parse (V : List UInt8 → Value × Int) : parseP V awT.data.toList = (.mk awS [], 0, 0) := by kernel_rfl
set_option maxHeartbeats 1000000 in
theorem awake_10 {V : List UInt8 → Value × Int} (W w : World) (hR : Rd V W) (hW : Below W.heap.size W w) : Calls Tryz.prog 10 #[] w fun e w' => e = .returned (.bool true) ∧ Below w.heap.size w w' := by
  have HM := Lib.hid (parse_12 awT W w hR hW (by decide))
  clear hR hW
  go_enter Tryz.func10, Tryz.ntmps10
  go_wp2_with fail
  refine HM.out.mono ?_
  clear HM
  rintro e w1 ⟨hb1, v, rfl, hv⟩
  rw [aw_parse] at hv
  obtain ⟨vi, vw, vt, vq, rfl, r, q⟩ := hv
  rcases q with ⟨_, rfl⟩ | ⟨_, _, _, _, _, q, _⟩
  case inr => cases q
  obtain ⟨ia, ic, rfl, _⟩ := own_form r.its
  obtain ⟨ta, tc, rfl, _⟩ := own_form r.tgs
  obtain ⟨wa, wc, rfl⟩ := cds_slice r.whr
  have HB1 := Lib.hid hb1
  rw [aw_parse]
  clear hb1 r
  unfold stCells
  simp only [St.s, awS, s0, val0, vNil, List.length_singleton, List.length_nil]
  go_wp2_with fail
  go_ret
  exact ⟨rfl, HB1.out.alloc HB1.out.size _⟩
def fdel : ByteArray := ⟨#[68, 69, 76, 69, 84, 69, 32, 70, 82, 79, 77, 32, 109, 32, 87, 72, 69, 82, 69, 32]⟩
def fword (b : Bool) : ByteArray := if b then ⟨#[32, 79, 82, 32]⟩ else ⟨#[32, 65, 78, 68, 32]⟩
def ftest (i : Nat) : ByteArray := ⟨#[UInt8.ofNat (97 + i)]⟩ ++ ⟨#[32, 61, 32, 39, 120, 39]⟩
def fS (b : Bool) : Nat → ByteArray
  | 0 => fdel
  | i + 1 => (if 0 < i then fS b i ++ fword b else fS b i) ++ ftest i
def fT (b : Bool) (k : Nat) : Nat → ByteArray
  | 0 => fdel
  | i + 1 =>
    let t := (if i = k then (if 0 < i then fT b k i ++ fword b else fT b k i) ++ ⟨#[40]⟩ else (if 0 < i then fT b k i ++ fword b else fT b k i)) ++ ftest i
    if i = k + 1 then t ++ ⟨#[41]⟩ else t
def fX (b : Bool) (c : Nat) : St := .mk { s0 with kind := 2, frm := ⟨#[109]⟩, whr := [.mk (if b then 2 else 1) ⟨#[]⟩ ⟨#[]⟩ val0 ((List.range c).map fun i => .mk 3 ⟨#[UInt8.ofNat (97 + i)]⟩ ⟨#[61]⟩ (4, 0, ⟨#[120]⟩) [])] } []
def fCases : List (Bool × Nat × Nat) := [true, false].flatMap fun b => (List.range 9).flatMap fun c => if c < 3 then [] else (List.range (c - 1)).map fun k => (b, c, k)
theorem flat_all (V : List UInt8 → Value × Int) : (fCases.map fun p => (parseP V (fS p.1 p.2.1).data.toList, parseP V (fT p.1 p.2.2 p.2.1).data.toList)) = fCases.map fun p => ((fX p.1 p.2.1, 0, 0), (fX p.1 p.2.1, 0, 0)) := by kernel_rfl
theorem flat_in (b : Bool) (c k : Nat) (h1 : 3 ≤ c) (h2 : c < 9) (h3 : k < c - 1) : (b, c, k) ∈ fCases :=
  List.mem_flatMap.2 ⟨b, by cases b <;> simp, List.mem_flatMap.2 ⟨c, List.mem_range.2 h2, by rw [if_neg (by omega)]; exact List.mem_map.2 ⟨k, List.mem_range.2 h3, rfl⟩⟩⟩
theorem flat_ok (V : List UInt8 → Value × Int) (b : Bool) (c k : Nat) (h1 : 3 ≤ c) (h2 : c < 9) (h3 : k < c - 1) : parseP V (fS b c).data.toList = (fX b c, 0, 0) ∧ parseP V (fT b k c).data.toList = (fX b c, 0, 0) := by
  have := List.map_inj_left.1 (flat_all V) _ (flat_in b c k h1 h2 h3)
  injection this with h4 h5
  exact ⟨h4, h5⟩
end Go.Proofs.YtigicmnngppipaaGreatDoor.Tp
