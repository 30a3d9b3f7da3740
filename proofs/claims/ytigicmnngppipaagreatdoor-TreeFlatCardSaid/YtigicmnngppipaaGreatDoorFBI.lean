/- Several texts of this proof, laid together. Conditions: as each says. -/
import Derived.Test.YtigicmnngppipaaGreatDoorFBH
import Derived.Laws.IdiomStrings
import Derived.Deep.WholeRow
import Derived.Test.YtigicmnngppipaaGreatDoorRows
import Derived.Lay
import Derived.MakeChecks
import Derived.Stop.LaidErr
import Derived.Lib.LaidTab
/- The law TreeFlat. Conditions: what ParseInt and the reader of values answer. -/
namespace Go.Proofs.YtigicmnngppipaaGreatDoor.Tp
open Go.RowKit Lx
set_option maxRecDepth 100000
theorem StIs.later {w w' : World} {B : Nat} {x : St} {v : Value} (h : StIs w B x v) (hb : Below w.heap.size w w') : StIs w' B x v := h.keep fun k _ hl => hb.block k hl
theorem load_row_g {P : Program} {ops : Array Oper} {rest : List Oper} {o : Oper} {a : Act} {w : World} {Q : Exit → Act → World → Prop} (hw : Region.wanted o (yielded ops a.tmps) = true) (ty : TypeId) (x : Operand) (ho : o.op = .load ty x)
    (g : Nat) (hx : a.eval x = .pointer (some ⟨g, 0, none⟩)) (t : TypeId) (cs : Array Value) (fr : Nat × Nat) (d : TypeDesc) (hg : w.heap[g]? = some (.cells cs t fr))
    (hu : P.underlying ty = some d) (hd : (match d with | .struct _ | .array _ _ => true | _ => false) = true) (hi : (P.info? ty).map (·.size) = some cs.size)
    (h : wpList P ops Q rest (a.put o.dst (.agg cs)) w) : wpList P ops Q (o :: rest) a w :=
  wpList_step fun K hK => by
    rw [if_pos hw]
    exact wp_load_row ty x ho g hx t cs fr d hg hu hd hi (hK _ _ h)
theorem conv_one (wr : World) (j : Nat) (hj : j < 9) : (convert 48 9 (.slice (some ⟨wr.heap.size, 0, none⟩) 1 1)).run Tryz.prog (wr.alloc (.cells #[.int .u8 (97 + (j : Int))] 5 (0, 0))) = .ok (.string ⟨#[UInt8.ofNat (97 + j)]⟩) (wr.alloc (.cells #[.int .u8 (97 + (j : Int))] 5 (0, 0))) := by
  have h := newest wr (.cells #[.int .u8 (97 + (j : Int))] 5 (0, 0))
  refine run_convert_bytes_back (wr.alloc (.cells #[.int .u8 (97 + (j : Int))] 5 (0, 0))) 48 9 5 ⟨wr.heap.size, 0, none⟩ 1 [UInt8.ofNat (97 + j)] Tryz.underlying48 Tryz.underlying5 Tryz.underlying9 fun i hi => ?_
  obtain rfl : i = 0 := by simp at hi; omega
  have := Lib.cell_of_heap h 0
  rw [show (⟨wr.heap.size, 0, none⟩ : Addr).add 0 = ⟨wr.heap.size, 0, none⟩ from rfl, this]
  have e : (UInt8.ofNat (97 + j)).toNat = 97 + j := by simp; omega
  simp
  omega
theorem ftest_size (i : Nat) : (ftest i).size = 7 := by unfold ftest; rw [ByteArray.size_append]; rfl
theorem fS_size (b : Bool) : ∀ i, (fS b i).size ≤ 20 + 12 * i
  | 0 => by show fdel.size ≤ 20; decide
  | i + 1 => by
    have ih := fS_size b i
    have h7 := ftest_size i
    have hw : (fword b).size ≤ 5 := by cases b <;> decide
    unfold fS
    split <;> simp only [ByteArray.size_append] <;> omega
theorem fT_size (b : Bool) (k : Nat) : ∀ i, (fT b k i).size ≤ 20 + 14 * i
  | 0 => by show fdel.size ≤ 20; decide
  | i + 1 => by
    have ih := fT_size b k i
    have h7 := ftest_size i
    have hw : (fword b).size ≤ 5 := by cases b <;> decide
    have h1 : (⟨#[40]⟩ : ByteArray).size = 1 := rfl
    have h2 : (⟨#[41]⟩ : ByteArray).size = 1 := rfl
    unfold fT
    simp only
    split <;> split <;> split <;> simp only [ByteArray.size_append] <;> omega
theorem flat_open {w : World} {B c : Nat} {b : Bool} {v : Value} (h : StIs w B (fX b c) v) : ∃ (cs : Array Value) (g cap : Nat) (pa : Option Addr) (pc : Nat), v = .agg cs ∧ cs.size = 17 ∧ cs.all (·.oneCell') = true ∧ cs[5]? = some (.slice (some ⟨g, 0, none⟩) 1 cap) ∧ g < w.heap.size ∧ w.cell? ⟨g, 6, none⟩ = some (.slice pa c pc) := by
  obtain ⟨vi, vw, vt, vq, rfl, r, q⟩ := h
  have ho := st_one (x := (fX b c).s) (items_one r.its) (cds_one r.whr) (items_one r.tgs) (q_one q)
  rcases r.whr.row_of with ⟨_, q⟩ | ⟨g, cap, zs, hv, hz, _, hown, _, hp⟩
  · exact absurd q (by intro e; cases e)
  · obtain ⟨z, rfl⟩ : ∃ z, zs = [z] := List.length_eq_one_iff.1 (zs_len hz)
    have hz1 : z.1.parts.length = c := by
      have h := congrArg (fun l => l.map fun x : Cd => x.parts.length) hz
      simpa [fX, St.s, Cd.parts] using h
    obtain ⟨pa, pc, hz2⟩ := cds_slice (hp z (List.mem_singleton.2 rfl))
    rw [hz1] at hz2
    refine ⟨_, g, cap, pa, pc, rfl, rfl, ho, ?_, ?_, ?_⟩
    · show some vw = _
      rw [hv]; rfl
    · rw [hv] at hown; exact (hown.lt g rfl).2
    · rw [hv] at hown
      have := hown.cellAt 6 (by show 6 < 1 * 7; decide)
      rw [this]
      have h2 := flat_at [z] 0 (by simp) 6 (by decide)
      rw [show 0 * 7 + 6 = 6 from rfl] at h2
      rw [h2]
      show some z.2 = _
      rw [hz2]
set_option maxHeartbeats 8000000 in
theorem law6 {V : List UInt8 → Value × Int} (n a : Int) (b : Bool) (w : World) (hR : Rd V w) (hn : 0 ≤ n ∧ n < 256) (ha : 0 ≤ a ∧ a < 256) :
    Calls Tryz.prog 6 #[.int .u8 n, .int .u8 a, .bool b] w fun e w' => e = .returned (.bool true) ∧ Below w.heap.size w w' := by
  have MA := Lib.hid (awake_10 w w hR (Below.refl _ _))
  have HR := Lib.hid hR
  obtain ⟨m, rfl⟩ : ∃ m : Nat, n = m := ⟨n.toNat, by omega⟩
  obtain ⟨q, rfl⟩ : ∃ q : Nat, a = q := ⟨a.toNat, by omega⟩
  obtain ⟨c, hc⟩ : ∃ c : Nat, 3 + (m : Int) % 6 = c := ⟨3 + m % 6, by omega⟩
  have hc3 : 3 ≤ c ∧ c < 9 := by omega
  obtain ⟨k, hk⟩ : ∃ k : Nat, (wrap64 (q : Int)).tmod ((c : Int) - 1) = k := ⟨q % (c - 1), by
    rw [show wrap64 (q : Int) = (q : Int) by unfold wrap64; omega, show ((c : Int) - 1) = ((c - 1 : Nat) : Int) by omega]
    rfl⟩
  have hk2 : k < c - 1 := by
    have h1 : ((q % (c - 1) : Nat) : Int) = k := by
      rw [← hk, show wrap64 (q : Int) = (q : Int) by unfold wrap64; omega, show ((c : Int) - 1) = ((c - 1 : Nat) : Int) by omega]
      rfl
    have := Nat.mod_lt q (show 0 < c - 1 by omega)
    omega
  have HC := Lib.hid hc
  have HC3 := Lib.hid hc3
  have HK := Lib.hid hk
  have HK2 := Lib.hid hk2
  clear hR hn ha hc hc3 hk hk2
  go_enter Tryz.func6, Tryz.ntmps6
  go_wp2_with fail
  refine MA.out.mono ?_
  clear MA
  rintro e w1 ⟨rfl, hb1⟩
  have HB1 := Lib.hid hb1
  clear hb1
  cases b with
  | true =>
    go_upto_block 0 with (fail)
    rw [HC.out, HK.out]
    go_wp2_with fail
    go_loopw [10, 11, 33] (fun vs vt vi wr => ∃ j : Nat, vi = .int .i64 j ∧ j ≤ c ∧ vs = .string (fS true j) ∧ vt = .string (fT true k j) ∧ Below w.heap.size w wr) (fun _ _ i _ => c - (intOf i).toNat)
    case atStart => exact ⟨0, rfl, Nat.zero_le _, rfl, rfl, HB1.out⟩
    case round =>
      obtain ⟨j, rfl, hjc, rfl, rfl, hb⟩ := hrel
      have HB := Lib.hid hb
      clear hb
      by_cases hj : j = c
      · subst hj
        have hlt : ¬ (j : Int) < (j : Int) := by omega
        have hc9 := HC3.out
        have hss := fS_size true j
        have hst := fT_size true k j
        have HF := Lib.hid (flat_ok V true j k hc9.1 hc9.2 HK2.out)
        have HP1 := Lib.hid (parse_12 (fS true j) w wr HR.out HB.out (by omega))
        have HP2 := Lib.hid fun w' (hb : Below w.heap.size w w') => parse_12 (fT true k j) w w' HR.out hb (by omega)
        clear hc9 hss hst hjc
        go_wp2_with fail
        refine HP1.out.mono ?_
        clear HP1
        rintro e w2 ⟨hb2, v1, rfl, hv1⟩
        rw [HF.out.1] at hv1 ⊢
        have HB2 := Lib.hid (HB.out.trans (hb2.mono HB.out.size))
        obtain ⟨c1, g, cap, pa, pc, rfl, hz1, ho1, h5, hg, h6⟩ := flat_open hv1
        have hb3 : Below w2.heap.size w2 (w2.alloc (.cells c1 31 (0, 0))) := (Below.refl _ _).alloc (Nat.le_refl _) _
        have HB3 := Lib.hid (HB2.out.trans (hb3.mono HB2.out.size))
        have HV1 := Lib.hid (hv1.later hb3)
        have HZ1 := Lib.hid (show z17.size = c1.size by rw [hz1]; rfl)
        have HS1 := Lib.hid (show (Tryz.prog.info? 31).map (·.size) = some c1.size by rw [hz1]; exact info31s)
        have HO1 := Lib.hid ho1
        have HX1 := Lib.hid (newest w2 (.cells c1 31 (0, 0)))
        have HG1 := Lib.hid (And.intro h5 (And.intro (show g < (w2.alloc (.cells c1 31 (0, 0))).heap.size from Nat.lt_of_lt_of_le hg hb3.size) ((hb3.cell (p := ⟨g, 6, none⟩) hg).trans h6)))
        have HN1 := Lib.hid (newest w2 (.cells z17 31 (0, 0)))
        have HE1 := Lib.hid (World.setRow_alloc_new w2 #[.int .i64 0, .bool false, .slice none 0 0, .string ⟨#[]⟩, .string ⟨#[]⟩, .slice none 0 0, .int .i64 0, .slice none 0 0, .int .i64 0, .int .i64 0, .int .u64 0, .string ⟨#[]⟩, .bool false, .int .i64 0, .int .i64 0, .string ⟨#[]⟩, .slice none 0 0] c1 31)
        have HM2 := Lib.hid (HP2.out _ HB3.out)
        clear hb2 hb3 hv1 hz1 ho1 h5 hg h6 HP2
        go_wp2_with (refine wpList_store_row (by rfl) 31 _ _ (by rfl) w2.heap.size c1 (by rfl) (by rfl) 31 z17 HN1.out HS1.out HZ1.out HO1.out ?_; rw [HE1.out])
        refine HM2.out.mono ?_
        clear HM2
        rintro e w4 ⟨hb4, v2, rfl, hv2⟩
        rw [HF.out.2] at hv2 ⊢
        have HB4 := Lib.hid (HB3.out.trans (hb4.mono HB3.out.size))
        obtain ⟨c2, g', cap', pa', pc', rfl, hz2, ho2, _, _, _⟩ := flat_open hv2
        have hb5 : Below w4.heap.size w4 (w4.alloc (.cells c2 31 (0, 0))) := (Below.refl _ _).alloc (Nat.le_refl _) _
        have HB5 := Lib.hid (HB4.out.trans (hb5.mono HB4.out.size))
        have HZ2 := Lib.hid (show z17.size = c2.size by rw [hz2]; rfl)
        have HS2 := Lib.hid (show (Tryz.prog.info? 31).map (·.size) = some c2.size by rw [hz2]; exact info31s)
        have HO2 := Lib.hid ho2
        have HX2 := Lib.hid (newest w4 (.cells c2 31 (0, 0)))
        have hb45 := hb4.trans (hb5.mono hb4.size)
        have HX1' := Lib.hid ((hb45.block _ (lt_of_block HX1.out)).trans HX1.out)
        have hgc : (w4.alloc (.cells c2 31 (0, 0))).cell? ⟨g, 6, none⟩ = some (.slice pa j pc) := (hb45.cell (p := ⟨g, 6, none⟩) HG1.out.2.1).trans HG1.out.2.2
        have HG2 := Lib.hid (And.intro hgc (Nat.lt_of_lt_of_le HG1.out.2.1 hb45.size))
        have HN2 := Lib.hid (newest w4 (.cells z17 31 (0, 0)))
        have HE2 := Lib.hid (World.setRow_alloc_new w4 #[.int .i64 0, .bool false, .slice none 0 0, .string ⟨#[]⟩, .string ⟨#[]⟩, .slice none 0 0, .int .i64 0, .slice none 0 0, .int .i64 0, .int .i64 0, .int .u64 0, .string ⟨#[]⟩, .bool false, .int .i64 0, .int .i64 0, .string ⟨#[]⟩, .slice none 0 0] c2 31)
        have HSM := Lib.hid (same_16 _ _ _ _ (HV1.out.later hb45) (hv2.later hb5))
        clear hb4 hb5 hb45 hv2 hz2 ho2 hgc
        go_wp2_with (first
          | (refine wpList_store_row (by rfl) 31 _ _ (by rfl) w4.heap.size c2 (by rfl) (by rfl) 31 z17 HN2.out HS2.out HZ2.out HO2.out ?_; rw [HE2.out])
          | (refine load_row_g (by rfl) 31 _ (by rfl) w2.heap.size (by rfl) 31 c1 (0, 0) _ HX1'.out Tryz.underlying31 (by rfl) HS1.out ?_)
          | (refine load_row_g (by rfl) 31 _ (by rfl) w4.heap.size (by rfl) 31 c2 (0, 0) _ HX2.out Tryz.underlying31 (by rfl) HS2.out ?_))
        refine HSM.out.mono ?_
        clear HSM
        rintro e w6 ⟨rfl, hb6⟩
        have HB6 := Lib.hid (HB5.out.trans (hb6.mono HB5.out.size))
        have x5 : w6.cell? ⟨w2.heap.size, 5, none⟩ = some (.slice (some ⟨g, 0, none⟩) 1 cap) := (hb6.cell (p := ⟨w2.heap.size, 5, none⟩) (lt_of_block HX1'.out)).trans ((cell_of_row _ _ 5 c1 31 (0, 0) HX1'.out).trans HG1.out.1)
        have x6 : w6.cell? ⟨g, 6, none⟩ = some (.slice pa j pc) := (hb6.cell (p := ⟨g, 6, none⟩) HG2.out.2).trans HG2.out.1
        clear hb6
        go_wp2_with fail
        go_ret
        exact ⟨rfl, HB6.out⟩
      · have hlt : (j : Int) < (c : Int) := by omega
        have HJC : Hid (j < c) := Lib.hid (by omega)
        have hc9 := HC3.out
        have hk2 := HK2.out
        have hss := fS_size true j
        have hst := fT_size true k j
        have hs1 : ¬ 9223372036854775807 < (fS true j).size + 4 := by omega
        have ht1 : ¬ 9223372036854775807 < (fT true k j).size + 4 := by omega
        have hwk : wrap64 ((k : Int) + 1) = (k : Int) + 1 := by unfold wrap64; omega
        have hw97 : wrap64 (97 + (j : Int)) = 97 + (j : Int) := by unfold wrap64; omega
        have hu97 : IntKind.u8.wrap (97 + (j : Int)) = 97 + (j : Int) := by rw [IntKind.wrap_u8]; omega
        by_cases hj0 : 0 < j
        · by_cases hjk : j = k
          · have h0 : (0 : Int) < (j : Int) := by omega
            have hek : ((j : Int) == (k : Int)) = true := by simp; omega
            have hek1 : ((j : Int) == (k : Int) + 1) = false := by simp; omega
            obtain ⟨u, hu⟩ : ∃ u, (⟨#[UInt8.ofNat (97 + j)]⟩ : ByteArray) = u := ⟨_, rfl⟩
            have hus : u.size = 1 := by rw [← hu]; rfl
            have hcv := conv_one wr j (by omega)
            rw [hu] at hcv
            have HU := Lib.hid hu
            have z0 : ¬ 9223372036854775807 < (fT true k j).size + 4 + 1 := by omega
            have z1 : ¬ 9223372036854775807 < u.size + 6 := by omega
            have z2 : ¬ 9223372036854775807 < (fS true j).size + 4 + (u.size + 6) := by omega
            have z3 : ¬ 9223372036854775807 < (fT true k j).size + 4 + 1 + (u.size + 6) := by omega
            have HCJ := Lib.hid (And.intro hj0 hjk)
            clear hj0 hjk  hj hjc hc9 hk2 hss hst hus hu
            go_wp2_with fail
            have w1 : wrap64 ((j : Int) + 1) = ((j + 1 : Nat) : Int) := by have := HJC.out; have := HC3.out; unfold wrap64; omega
            try rw [w1]
            refine ⟨⟨j + 1, (by first | rfl | simp), HJC.out, congrArg Value.string ?_, congrArg Value.string ?_, HB.out.alloc HB.out.size _⟩, by have := HJC.out; simp [intOf]; omega⟩
            · simp only [fS, if_pos HCJ.out.1]
              rw [← HU.out]
              rfl
            · simp only [fT, if_pos HCJ.out.1, if_pos HCJ.out.2, if_neg (show ¬ j = k + 1 by have := HCJ.out.2; omega)]
              rw [← HU.out]
              rfl
          · by_cases hjk1 : j = k + 1
            · have h0 : (0 : Int) < (j : Int) := by omega
              have hek : ((j : Int) == (k : Int)) = false := by simp; omega
              have hek1 : ((j : Int) == (k : Int) + 1) = true := by simp; omega
              obtain ⟨u, hu⟩ : ∃ u, (⟨#[UInt8.ofNat (97 + j)]⟩ : ByteArray) = u := ⟨_, rfl⟩
              have hus : u.size = 1 := by rw [← hu]; rfl
              have hcv := conv_one wr j (by omega)
              rw [hu] at hcv
              have HU := Lib.hid hu
              have z0 : ¬ 9223372036854775807 < u.size + 6 := by omega
              have z1 : ¬ 9223372036854775807 < (fS true j).size + 4 + (u.size + 6) := by omega
              have z2 : ¬ 9223372036854775807 < (fT true k j).size + 4 + (u.size + 6) := by omega
              have z3 : ¬ 9223372036854775807 < (fT true k j).size + 4 + (u.size + 6) + 1 := by omega
              have HCJ := Lib.hid (And.intro hj0 (And.intro hjk hjk1))
              clear hj0 hjk hjk1 hj hjc hc9 hk2 hss hst hus hu
              go_wp2_with fail
              have w1 : wrap64 ((j : Int) + 1) = ((j + 1 : Nat) : Int) := by have := HJC.out; have := HC3.out; unfold wrap64; omega
              try rw [w1]
              refine ⟨⟨j + 1, (by first | rfl | simp), HJC.out, congrArg Value.string ?_, congrArg Value.string ?_, HB.out.alloc HB.out.size _⟩, by have := HJC.out; simp [intOf]; omega⟩
              · simp only [fS, if_pos HCJ.out.1]
                rw [← HU.out]
                rfl
              · simp only [fT, if_pos HCJ.out.1, if_neg HCJ.out.2.1, if_pos HCJ.out.2.2]
                rw [← HU.out]
                rfl
            · have h0 : (0 : Int) < (j : Int) := by omega
              have hek : ((j : Int) == (k : Int)) = false := by simp; omega
              have hek1 : ((j : Int) == (k : Int) + 1) = false := by simp; omega
              obtain ⟨u, hu⟩ : ∃ u, (⟨#[UInt8.ofNat (97 + j)]⟩ : ByteArray) = u := ⟨_, rfl⟩
              have hus : u.size = 1 := by rw [← hu]; rfl
              have hcv := conv_one wr j (by omega)
              rw [hu] at hcv
              have HU := Lib.hid hu
              have z0 : ¬ 9223372036854775807 < u.size + 6 := by omega
              have z1 : ¬ 9223372036854775807 < (fS true j).size + 4 + (u.size + 6) := by omega
              have z2 : ¬ 9223372036854775807 < (fT true k j).size + 4 + (u.size + 6) := by omega
              have HCJ := Lib.hid (And.intro hj0 (And.intro hjk hjk1))
              clear hj0 hjk hjk1 hj hjc hc9 hk2 hss hst hus hu
              go_wp2_with fail
              have w1 : wrap64 ((j : Int) + 1) = ((j + 1 : Nat) : Int) := by have := HJC.out; have := HC3.out; unfold wrap64; omega
              try rw [w1]
              refine ⟨⟨j + 1, (by first | rfl | simp), HJC.out, congrArg Value.string ?_, congrArg Value.string ?_, HB.out.alloc HB.out.size _⟩, by have := HJC.out; simp [intOf]; omega⟩
              · simp only [fS, if_pos HCJ.out.1]
                rw [← HU.out]
                rfl
              · simp only [fT, if_pos HCJ.out.1, if_neg HCJ.out.2.1, if_neg HCJ.out.2.2]
                rw [← HU.out]
                rfl
        · by_cases hjk : j = k
          · have h0 : ¬ (0 : Int) < (j : Int) := by omega
            have hek : ((j : Int) == (k : Int)) = true := by simp; omega
            have hek1 : ((j : Int) == (k : Int) + 1) = false := by simp; omega
            obtain ⟨u, hu⟩ : ∃ u, (⟨#[UInt8.ofNat (97 + j)]⟩ : ByteArray) = u := ⟨_, rfl⟩
            have hus : u.size = 1 := by rw [← hu]; rfl
            have hcv := conv_one wr j (by omega)
            rw [hu] at hcv
            have HU := Lib.hid hu
            have z0 : ¬ 9223372036854775807 < (fT true k j).size + 1 := by omega
            have z1 : ¬ 9223372036854775807 < u.size + 6 := by omega
            have z2 : ¬ 9223372036854775807 < (fS true j).size + (u.size + 6) := by omega
            have z3 : ¬ 9223372036854775807 < (fT true k j).size + 1 + (u.size + 6) := by omega
            have HCJ := Lib.hid (And.intro hj0 hjk)
            clear hj0 hjk  hj hjc hc9 hk2 hss hst hus hu
            go_wp2_with fail
            have w1 : wrap64 ((j : Int) + 1) = ((j + 1 : Nat) : Int) := by have := HJC.out; have := HC3.out; unfold wrap64; omega
            try rw [w1]
            refine ⟨⟨j + 1, (by first | rfl | simp), HJC.out, congrArg Value.string ?_, congrArg Value.string ?_, HB.out.alloc HB.out.size _⟩, by have := HJC.out; simp [intOf]; omega⟩
            · simp only [fS, if_neg HCJ.out.1]
              rw [← HU.out]
              rfl
            · simp only [fT, if_neg HCJ.out.1, if_pos HCJ.out.2, if_neg (show ¬ j = k + 1 by have := HCJ.out.2; omega)]
              rw [← HU.out]
              rfl
          · have h0 : ¬ (0 : Int) < (j : Int) := by omega
            have hek : ((j : Int) == (k : Int)) = false := by simp; omega
            have hek1 : ((j : Int) == (k : Int) + 1) = false := by simp; omega
            obtain ⟨u, hu⟩ : ∃ u, (⟨#[UInt8.ofNat (97 + j)]⟩ : ByteArray) = u := ⟨_, rfl⟩
            have hus : u.size = 1 := by rw [← hu]; rfl
            have hcv := conv_one wr j (by omega)
            rw [hu] at hcv
            have HU := Lib.hid hu
            have z0 : ¬ 9223372036854775807 < u.size + 6 := by omega
            have z1 : ¬ 9223372036854775807 < (fS true j).size + (u.size + 6) := by omega
            have z2 : ¬ 9223372036854775807 < (fT true k j).size + (u.size + 6) := by omega
            have HCJ := Lib.hid (And.intro hj0 hjk)
            clear hj0 hjk  hj hjc hc9 hk2 hss hst hus hu
            go_wp2_with fail
            have w1 : wrap64 ((j : Int) + 1) = ((j + 1 : Nat) : Int) := by have := HJC.out; have := HC3.out; unfold wrap64; omega
            try rw [w1]
            refine ⟨⟨j + 1, (by first | rfl | simp), HJC.out, congrArg Value.string ?_, congrArg Value.string ?_, HB.out.alloc HB.out.size _⟩, by have := HJC.out; simp [intOf]; omega⟩
            · simp only [fS, if_neg HCJ.out.1]
              rw [← HU.out]
              rfl
            · simp only [fT, if_neg HCJ.out.1, if_neg HCJ.out.2, if_neg (show ¬ j = k + 1 by have := HCJ.out.1; omega)]
              rw [← HU.out]
              rfl

  | false =>
    go_upto_block 0 with (fail)
    rw [HC.out, HK.out]
    go_wp2_with fail
    go_loopw [10, 11, 33] (fun vs vt vi wr => ∃ j : Nat, vi = .int .i64 j ∧ j ≤ c ∧ vs = .string (fS false j) ∧ vt = .string (fT false k j) ∧ Below w.heap.size w wr) (fun _ _ i _ => c - (intOf i).toNat)
    case atStart => exact ⟨0, rfl, Nat.zero_le _, rfl, rfl, HB1.out⟩
    case round =>
      obtain ⟨j, rfl, hjc, rfl, rfl, hb⟩ := hrel
      have HB := Lib.hid hb
      clear hb
      by_cases hj : j = c
      · subst hj
        have hlt : ¬ (j : Int) < (j : Int) := by omega
        have hc9 := HC3.out
        have hss := fS_size false j
        have hst := fT_size false k j
        have HF := Lib.hid (flat_ok V false j k hc9.1 hc9.2 HK2.out)
        have HP1 := Lib.hid (parse_12 (fS false j) w wr HR.out HB.out (by omega))
        have HP2 := Lib.hid fun w' (hb : Below w.heap.size w w') => parse_12 (fT false k j) w w' HR.out hb (by omega)
        clear hc9 hss hst hjc
        go_wp2_with fail
        refine HP1.out.mono ?_
        clear HP1
        rintro e w2 ⟨hb2, v1, rfl, hv1⟩
        rw [HF.out.1] at hv1 ⊢
        have HB2 := Lib.hid (HB.out.trans (hb2.mono HB.out.size))
        obtain ⟨c1, g, cap, pa, pc, rfl, hz1, ho1, h5, hg, h6⟩ := flat_open hv1
        have hb3 : Below w2.heap.size w2 (w2.alloc (.cells c1 31 (0, 0))) := (Below.refl _ _).alloc (Nat.le_refl _) _
        have HB3 := Lib.hid (HB2.out.trans (hb3.mono HB2.out.size))
        have HV1 := Lib.hid (hv1.later hb3)
        have HZ1 := Lib.hid (show z17.size = c1.size by rw [hz1]; rfl)
        have HS1 := Lib.hid (show (Tryz.prog.info? 31).map (·.size) = some c1.size by rw [hz1]; exact info31s)
        have HO1 := Lib.hid ho1
        have HX1 := Lib.hid (newest w2 (.cells c1 31 (0, 0)))
        have HG1 := Lib.hid (And.intro h5 (And.intro (show g < (w2.alloc (.cells c1 31 (0, 0))).heap.size from Nat.lt_of_lt_of_le hg hb3.size) ((hb3.cell (p := ⟨g, 6, none⟩) hg).trans h6)))
        have HN1 := Lib.hid (newest w2 (.cells z17 31 (0, 0)))
        have HE1 := Lib.hid (World.setRow_alloc_new w2 #[.int .i64 0, .bool false, .slice none 0 0, .string ⟨#[]⟩, .string ⟨#[]⟩, .slice none 0 0, .int .i64 0, .slice none 0 0, .int .i64 0, .int .i64 0, .int .u64 0, .string ⟨#[]⟩, .bool false, .int .i64 0, .int .i64 0, .string ⟨#[]⟩, .slice none 0 0] c1 31)
        have HM2 := Lib.hid (HP2.out _ HB3.out)
        clear hb2 hb3 hv1 hz1 ho1 h5 hg h6 HP2
        go_wp2_with (refine wpList_store_row (by rfl) 31 _ _ (by rfl) w2.heap.size c1 (by rfl) (by rfl) 31 z17 HN1.out HS1.out HZ1.out HO1.out ?_; rw [HE1.out])
        refine HM2.out.mono ?_
        clear HM2
        rintro e w4 ⟨hb4, v2, rfl, hv2⟩
        rw [HF.out.2] at hv2 ⊢
        have HB4 := Lib.hid (HB3.out.trans (hb4.mono HB3.out.size))
        obtain ⟨c2, g', cap', pa', pc', rfl, hz2, ho2, _, _, _⟩ := flat_open hv2
        have hb5 : Below w4.heap.size w4 (w4.alloc (.cells c2 31 (0, 0))) := (Below.refl _ _).alloc (Nat.le_refl _) _
        have HB5 := Lib.hid (HB4.out.trans (hb5.mono HB4.out.size))
        have HZ2 := Lib.hid (show z17.size = c2.size by rw [hz2]; rfl)
        have HS2 := Lib.hid (show (Tryz.prog.info? 31).map (·.size) = some c2.size by rw [hz2]; exact info31s)
        have HO2 := Lib.hid ho2
        have HX2 := Lib.hid (newest w4 (.cells c2 31 (0, 0)))
        have hb45 := hb4.trans (hb5.mono hb4.size)
        have HX1' := Lib.hid ((hb45.block _ (lt_of_block HX1.out)).trans HX1.out)
        have hgc : (w4.alloc (.cells c2 31 (0, 0))).cell? ⟨g, 6, none⟩ = some (.slice pa j pc) := (hb45.cell (p := ⟨g, 6, none⟩) HG1.out.2.1).trans HG1.out.2.2
        have HG2 := Lib.hid (And.intro hgc (Nat.lt_of_lt_of_le HG1.out.2.1 hb45.size))
        have HN2 := Lib.hid (newest w4 (.cells z17 31 (0, 0)))
        have HE2 := Lib.hid (World.setRow_alloc_new w4 #[.int .i64 0, .bool false, .slice none 0 0, .string ⟨#[]⟩, .string ⟨#[]⟩, .slice none 0 0, .int .i64 0, .slice none 0 0, .int .i64 0, .int .i64 0, .int .u64 0, .string ⟨#[]⟩, .bool false, .int .i64 0, .int .i64 0, .string ⟨#[]⟩, .slice none 0 0] c2 31)
        have HSM := Lib.hid (same_16 _ _ _ _ (HV1.out.later hb45) (hv2.later hb5))
        clear hb4 hb5 hb45 hv2 hz2 ho2 hgc
        go_wp2_with (first
          | (refine wpList_store_row (by rfl) 31 _ _ (by rfl) w4.heap.size c2 (by rfl) (by rfl) 31 z17 HN2.out HS2.out HZ2.out HO2.out ?_; rw [HE2.out])
          | (refine load_row_g (by rfl) 31 _ (by rfl) w2.heap.size (by rfl) 31 c1 (0, 0) _ HX1'.out Tryz.underlying31 (by rfl) HS1.out ?_)
          | (refine load_row_g (by rfl) 31 _ (by rfl) w4.heap.size (by rfl) 31 c2 (0, 0) _ HX2.out Tryz.underlying31 (by rfl) HS2.out ?_))
        refine HSM.out.mono ?_
        clear HSM
        rintro e w6 ⟨rfl, hb6⟩
        have HB6 := Lib.hid (HB5.out.trans (hb6.mono HB5.out.size))
        have x5 : w6.cell? ⟨w2.heap.size, 5, none⟩ = some (.slice (some ⟨g, 0, none⟩) 1 cap) := (hb6.cell (p := ⟨w2.heap.size, 5, none⟩) (lt_of_block HX1'.out)).trans ((cell_of_row _ _ 5 c1 31 (0, 0) HX1'.out).trans HG1.out.1)
        have x6 : w6.cell? ⟨g, 6, none⟩ = some (.slice pa j pc) := (hb6.cell (p := ⟨g, 6, none⟩) HG2.out.2).trans HG2.out.1
        clear hb6
        go_wp2_with fail
        go_ret
        exact ⟨rfl, HB6.out⟩
      · have hlt : (j : Int) < (c : Int) := by omega
        have HJC : Hid (j < c) := Lib.hid (by omega)
        have hc9 := HC3.out
        have hk2 := HK2.out
        have hss := fS_size false j
        have hst := fT_size false k j
        have hs1 : ¬ 9223372036854775807 < (fS false j).size + 5 := by omega
        have ht1 : ¬ 9223372036854775807 < (fT false k j).size + 5 := by omega
        have hwk : wrap64 ((k : Int) + 1) = (k : Int) + 1 := by unfold wrap64; omega
        have hw97 : wrap64 (97 + (j : Int)) = 97 + (j : Int) := by unfold wrap64; omega
        have hu97 : IntKind.u8.wrap (97 + (j : Int)) = 97 + (j : Int) := by rw [IntKind.wrap_u8]; omega
        by_cases hj0 : 0 < j
        · by_cases hjk : j = k
          · have h0 : (0 : Int) < (j : Int) := by omega
            have hek : ((j : Int) == (k : Int)) = true := by simp; omega
            have hek1 : ((j : Int) == (k : Int) + 1) = false := by simp; omega
            obtain ⟨u, hu⟩ : ∃ u, (⟨#[UInt8.ofNat (97 + j)]⟩ : ByteArray) = u := ⟨_, rfl⟩
            have hus : u.size = 1 := by rw [← hu]; rfl
            have hcv := conv_one wr j (by omega)
            rw [hu] at hcv
            have HU := Lib.hid hu
            have z0 : ¬ 9223372036854775807 < (fT false k j).size + 5 + 1 := by omega
            have z1 : ¬ 9223372036854775807 < u.size + 6 := by omega
            have z2 : ¬ 9223372036854775807 < (fS false j).size + 5 + (u.size + 6) := by omega
            have z3 : ¬ 9223372036854775807 < (fT false k j).size + 5 + 1 + (u.size + 6) := by omega
            have HCJ := Lib.hid (And.intro hj0 hjk)
            clear hj0 hjk  hj hjc hc9 hk2 hss hst hus hu
            go_wp2_with fail
            have w1 : wrap64 ((j : Int) + 1) = ((j + 1 : Nat) : Int) := by have := HJC.out; have := HC3.out; unfold wrap64; omega
            try rw [w1]
            refine ⟨⟨j + 1, (by first | rfl | simp), HJC.out, congrArg Value.string ?_, congrArg Value.string ?_, HB.out.alloc HB.out.size _⟩, by have := HJC.out; simp [intOf]; omega⟩
            · simp only [fS, if_pos HCJ.out.1]
              rw [← HU.out]
              rfl
            · simp only [fT, if_pos HCJ.out.1, if_pos HCJ.out.2, if_neg (show ¬ j = k + 1 by have := HCJ.out.2; omega)]
              rw [← HU.out]
              rfl
          · by_cases hjk1 : j = k + 1
            · have h0 : (0 : Int) < (j : Int) := by omega
              have hek : ((j : Int) == (k : Int)) = false := by simp; omega
              have hek1 : ((j : Int) == (k : Int) + 1) = true := by simp; omega
              obtain ⟨u, hu⟩ : ∃ u, (⟨#[UInt8.ofNat (97 + j)]⟩ : ByteArray) = u := ⟨_, rfl⟩
              have hus : u.size = 1 := by rw [← hu]; rfl
              have hcv := conv_one wr j (by omega)
              rw [hu] at hcv
              have HU := Lib.hid hu
              have z0 : ¬ 9223372036854775807 < u.size + 6 := by omega
              have z1 : ¬ 9223372036854775807 < (fS false j).size + 5 + (u.size + 6) := by omega
              have z2 : ¬ 9223372036854775807 < (fT false k j).size + 5 + (u.size + 6) := by omega
              have z3 : ¬ 9223372036854775807 < (fT false k j).size + 5 + (u.size + 6) + 1 := by omega
              have HCJ := Lib.hid (And.intro hj0 (And.intro hjk hjk1))
              clear hj0 hjk hjk1 hj hjc hc9 hk2 hss hst hus hu
              go_wp2_with fail
              have w1 : wrap64 ((j : Int) + 1) = ((j + 1 : Nat) : Int) := by have := HJC.out; have := HC3.out; unfold wrap64; omega
              try rw [w1]
              refine ⟨⟨j + 1, (by first | rfl | simp), HJC.out, congrArg Value.string ?_, congrArg Value.string ?_, HB.out.alloc HB.out.size _⟩, by have := HJC.out; simp [intOf]; omega⟩
              · simp only [fS, if_pos HCJ.out.1]
                rw [← HU.out]
                rfl
              · simp only [fT, if_pos HCJ.out.1, if_neg HCJ.out.2.1, if_pos HCJ.out.2.2]
                rw [← HU.out]
                rfl
            · have h0 : (0 : Int) < (j : Int) := by omega
              have hek : ((j : Int) == (k : Int)) = false := by simp; omega
              have hek1 : ((j : Int) == (k : Int) + 1) = false := by simp; omega
              obtain ⟨u, hu⟩ : ∃ u, (⟨#[UInt8.ofNat (97 + j)]⟩ : ByteArray) = u := ⟨_, rfl⟩
              have hus : u.size = 1 := by rw [← hu]; rfl
              have hcv := conv_one wr j (by omega)
              rw [hu] at hcv
              have HU := Lib.hid hu
              have z0 : ¬ 9223372036854775807 < u.size + 6 := by omega
              have z1 : ¬ 9223372036854775807 < (fS false j).size + 5 + (u.size + 6) := by omega
              have z2 : ¬ 9223372036854775807 < (fT false k j).size + 5 + (u.size + 6) := by omega
              have HCJ := Lib.hid (And.intro hj0 (And.intro hjk hjk1))
              clear hj0 hjk hjk1 hj hjc hc9 hk2 hss hst hus hu
              go_wp2_with fail
              have w1 : wrap64 ((j : Int) + 1) = ((j + 1 : Nat) : Int) := by have := HJC.out; have := HC3.out; unfold wrap64; omega
              try rw [w1]
              refine ⟨⟨j + 1, (by first | rfl | simp), HJC.out, congrArg Value.string ?_, congrArg Value.string ?_, HB.out.alloc HB.out.size _⟩, by have := HJC.out; simp [intOf]; omega⟩
              · simp only [fS, if_pos HCJ.out.1]
                rw [← HU.out]
                rfl
              · simp only [fT, if_pos HCJ.out.1, if_neg HCJ.out.2.1, if_neg HCJ.out.2.2]
                rw [← HU.out]
                rfl
        · by_cases hjk : j = k
          · have h0 : ¬ (0 : Int) < (j : Int) := by omega
            have hek : ((j : Int) == (k : Int)) = true := by simp; omega
            have hek1 : ((j : Int) == (k : Int) + 1) = false := by simp; omega
            obtain ⟨u, hu⟩ : ∃ u, (⟨#[UInt8.ofNat (97 + j)]⟩ : ByteArray) = u := ⟨_, rfl⟩
            have hus : u.size = 1 := by rw [← hu]; rfl
            have hcv := conv_one wr j (by omega)
            rw [hu] at hcv
            have HU := Lib.hid hu
            have z0 : ¬ 9223372036854775807 < (fT false k j).size + 1 := by omega
            have z1 : ¬ 9223372036854775807 < u.size + 6 := by omega
            have z2 : ¬ 9223372036854775807 < (fS false j).size + (u.size + 6) := by omega
            have z3 : ¬ 9223372036854775807 < (fT false k j).size + 1 + (u.size + 6) := by omega
            have HCJ := Lib.hid (And.intro hj0 hjk)
            clear hj0 hjk  hj hjc hc9 hk2 hss hst hus hu
            go_wp2_with fail
            have w1 : wrap64 ((j : Int) + 1) = ((j + 1 : Nat) : Int) := by have := HJC.out; have := HC3.out; unfold wrap64; omega
            try rw [w1]
            refine ⟨⟨j + 1, (by first | rfl | simp), HJC.out, congrArg Value.string ?_, congrArg Value.string ?_, HB.out.alloc HB.out.size _⟩, by have := HJC.out; simp [intOf]; omega⟩
            · simp only [fS, if_neg HCJ.out.1]
              rw [← HU.out]
              rfl
            · simp only [fT, if_neg HCJ.out.1, if_pos HCJ.out.2, if_neg (show ¬ j = k + 1 by have := HCJ.out.2; omega)]
              rw [← HU.out]
              rfl
          · have h0 : ¬ (0 : Int) < (j : Int) := by omega
            have hek : ((j : Int) == (k : Int)) = false := by simp; omega
            have hek1 : ((j : Int) == (k : Int) + 1) = false := by simp; omega
            obtain ⟨u, hu⟩ : ∃ u, (⟨#[UInt8.ofNat (97 + j)]⟩ : ByteArray) = u := ⟨_, rfl⟩
            have hus : u.size = 1 := by rw [← hu]; rfl
            have hcv := conv_one wr j (by omega)
            rw [hu] at hcv
            have HU := Lib.hid hu
            have z0 : ¬ 9223372036854775807 < u.size + 6 := by omega
            have z1 : ¬ 9223372036854775807 < (fS false j).size + (u.size + 6) := by omega
            have z2 : ¬ 9223372036854775807 < (fT false k j).size + (u.size + 6) := by omega
            have HCJ := Lib.hid (And.intro hj0 hjk)
            clear hj0 hjk  hj hjc hc9 hk2 hss hst hus hu
            go_wp2_with fail
            have w1 : wrap64 ((j : Int) + 1) = ((j + 1 : Nat) : Int) := by have := HJC.out; have := HC3.out; unfold wrap64; omega
            try rw [w1]
            refine ⟨⟨j + 1, (by first | rfl | simp), HJC.out, congrArg Value.string ?_, congrArg Value.string ?_, HB.out.alloc HB.out.size _⟩, by have := HJC.out; simp [intOf]; omega⟩
            · simp only [fS, if_neg HCJ.out.1]
              rw [← HU.out]
              rfl
            · simp only [fT, if_neg HCJ.out.1, if_neg HCJ.out.2, if_neg (show ¬ j = k + 1 by have := HCJ.out.1; omega)]
              rw [← HU.out]
              rfl

end Go.Proofs.YtigicmnngppipaaGreatDoor.Tp
/- A world that holds what the row lists: the row's witness; the cells of the two tables of powers out of the row's condition. No condition. -/
namespace Go.Proofs.YtigicmnngppipaaGreatDoor.Laid
def lst : List (String × DataW Unit) := Rows.treeParsesRow.laid
set_option maxRecDepth 100000 in
theorem fits (os : Os) : (World.holding Tryz.prog os ⟨#[], #[], []⟩).layFits Tryz.prog lst [] = true := by kernel_rfl
set_option maxRecDepth 100000 in
theorem ifaces (os : Os) : (World.holding Tryz.prog os ⟨#[], #[], []⟩).layIfaces Tryz.prog lst (World.laidAll Tryz.prog os lst) = true := by kernel_rfl
set_option maxRecDepth 100000 in
theorem plain : (lst.all fun x => x.2.handleName?.isNone) = true := by kernel_rfl
theorem met (os : Os) (args : Array Value) : laidMetH Tryz.prog lst ((World.laidAll Tryz.prog os lst).forCall (fun _ _ => 0) ⟨#[], args, []⟩).memory := by
  rw [MakeChecks.laidMetH_plain _ _ _ plain]
  exact laidMet_laidAll _ (fits os) (ifaces os)
set_option maxRecDepth 100000 in
theorem zipB (os : Os) (args : Array Value) : ((World.laidAll Tryz.prog os lst).forCall (fun _ _ => 0) ⟨#[], args, []⟩).variablesZipB Tryz.prog = true := by kernel_rfl
set_option maxRecDepth 100000 in
theorem dropB (os : Os) (args : Array Value) : (((World.laidAll Tryz.prog os lst).forCall (fun _ _ => 0) ⟨#[], args, []⟩).heap.toList.drop Tryz.prog.globals.size).take ((begin Tryz.prog (fun _ _ => 0) default).world.heap.size - Tryz.prog.globals.size) =
      (begin Tryz.prog (fun _ _ => 0) default).world.heap.toList.drop Tryz.prog.globals.size := by kernel_rfl
theorem shaped (os : Os) (args : Array Value) : ((World.laidAll Tryz.prog os lst).forCall (fun _ _ => 0) ⟨#[], args, []⟩).Shaped Tryz.prog := World.shaped_of_ZipB (zipB os args) (dropB os args)
end Go.Proofs.YtigicmnngppipaaGreatDoor.Laid
