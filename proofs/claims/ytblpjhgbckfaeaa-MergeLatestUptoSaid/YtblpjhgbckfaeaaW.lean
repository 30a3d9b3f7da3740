/- latest, walked: the value of the last point that has the key and the time. Condition: the bounds. -/
import Derived.Test.YtblpjhgbckfaeaaV
namespace Go.Proofs.Ytblpjhgbckfaeaa
open Go.RowKit Go.Sort
def pvN : PV := ⟨-77, 0, ⟨#[]⟩⟩
def lastO (T : List Tp) (k : Ky) (t : Int) : PV := (lastV T k t).getD pvN
theorem lastO_snoc (T : List Tp) (a b : ByteArray) (u : Int) (v : PV) (se fi : ByteArray) (t : Int) : lastO (T ++ [⟨(a, b), u, v⟩]) (se, fi) t = if ((a.toList == se.toList) && ((b.toList == fi.toList) && decide (u = t))) = true then v else lastO T (se, fi) t := by
  unfold lastO
  rw [lastV_one]
  by_cases h : (a, b) = (se, fi) ∧ u = t
  · rw [if_pos ((hit_iff ..).2 h)]
    obtain ⟨h1, h2⟩ := h
    injection h1 with h1 h3
    rw [if_pos ⟨h1, h3, h2⟩]; rfl
  · rw [if_neg (fun e => h ((hit_iff ..).1 e)), if_neg (fun e => h ⟨by rw [e.1, e.2.1], e.2.2⟩)]
/-- The answer's cells: what is returned, and what has been found so far. -/
def Found (wr : World) (rb vb : Nat) (z : PV) : Prop := (∃ u : PV, wr.heap[rb]? = some (.cells #[.int .i64 u.kd, .int .u64 u.bits, .string u.text] 31 (0, 0))) ∧ wr.heap[vb]? = some (.cells #[.int .i64 z.kd, .int .u64 z.bits, .string z.text] 31 (0, 0))
theorem Found.later {w w' : World} {rb vb : Nat} {z : PV} (h : Found w rb vb z) (hb : Below w.heap.size w w') : Found w' rb vb z := by
  obtain ⟨⟨u, h1⟩, h2⟩ := h
  exact ⟨⟨u, (hb.block _ (heap_lt h1)).trans h1⟩, (hb.block _ (heap_lt h2)).trans h2⟩
def InL1 (w : World) (rb vb : Nat) (LS : List LL) (se fi : ByteArray) (t : Int) (n : Nat) (i : Value) (wr : World) : Prop := ∃ k : Nat, k ≤ n ∧ i = .int .i64 k ∧ Found wr rb vb (lastO (trL (LS.take k)) (se, fi) t) ∧ Below w.heap.size w wr
def InL2 (w : World) (rb vb : Nat) (T0 : List Tp) (C : List CC) (se fi : ByteArray) (t : Int) (n : Nat) (i : Value) (wr : World) : Prop := ∃ k : Nat, k ≤ n ∧ i = .int .i64 k ∧ Found wr rb vb (lastO (T0 ++ trC (C.take k)) (se, fi) t) ∧ Below w.heap.size w wr
def InL3 (w : World) (rb vb cb : Nat) (T0 : List Tp) (x : CC) (se fi : ByteArray) (t : Int) (n : Nat) (i : Value) (wr : World) : Prop := ∃ k : Nat, k ≤ n ∧ i = .int .i64 k ∧ Found wr rb vb (lastO (T0 ++ trP x.se x.fi (x.pts.take k)) (se, fi) t) ∧ wr.heap[cb]? = some (.cells #[.string x.se, .string x.fi, x.v] 28 (0, 0)) ∧ Below w.heap.size w wr
theorem found_set {w wr : World} {rb vb cb : Nat} {z v : PV} {cs : Array Value} (hf : Found wr rb vb z) (hne : rb ≠ vb) (hv : w.heap.size ≤ vb) (hc : wr.heap[cb]? = some (.cells cs 28 (0, 0))) (hb : Below w.heap.size w wr) :
    let w' := ((wr.setCell ⟨vb, 0, none⟩ (.int .i64 v.kd)).setCell ⟨vb, 1, none⟩ (.int .u64 v.bits)).setCell ⟨vb, 2, none⟩ (.string v.text)
    Found w' rb vb v ∧ w'.heap[cb]? = some (.cells cs 28 (0, 0)) ∧ Below w.heap.size w w' := by
  intro w'
  obtain ⟨⟨u, h1⟩, h2⟩ := hf
  have hk : ∀ k, k ≠ vb → w'.heap[k]? = wr.heap[k]? := fun k hk => by
    show (World.setCell _ _ _).heap[k]? = _
    rw [Below.heap_setCell _ _ _ _ hk, Below.heap_setCell _ _ _ _ hk, Below.heap_setCell _ _ _ _ hk]
  have e1 := heap_setCell_same wr vb 0 _ _ (.int .i64 v.kd) h2
  have e2 := heap_setCell_same _ vb 1 _ _ (.int .u64 v.bits) e1
  have e3 := heap_setCell_same _ vb 2 _ _ (.string v.text) e2
  have hcv : cb ≠ vb := fun e => by rw [e, h2] at hc; simp at hc
  refine ⟨⟨⟨u, (hk rb hne).trans h1⟩, e3⟩, (hk cb hcv).trans hc, hb.os, hb.tape, hb.output, ?_, fun k hk' => (hk k (by omega)).trans (hb.block k hk')⟩
  have : w'.heap.size = wr.heap.size := by simp [w', World.setCell]
  rw [this]; exact hb.size
theorem info31 : (Try.prog.info? 31).map (·.size) = some 3 := by kernel_rfl
set_option maxRecDepth 100000 in
set_option maxHeartbeats 4000000 in
theorem latest8 (w : World) (v : Value) (LS : List LL) (se fi : ByteArray) (t : Int) (hin : ListsIn w v LS) (hN : (trL LS).length ≤ 1000000000) (hS : LS.length ≤ 1000000000) (hS2 : ∀ x ∈ LS, x.cs.length ≤ 1000000000) (z : PV) (hz : lastO (trL LS) (se, fi) t = z) :
    Calls Try.prog 8 #[v, .string se, .string fi, .int .i64 t] w fun e w' => e = .returned (.agg #[.int .i64 z.kd, .int .u64 z.bits, .string z.text]) ∧ Below w.heap.size w w' := by
  obtain ⟨a, c, rfl⟩ := lists_form hin
  obtain ⟨n, hn⟩ : ∃ n, LS.length = n := ⟨_, rfl⟩
  rw [hn] at hin hS ⊢
  have HIN := Lib.hid hin
  have HNN := Lib.hid hn
  have HN := Lib.hid hN
  have HS2 := Lib.hid hS2
  have HZ := Lib.hid hz
  clear hin hn hN hS2 hz
  have hr1 := heap_alloc_new w (.cells #[.int .i64 0, .int .u64 0, .string ⟨#[]⟩] 31)
  have hb1 := (Below.refl w.heap.size w).alloc (Nat.le_refl _) (.cells #[.int .i64 0, .int .u64 0, .string ⟨#[]⟩] 31)
  have hs1 : (w.alloc (.cells #[.int .i64 0, .int .u64 0, .string ⟨#[]⟩] 31)).heap.size = w.heap.size + 1 := by simp
  have hr2 := (heap_alloc_old (w.alloc (.cells #[.int .i64 0, .int .u64 0, .string ⟨#[]⟩] 31)) (.cells #[.int .i64 (-77), .int .u64 0, .string ⟨#[]⟩] 31) (show w.heap.size < _ by rw [hs1]; omega)).trans hr1
  have hv2 := heap_alloc_new (w.alloc (.cells #[.int .i64 0, .int .u64 0, .string ⟨#[]⟩] 31)) (.cells #[.int .i64 (-77), .int .u64 0, .string ⟨#[]⟩] 31)
  have hb2 := hb1.alloc hb1.size (.cells #[.int .i64 (-77), .int .u64 0, .string ⟨#[]⟩] 31)
  rw [hs1] at hv2
  have HF0 := Lib.hid (show Found ((w.alloc (.cells #[.int .i64 0, .int .u64 0, .string ⟨#[]⟩] 31)).alloc (.cells #[.int .i64 (-77), .int .u64 0, .string ⟨#[]⟩] 31)) w.heap.size (w.heap.size + 1) pvN from ⟨⟨⟨0, 0, ⟨#[]⟩⟩, hr2⟩, hv2⟩)
  have HB0 := Lib.hid hb2
  clear hr1 hb1 hs1 hr2 hv2 hb2
  go_enter Try.func8, Try.ntmps8
  go_wp2_with fail
  obtain ⟨rb, hrb⟩ : ∃ rb, w.heap.size = rb := ⟨_, rfl⟩
  obtain ⟨vb, hvb⟩ : ∃ vb, w.heap.size + 1 = vb := ⟨_, rfl⟩
  have HRV := Lib.hid (show rb ≠ vb ∧ w.heap.size ≤ vb by omega)
  have HRB := Lib.hid hrb
  rw [hvb, hrb] at HF0
  rw [hvb, hrb]
  clear hvb hrb
  go_loopw [18] (fun i wr => InL1 w rb vb LS se fi t n i wr) (fun i _ => n - (intOf i).toNat)
  case atStart => exact ⟨0, Nat.zero_le _, rfl, HF0.out, HB0.out⟩
  case round =>
    obtain ⟨k, hkn, rfl, hf, hb⟩ := hrel
    have HF2 := Lib.hid hf
    have HB2 := Lib.hid hb
    clear hf hb HF0 HB0
    by_cases hlt : k < n
    · obtain ⟨x, hx⟩ : ∃ x, LS[k]? = some x := ⟨_, List.getElem?_eq_getElem (by rw [HNN.out]; exact hlt)⟩
      obtain ⟨_, b, o, rfl, q0⟩ := lists_at HIN.out HB2.out hx
      obtain ⟨hcin, _⟩ := lists_at HIN.out (Below.refl _ _) hx
      obtain ⟨xv, C⟩ := x
      simp only at hcin q0
      obtain ⟨ca, cc, rfl⟩ := cols_form hcin
      obtain ⟨n2, hn2⟩ : ∃ n2, C.length = n2 := ⟨_, rfl⟩
      have hn2' : n2 ≤ 1000000000 := by rw [← hn2]; exact HS2.out _ (List.mem_of_getElem? hx)
      rw [hn2] at hcin q0 hx
      have hT : (trL (LS.take k)).length + (trC C).length ≤ 1000000000 := by
        have h1 := trL_take_le LS (k + 1)
        rw [trL_snoc hx, List.length_append] at h1
        have := HN.out
        simp only at h1
        omega
      have HCIN := Lib.hid hcin
      have HX := Lib.hid hx
      have HN2 := Lib.hid hn2
      have HT := Lib.hid hT
      obtain ⟨T0, hT0⟩ : ∃ T0, trL (LS.take k) = T0 := ⟨_, rfl⟩
      rw [hT0] at HT HF2
      have HT0 := Lib.hid hT0
      clear hcin hx hn2 hT hT0
      go_wp2_with fail
      clear q0
      go_loopw [26] (fun i wr => InL2 w rb vb T0 C se fi t n2 i wr) (fun i _ => n2 - (intOf i).toNat)
      case atStart => exact ⟨0, Nat.zero_le _, rfl, by rw [List.take_zero]; simpa [trC] using HF2.out, HB2.out⟩
      case round =>
        obtain ⟨j, hjn, rfl, hf, hb⟩ := hrel
        have HF3 := Lib.hid hf
        have HB3 := Lib.hid hb
        clear hf hb HF2 HB2
        by_cases hlt2 : j < n2
        · obtain ⟨y, hy⟩ : ∃ y, C[j]? = some y := ⟨_, List.getElem?_eq_getElem (by rw [HN2.out]; exact hlt2)⟩
          obtain ⟨_, _, _, b2, o2, rfl, q0, q1, q2⟩ := cols_at HCIN.out HB3.out hy
          obtain ⟨_, _, hpin, _⟩ := cols_at HCIN.out (Below.refl _ _) hy
          obtain ⟨xse, xfi, yv, P⟩ := y
          simp only at hpin q0 q1 q2
          obtain ⟨pa, pc, rfl⟩ := pts_form hpin
          obtain ⟨n3, hn3⟩ : ∃ n3, P.length = n3 := ⟨_, rfl⟩
          rw [hn3] at hpin q2 hy
          have hn3' : n3 ≤ 1000000000 := by
            have h1 := trC_take_le C (j + 1)
            rw [trC_snoc hy, List.length_append] at h1
            have := HT.out
            simp only [trP, List.length_map] at h1
            omega
          obtain ⟨T1, hT1⟩ : ∃ T1, T0 ++ trC (C.take j) = T1 := ⟨_, rfl⟩
          rw [hT1] at HF3
          have HY := Lib.hid hy
          have HN3 := Lib.hid hn3
          have HT1 := Lib.hid hT1
          have HPIN := Lib.hid hpin
          have hb1 := (Below.refl wr.heap.size wr).alloc (Nat.le_refl _) (.cells #[.string xse, .string xfi, .slice pa n3 pc] 28)
          have hc1 := heap_alloc_new wr (.cells #[.string xse, .string xfi, .slice pa n3 pc] 28)
          obtain ⟨w1, hw1⟩ : ∃ w1, wr.alloc (.cells #[.string xse, .string xfi, .slice pa n3 pc] 28) = w1 := ⟨_, rfl⟩
          rw [hw1] at hb1 hc1
          obtain ⟨cb, hcb⟩ : ∃ cb, wr.heap.size = cb := ⟨_, rfl⟩
          rw [hcb] at hc1
          have HF1 := Lib.hid (HF3.out.later hb1)
          have HB1 := Lib.hid (HB3.out.trans (hb1.mono HB3.out.size))
          have HC1 := Lib.hid hc1
          have c2 : w1.cell? ⟨cb, 2, none⟩ = some (.slice pa n3 pc) := by simp [World.cell?, hc1]
          clear hpin hn3 hT1 hy hb1 hc1 HF3 HB3
          go_wp2_with fail
          clear c2 q0 q1 q2 hw1 hcb
          go_loopw [33] (fun i wr => InL3 w rb vb cb T1 ⟨xse, xfi, .slice pa n3 pc, P⟩ se fi t n3 i wr) (fun i _ => n3 - (intOf i).toNat)
          case atStart => exact ⟨0, Nat.zero_le _, rfl, by rw [List.take_zero]; simpa [trP] using HF1.out, HC1.out, HB1.out⟩
          case round =>
            obtain ⟨i, hin, rfl, hf, hc, hb⟩ := hrel
            simp only at hf hc
            obtain ⟨u, hu⟩ : ∃ u, lastO (T1 ++ trP xse xfi (P.take i)) (se, fi) t = u := ⟨_, rfl⟩
            rw [hu] at hf
            have HU := Lib.hid hu
            have HF4 := Lib.hid hf
            have HC4 := Lib.hid hc
            have HB4 := Lib.hid hb
            clear hf hc hb hu HF1 HC1 HB1
            by_cases hlt3 : i < n3
            · obtain ⟨p, hp⟩ : ∃ p, P[i]? = some p := ⟨_, List.getElem?_eq_getElem (by rw [HN3.out]; exact hlt3)⟩
              obtain ⟨_, b3, o3, rfl, q0, q1, q2, q3⟩ := pts_at HPIN.out HB4.out hp
              have hb1 := (Below.refl wr.heap.size wr).alloc (Nat.le_refl _) (.cells #[.int .i64 p.1, .int .i64 p.2.kd, .int .u64 p.2.bits, .string p.2.text] 33)
              have hp1 := heap_alloc_new wr (.cells #[.int .i64 p.1, .int .i64 p.2.kd, .int .u64 p.2.bits, .string p.2.text] 33)
              obtain ⟨w5, hw5⟩ : ∃ w5, wr.alloc (.cells #[.int .i64 p.1, .int .i64 p.2.kd, .int .u64 p.2.bits, .string p.2.text] 33) = w5 := ⟨_, rfl⟩
              rw [hw5] at hb1 hp1
              obtain ⟨pb, hpb⟩ : ∃ pb, wr.heap.size = pb := ⟨_, rfl⟩
              rw [hpb] at hp1
              have HF5 := Lib.hid (HF4.out.later hb1)
              have HC5 := Lib.hid ((hb1.block _ (heap_lt HC4.out)).trans HC4.out)
              have HB5 := Lib.hid (HB4.out.trans (hb1.mono HB4.out.size))
              have c0 : w5.cell? ⟨cb, 0, none⟩ = some (.string xse) := by have := HC5.out; simp [World.cell?, this]
              have c1 : w5.cell? ⟨cb, 1, none⟩ = some (.string xfi) := by have := HC5.out; simp [World.cell?, this]
              have p0 : w5.cell? ⟨pb, 0, none⟩ = some (.int .i64 p.1) := by simp [World.cell?, hp1]
              have p1 : w5.cell? ⟨pb, 1, none⟩ = some (.int .i64 p.2.kd) := by simp [World.cell?, hp1]
              have p2 : w5.cell? ⟨pb, 2, none⟩ = some (.int .u64 p.2.bits) := by simp [World.cell?, hp1]
              have p3 : w5.cell? ⟨pb, 3, none⟩ = some (.string p.2.text) := by simp [World.cell?, hp1]
              have hv5 := HF5.out.2
              have v0 : w5.cell? ⟨vb, 0, none⟩ = some (.int .i64 u.kd) := by simp [World.cell?, hv5]
              have v1 : w5.cell? ⟨vb, 1, none⟩ = some (.int .u64 u.bits) := by simp [World.cell?, hv5]
              have v2 : w5.cell? ⟨vb, 2, none⟩ = some (.string u.text) := by simp [World.cell?, hv5]
              have y0 : w5.frozen? ⟨vb, 0, none⟩ = false := by simp [World.frozen?, hv5]
              have y1 : w5.frozen? ⟨vb, 1, none⟩ = false := by simp [World.frozen?, hv5]
              have y2 : w5.frozen? ⟨vb, 2, none⟩ = false := by simp [World.frozen?, hv5]
              have hsn : lastO (T1 ++ trP xse xfi (P.take (i + 1))) (se, fi) t = if ((xse.toList == se.toList) && ((xfi.toList == fi.toList) && decide (p.1 = t))) = true then p.2 else u := by rw [trP_snoc hp, ← List.append_assoc, lastO_snoc, HU.out]
              clear hp hb1 hp1 hv5
              cases h1 : (xse.toList == se.toList) with
              | false =>
                have HC := Lib.hid (show lastO (T1 ++ trP xse xfi (P.take (i + 1))) (se, fi) t = u by rw [hsn, h1]; simp)
                clear hsn
                go_wp2_with fail
                go_roundw
                case rel => exact ⟨i + 1, by omega, by go_num, by rw [HC.out]; exact HF5.out, HC5.out, HB5.out⟩
                case measure => simp [intOf]; omega
              | true =>
                cases h2 : (xfi.toList == fi.toList) with
                | false =>
                  have HC := Lib.hid (show lastO (T1 ++ trP xse xfi (P.take (i + 1))) (se, fi) t = u by rw [hsn, h1, h2]; simp)
                  clear hsn
                  go_wp2_with fail
                  go_roundw
                  case rel => exact ⟨i + 1, by omega, by go_num, by rw [HC.out]; exact HF5.out, HC5.out, HB5.out⟩
                  case measure => simp [intOf]; omega
                | true =>
                  cases h3 : (p.1 == t) with
                  | true =>
                    have HC := Lib.hid (show lastO (T1 ++ trP xse xfi (P.take (i + 1))) (se, fi) t = p.2 by rw [hsn, h1, h2, show decide (p.1 = t) = true from h3]; simp)
                    clear hsn
                    go_wp2_with fail
                    go_roundw
                    case rel => exact ⟨i + 1, by omega, by go_num, by rw [HC.out]; exact (found_set HF5.out HRV.out.1 HRV.out.2 HC5.out HB5.out).1, (found_set HF5.out HRV.out.1 HRV.out.2 HC5.out HB5.out).2.1, (found_set HF5.out HRV.out.1 HRV.out.2 HC5.out HB5.out).2.2⟩
                    case measure => simp [intOf]; omega
                  | false =>
                    have HC := Lib.hid (show lastO (T1 ++ trP xse xfi (P.take (i + 1))) (se, fi) t = u by rw [hsn, h1, h2, show decide (p.1 = t) = false from h3]; simp)
                    clear hsn
                    go_wp2_with fail
                    go_roundw
                    case rel => exact ⟨i + 1, by omega, by go_num, by rw [HC.out]; exact HF5.out, HC5.out, HB5.out⟩
                    case measure => simp [intOf]; omega
            · have hi3 : i = n3 := by omega
              have HI3 := Lib.hid hi3
              clear hi3
              go_wp2_with fail
              go_roundw
              case rel => exact ⟨j + 1, by omega, by go_num, by
                rw [trC_snoc HY.out, ← List.append_assoc, HT1.out]
                have h1 := HU.out
                rw [List.take_of_length_le (by rw [HN3.out, HI3.out]; exact Nat.le_refl _)] at h1
                rw [h1]
                exact HF4.out, HB4.out⟩
              case measure => simp [intOf]; omega
        · have hj2 : j = n2 := by omega
          have HJ2 := Lib.hid hj2
          clear hj2
          go_wp2_with fail
          go_roundw
          case rel => exact ⟨k + 1, by omega, by go_num, by
            have h1 := HF3.out
            rw [List.take_of_length_le (by rw [HN2.out, HJ2.out]; exact Nat.le_refl _), ← HT0.out] at h1
            rw [trL_snoc HX.out]
            exact h1, HB3.out⟩
          case measure => simp [intOf]; omega
    · have hk : k = n := by omega
      have HK := Lib.hid hk
      have hf := HF2.out
      rw [List.take_of_length_le (by rw [HNN.out, hk]; exact Nat.le_refl _), HZ.out] at hf
      obtain ⟨⟨u, hr⟩, hv⟩ := hf
      have v0 : wr.cell? ⟨vb, 0, none⟩ = some (.int .i64 z.kd) := by simp [World.cell?, hv]
      have v1 : wr.cell? ⟨vb, 1, none⟩ = some (.int .u64 z.bits) := by simp [World.cell?, hv]
      have v2 : wr.cell? ⟨vb, 2, none⟩ = some (.string z.text) := by simp [World.cell?, hv]
      have r0 : wr.cell? ⟨rb, 0, none⟩ = some (.int .i64 u.kd) := by simp [World.cell?, hr]
      have r1 : wr.cell? ⟨rb, 1, none⟩ = some (.int .u64 u.bits) := by simp [World.cell?, hr]
      have r2 : wr.cell? ⟨rb, 2, none⟩ = some (.string u.text) := by simp [World.cell?, hr]
      have y0 : wr.frozen? ⟨rb, 0, none⟩ = false := by simp [World.frozen?, hr]
      have y1 : wr.frozen? ⟨rb, 1, none⟩ = false := by simp [World.frozen?, hr]
      have y2 : wr.frozen? ⟨rb, 2, none⟩ = false := by simp [World.frozen?, hr]
      have e1 := heap_setCell_same wr rb 0 _ _ (.int .i64 z.kd) hr
      have e2 := heap_setCell_same _ rb 1 _ _ (.int .u64 z.bits) e1
      have e3 := heap_setCell_same _ rb 2 _ _ (.string z.text) e2
      have hb3 : Below w.heap.size w (((wr.setCell ⟨rb, 0, none⟩ (.int .i64 z.kd)).setCell ⟨rb, 1, none⟩ (.int .u64 z.bits)).setCell ⟨rb, 2, none⟩ (.string z.text)) := by
        have hb := HB2.out
        refine ⟨hb.os, hb.tape, hb.output, by simpa [World.setCell] using hb.size, fun q hq => ?_⟩
        have hq2 : q ≠ rb := by have := HRV.out.2; have := HRB.out; omega
        rw [Below.heap_setCell _ _ _ _ hq2, Below.heap_setCell _ _ _ _ hq2, Below.heap_setCell _ _ _ _ hq2]
        exact hb.block q hq
      have HE3 := Lib.hid e3
      have HB3 := Lib.hid hb3
      clear hk hr hv e1 e2 e3 hb3
      go_wp2_with fail
      have e3 := HE3.out
      have hb3 := HB3.out
      obtain ⟨w8, hw8⟩ : ∃ w8, ((wr.setCell ⟨rb, 0, none⟩ (.int .i64 z.kd)).setCell ⟨rb, 1, none⟩ (.int .u64 z.bits)).setCell ⟨rb, 2, none⟩ (.string z.text) = w8 := ⟨_, rfl⟩
      rw [hw8] at e3 hb3 ⊢
      refine bodyPost_ret (results_cell_row rfl _ _ rb 31 _ (0, 0) _ rfl e3 Try.underlying31 (by kernel_rfl) info31) rfl ?_
      exact ⟨rfl, hb3⟩
end Go.Proofs.Ytblpjhgbckfaeaa
