/- count and latest, walked: how often a list of columns has a key and a time; the value of the last one. Condition: the bounds. -/
import Derived.Test.YtblpjhgbckfaeaaT
import Derived.Test.YtblpjhgbckfaeaaP
namespace Go.Proofs.Ytblpjhgbckfaeaa
open Go.RowKit Go.Sort
theorem cnt_append (A B : List Tp) (k : Ky) (t : Int) : cnt (A ++ B) k t = cnt A k t + cnt B k t := by unfold cnt; rw [List.filter_append, List.length_append]
def hitB (x : CC) (p : Int × PV) (se fi : ByteArray) (t : Int) : Bool := (x.se.toList == se.toList) && ((x.fi.toList == fi.toList) && decide (p.1 = t))
theorem hit_iff (a b se fi : ByteArray) (u t : Int) : ((a.toList == se.toList) && ((b.toList == fi.toList) && decide (u = t))) = true ↔ (a, b) = (se, fi) ∧ u = t := by
  rw [Bool.and_eq_true, Bool.and_eq_true, beq_iff_eq, beq_iff_eq, decide_eq_true_eq, Prod.mk.injEq]
  exact ⟨fun h => ⟨⟨ba_ext h.1, ba_ext h.2.1⟩, h.2.2⟩, fun h => ⟨by rw [h.1.1], by rw [h.1.2], h.2⟩⟩
theorem cnt_one' (a b : ByteArray) (u : Int) (v : PV) (se fi : ByteArray) (t : Int) : cnt [⟨(a, b), u, v⟩] (se, fi) t = if ((a.toList == se.toList) && ((b.toList == fi.toList) && decide (u = t))) = true then 1 else 0 := by
  unfold cnt
  rw [List.filter_cons]
  by_cases h : (a, b) = (se, fi) ∧ u = t
  · rw [if_pos (by simpa using h), if_pos ((hit_iff ..).2 h)]; rfl
  · rw [if_neg (by simpa using h), if_neg (fun e => h ((hit_iff ..).1 e))]; rfl
theorem cnt_le (T : List Tp) (k : Ky) (t : Int) : cnt T k t ≤ T.length := List.length_filter_le ..
def InC1 (w : World) (C : List CC) (se fi : ByteArray) (t : Int) (n : Nat) (m i : Value) (wr : World) : Prop := ∃ k : Nat, k ≤ n ∧ i = .int .i64 k ∧ m = .int .i64 (cnt (trC (C.take k)) (se, fi) t) ∧ Below w.heap.size w wr
def InC2 (w : World) (T0 : List Tp) (x : CC) (se fi : ByteArray) (t : Int) (n : Nat) (m i : Value) (wr : World) : Prop := ∃ j : Nat, j ≤ n ∧ i = .int .i64 j ∧ m = .int .i64 (cnt (T0 ++ trP x.se x.fi (x.pts.take j)) (se, fi) t) ∧ Below w.heap.size w wr
set_option maxRecDepth 100000 in
set_option maxHeartbeats 4000000 in
theorem count7 (w : World) (v : Value) (C : List CC) (se fi : ByteArray) (t : Int) (hin : ColsIn w v C) (hN : (trC C).length ≤ 1000000000) (hS : C.length ≤ 1000000000) :
    Calls Try.prog 7 #[v, .string se, .string fi, .int .i64 t] w fun e w' => e = .returned (.int .i64 (cnt (trC C) (se, fi) t)) ∧ Below w.heap.size w w' := by
  obtain ⟨a, c, rfl⟩ := cols_form hin
  obtain ⟨n, hn⟩ : ∃ n, C.length = n := ⟨_, rfl⟩
  rw [hn] at hin hS ⊢
  have HIN := Lib.hid hin
  have HNN := Lib.hid hn
  have HN := Lib.hid hN
  clear hin hn hN
  go_enter Try.func7, Try.ntmps7
  go_wp2_with fail
  go_loopw [9, 15] (fun m i wr => InC1 w C se fi t n m i wr) (fun _ i _ => n - (intOf i).toNat)
  case atStart => exact ⟨0, Nat.zero_le _, rfl, rfl, Below.refl _ _⟩
  case round =>
    obtain ⟨k, hkn, rfl, rfl, hb⟩ := hrel
    have HB := Lib.hid hb
    clear hb
    obtain ⟨T0, hT0⟩ : ∃ T0, trC (C.take k) = T0 := ⟨_, rfl⟩
    rw [hT0]
    have HT0 := Lib.hid hT0
    by_cases hlt : k < n
    · obtain ⟨x, hx⟩ : ∃ x, C[k]? = some x := ⟨_, List.getElem?_eq_getElem (by rw [HNN.out]; exact hlt)⟩
      obtain ⟨_, _, _, b, o, rfl, q0, q1, q2⟩ := cols_at HIN.out HB.out hx
      obtain ⟨_, _, hpin, _⟩ := cols_at HIN.out (Below.refl _ _) hx
      obtain ⟨xse, xfi, xv, P⟩ := x
      simp only at hpin q0 q1 q2
      obtain ⟨pa, pc, rfl⟩ := pts_form hpin
      obtain ⟨n2, hn2⟩ : ∃ n2, P.length = n2 := ⟨_, rfl⟩
      rw [hn2] at hpin q2 hx
      have hT : T0.length + n2 ≤ 1000000000 := by
        have h1 := trC_take_le C (k + 1)
        rw [trC_snoc hx, List.length_append, hT0] at h1
        have := HN.out
        simp only [trP, List.length_map] at h1
        omega
      have hn2' : n2 ≤ 1000000000 := by omega
      have HT := Lib.hid hT
      have HN2 := Lib.hid hn2
      have HX := Lib.hid hx
      have HPIN := Lib.hid hpin
      clear hpin hn2 hx hT hT0
      go_wp2_with fail
      clear q0 q1 q2
      go_loopw [9, 24] (fun m i wr => InC2 w T0 ⟨xse, xfi, .slice pa n2 pc, P⟩ se fi t n2 m i wr) (fun _ i _ => n2 - (intOf i).toNat)
      case atStart => exact ⟨0, Nat.zero_le _, rfl, by simp [trP], HB.out⟩
      case round =>
        obtain ⟨j, hjn, rfl, rfl, hb⟩ := hrel
        have HB2 := Lib.hid hb
        clear hb
        simp only
        obtain ⟨T1, hT1⟩ : ∃ T1, T0 ++ trP xse xfi (P.take j) = T1 := ⟨_, rfl⟩
        rw [hT1]
        have hcl : cnt T1 (se, fi) t ≤ 1000000000 := by
          have h1 := cnt_le T1 (se, fi) t
          have h2 : T1.length ≤ 1000000000 := by
            rw [← hT1, List.length_append]
            simp only [trP, List.length_map, List.length_take]
            have := HT.out
            omega
          omega
        have HT1 := Lib.hid hT1
        clear hT1
        obtain ⟨q, hq⟩ : ∃ q : Nat, cnt T1 (se, fi) t = q := ⟨_, rfl⟩
        rw [hq] at hcl ⊢
        have HQ := Lib.hid hq
        by_cases hlt2 : j < n2
        · obtain ⟨p, hp⟩ : ∃ p, P[j]? = some p := ⟨_, List.getElem?_eq_getElem (by rw [HN2.out]; exact hlt2)⟩
          obtain ⟨_, b3, o3, rfl, q0, q1, q2, q3⟩ := pts_at HPIN.out HB2.out hp
          obtain ⟨_, _, _, b4, o4, hbo, r0, r1, r2⟩ := cols_at HIN.out HB2.out HX.out
          cases hbo
          simp only at r0 r1 r2
          have hb1 := HB2.out.alloc HB2.out.size (.cells #[.int .i64 p.1, .int .i64 p.2.kd, .int .u64 p.2.bits, .string p.2.text] 33)
          have HB3 := Lib.hid hb1
          have s0 := cell_later ((Below.refl wr.heap.size wr).alloc (Nat.le_refl _) (.cells #[.int .i64 p.1, .int .i64 p.2.kd, .int .u64 p.2.bits, .string p.2.text] 33)) r0
          have s1 := cell_later ((Below.refl wr.heap.size wr).alloc (Nat.le_refl _) (.cells #[.int .i64 p.1, .int .i64 p.2.kd, .int .u64 p.2.bits, .string p.2.text] 33)) r1
          have hsn : T0 ++ trP xse xfi (P.take (j + 1)) = T1 ++ [⟨(xse, xfi), p.1, p.2⟩] := by rw [trP_snoc hp, ← List.append_assoc, HT1.out]
          have hc1 : cnt (T0 ++ trP xse xfi (P.take (j + 1))) (se, fi) t = q + if ((xse.toList == se.toList) && ((xfi.toList == fi.toList) && decide (p.1 = t))) = true then 1 else 0 := by rw [hsn, cnt_append, cnt_one', hq]
          clear hp hb1 hsn hq
          cases h1 : (xse.toList == se.toList) with
          | false =>
            have HC := Lib.hid (show cnt (T0 ++ trP xse xfi (P.take (j + 1))) (se, fi) t = q by rw [hc1, h1]; simp)
            clear hc1
            go_wp2_with fail
            go_roundw
            case rel => exact ⟨j + 1, by omega, by go_num, by rw [HC.out], HB3.out⟩
            case measure => simp [intOf]; omega
          | true =>
            cases h2 : (xfi.toList == fi.toList) with
            | false =>
              have HC := Lib.hid (show cnt (T0 ++ trP xse xfi (P.take (j + 1))) (se, fi) t = q by rw [hc1, h1, h2]; simp)
              clear hc1
              go_wp2_with fail
              go_roundw
              case rel => exact ⟨j + 1, by omega, by go_num, by rw [HC.out], HB3.out⟩
              case measure => simp [intOf]; omega
            | true =>
              cases h3 : (p.1 == t) with
              | true =>
                have HC := Lib.hid (show cnt (T0 ++ trP xse xfi (P.take (j + 1))) (se, fi) t = q + 1 by rw [hc1, h1, h2, show decide (p.1 = t) = true from h3]; simp)
                clear hc1
                go_wp2_with fail
                go_roundw
                case rel => exact ⟨j + 1, by omega, by go_num, by rw [HC.out]; go_num, HB3.out⟩
                case measure => simp [intOf]; omega
              | false =>
                have HC := Lib.hid (show cnt (T0 ++ trP xse xfi (P.take (j + 1))) (se, fi) t = q by rw [hc1, h1, h2, show decide (p.1 = t) = false from h3]; simp)
                clear hc1
                go_wp2_with fail
                go_roundw
                case rel => exact ⟨j + 1, by omega, by go_num, by rw [HC.out], HB3.out⟩
                case measure => simp [intOf]; omega
        · have hj : j = n2 := by omega
          have HJ := Lib.hid hj
          clear hj hq
          go_wp2_with fail
          go_roundw
          case rel =>
            refine ⟨k + 1, by omega, by go_num, ?_, HB2.out⟩
            rw [← HQ.out, trC_snoc HX.out, HT0.out, ← HT1.out, List.take_of_length_le (by rw [HN2.out, HJ.out]; exact Nat.le_refl _)]
          case measure => simp [intOf]; omega
    · have hk : k = n := by omega
      have HK := Lib.hid hk
      clear hk hT0
      go_wp2_with fail
      go_ret
      have e : trC C = T0 := by rw [← HT0.out, List.take_of_length_le (by rw [HNN.out, HK.out]; exact Nat.le_refl _)]
      exact ⟨by rw [e]; rfl, HB.out⟩
end Go.Proofs.Ytblpjhgbckfaeaa
