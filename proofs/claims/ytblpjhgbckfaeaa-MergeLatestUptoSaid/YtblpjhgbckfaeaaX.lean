/- The law MergeLatest, walked. Condition: how much came in. -/
import Derived.Test.YtblpjhgbckfaeaaW
import Derived.Test.YtblpjhgbckfaeaaU
namespace Go.Proofs.Ytblpjhgbckfaeaa
open Go.RowKit Go.Sort Go.Deep Go.WideShapes Go.ChangeShapes
def InK (w : World) (n : Nat) (i : Value) (wr : World) : Prop := ∃ k : Nat, k ≤ n ∧ i = .int .i64 k ∧ Below w.heap.size w wr
def InK3 (w : World) (x : CC) (cb n : Nat) (i : Value) (wr : World) : Prop := ∃ k : Nat, k ≤ n ∧ i = .int .i64 k ∧ wr.heap[cb]? = some (.cells #[.string x.se, .string x.fi, x.v] 28 (0, 0)) ∧ Below w.heap.size w wr
theorem in_trL {LS : List LL} {k j i : Nat} {x : LL} {y : CC} {p : Int × PV} (hx : LS[k]? = some x) (hy : x.cs[j]? = some y) (hp : y.pts[i]? = some p) : (⟨(y.se, y.fi), p.1, p.2⟩ : Tp) ∈ trL LS := by
  unfold trL trC trP
  exact List.mem_flatMap.2 ⟨x, List.mem_of_getElem? hx, List.mem_flatMap.2 ⟨y, List.mem_of_getElem? hy, List.mem_map.2 ⟨p, List.mem_of_getElem? hp, rfl⟩⟩⟩
theorem cnt_is {T : List Tp} {C : List CC} (hM : Merged kLtP T (C.map colOf)) {x : Tp} (h : x ∈ T) : cnt (trC C) x.k x.t = 1 := by
  obtain ⟨v, hv⟩ := lastV_some h
  rw [trC_flat]
  exact cnt_one kLtP_irr hM.rises ((hM.has x.k x.t v).2 hv)
theorem last_is {T : List Tp} {C : List CC} (hM : Merged kLtP T (C.map colOf)) {y : CC} {p : Int × PV} {j i : Nat} (hy : C[j]? = some y) (hp : y.pts[i]? = some p) : lastO T (y.se, y.fi) p.1 = p.2 := by
  have h : Has (C.map colOf) (y.se, y.fi) p.1 p.2 := ⟨colOf y, List.mem_map_of_mem (List.mem_of_getElem? hy), rfl, List.mem_of_getElem? hp⟩
  unfold lastO
  rw [(hM.has _ _ _).1 h]; rfl
set_option maxRecDepth 100000 in
set_option maxHeartbeats 4000000 in
theorem mergeLatest_walk (H : Type) (enc : TypeId × Value → H) (W : World) (base : Nat) (v0 : Value) (d0 : DataW H) (p0 : List MemPlace) (h0 : DataW.Trod enc Try.prog W 0 (fun _ => true) true 22 v0 d0 p0) (o0 : Value.okWide Try.prog W .any base 22 v0) (hk : Rows.uptoSmall H [d0] = true) :
    Calls Try.prog 3 #[v0] W fun e w' => e = .returned (.bool true) ∧ Below W.heap.size W w' := by
  obtain ⟨LS, hin, hB, a, c, rfl, hlc⟩ := lists_in h0 o0
  obtain ⟨g1, g2, g3⟩ := lB_le LS
  have hbd : lB LS ≤ 1048576 := by
    have : Rows.uptoBulkAll [d0] ≤ 1048576 := of_decide_eq_true hk
    simp only [Rows.uptoBulkAll] at this
    omega
  obtain ⟨n, hn⟩ : ∃ n, LS.length = n := ⟨_, rfl⟩
  rw [hn] at hin hlc g2 ⊢
  have HIN := Lib.hid hin
  have HG1 := Lib.hid (Nat.le_trans g1 hbd)
  have HG3 := Lib.hid (fun x hx => Nat.le_trans (g3 x hx) hbd)
  have HNN := Lib.hid hn
  have hn2 := Nat.le_trans g2 hbd
  clear h0 o0 hk hB g1 g2 g3 hbd hin hn hlc
  go_enter Try.func3, Try.ntmps3
  go_wp2_with fail
  refine (awake W).mono ?_
  rintro e w1 ⟨rfl, hb1⟩
  have HB1 := Lib.hid hb1
  clear hb1
  go_wp2_with fail
  refine (merge6 w1 (.slice a n c) LS (HIN.out.later HB1.out) (by have := HG1.out; omega) (by have := HNN.out; omega) (fun x hx => by have := HG3.out x hx; omega)).mono ?_
  intro e w2 h
  unfold MergePost at h
  obtain ⟨vo, C, he, hco, hM, hb2⟩ := h
  subst he
  obtain ⟨oa, oc, rfl⟩ := cols_form hco
  obtain ⟨on, hon⟩ : ∃ on, C.length = on := ⟨_, rfl⟩
  have hml := merged_len hM
  rw [hon] at hco hml ⊢
  have HCO := Lib.hid hco
  have HM := Lib.hid hM
  have HON := Lib.hid hon
  have HML := Lib.hid (show (trC C).length ≤ 1048576 ∧ on ≤ 1048576 by have := HG1.out; omega)
  have hon2 := HML.out.2
  have HB2 := Lib.hid (HB1.out.trans (hb2.mono HB1.out.size))
  clear hco hM hon hml hb2
  go_wp2_with fail
  go_loopw [18] (fun i wr => InK w2 n i wr) (fun i _ => n - (intOf i).toNat)
  case atStart => exact ⟨0, Nat.zero_le _, rfl, Below.refl _ _⟩
  case round =>
    obtain ⟨k, hkn, rfl, hb⟩ := hrel
    have HB3 := Lib.hid hb
    have HB3W := Lib.hid (HB2.out.trans (hb.mono HB2.out.size))
    clear hb
    by_cases hlt : k < n
    · obtain ⟨x, hx⟩ : ∃ x, LS[k]? = some x := ⟨_, List.getElem?_eq_getElem (by rw [HNN.out]; exact hlt)⟩
      obtain ⟨_, b, o, rfl, q0⟩ := lists_at HIN.out HB3W.out hx
      obtain ⟨hcin, _⟩ := lists_at HIN.out (Below.refl _ _) hx
      obtain ⟨xv, C1⟩ := x
      simp only at hcin q0
      obtain ⟨ca, cc, rfl⟩ := cols_form hcin
      obtain ⟨n2, hn2'⟩ : ∃ n2, C1.length = n2 := ⟨_, rfl⟩
      have hn2b : n2 ≤ 1000000000 := by rw [← hn2']; have := HG3.out _ (List.mem_of_getElem? hx); simp only at this; omega
      rw [hn2'] at hcin q0 hx
      have HCIN := Lib.hid hcin
      have HX := Lib.hid hx
      have HN2 := Lib.hid hn2'
      clear hcin hx hn2'
      go_wp2_with fail
      clear q0
      go_loopw [26] (fun i wr => InK w2 n2 i wr) (fun i _ => n2 - (intOf i).toNat)
      case atStart => exact ⟨0, Nat.zero_le _, rfl, HB3.out⟩
      case round =>
        obtain ⟨j, hjn, rfl, hb⟩ := hrel
        have HB4 := Lib.hid hb
        have HB4W := Lib.hid (HB2.out.trans (hb.mono HB2.out.size))
        clear hb HB3 HB3W
        by_cases hlt2 : j < n2
        · obtain ⟨y, hy⟩ : ∃ y, C1[j]? = some y := ⟨_, List.getElem?_eq_getElem (by rw [HN2.out]; exact hlt2)⟩
          obtain ⟨_, _, _, b2, o2, rfl, q0, q1, q2⟩ := cols_at HCIN.out HB4W.out hy
          obtain ⟨_, _, hpin, _⟩ := cols_at HCIN.out (Below.refl _ _) hy
          obtain ⟨xse, xfi, yv, P⟩ := y
          simp only at hpin q0 q1 q2
          obtain ⟨pa, pc, rfl⟩ := pts_form hpin
          obtain ⟨n3, hn3⟩ : ∃ n3, P.length = n3 := ⟨_, rfl⟩
          rw [hn3] at hpin q2 hy
          have hn3' : n3 ≤ 1000000000 := by
            have h1 := trC_take_le C1 (j + 1)
            have h2 := trL_take_le LS (k + 1)
            rw [trC_snoc hy, List.length_append] at h1
            rw [trL_snoc HX.out, List.length_append] at h2
            have := HG1.out
            simp only [trP, List.length_map] at h1 h2
            omega
          have HY := Lib.hid hy
          have HN3 := Lib.hid hn3
          have HPIN := Lib.hid hpin
          have hb1 := (Below.refl wr.heap.size wr).alloc (Nat.le_refl _) (.cells #[.string xse, .string xfi, .slice pa n3 pc] 28)
          have hc1 := heap_alloc_new wr (.cells #[.string xse, .string xfi, .slice pa n3 pc] 28)
          obtain ⟨w4, hw4⟩ : ∃ w4, wr.alloc (.cells #[.string xse, .string xfi, .slice pa n3 pc] 28) = w4 := ⟨_, rfl⟩
          rw [hw4] at hb1 hc1
          obtain ⟨cb, hcb⟩ : ∃ cb, wr.heap.size = cb := ⟨_, rfl⟩
          rw [hcb] at hc1
          have HB5 := Lib.hid (HB4.out.trans (hb1.mono HB4.out.size))
          have HC1 := Lib.hid hc1
          have c2 : w4.cell? ⟨cb, 2, none⟩ = some (.slice pa n3 pc) := by simp [World.cell?, hc1]
          clear hpin hn3 hy hb1 hc1 HB4 HB4W
          go_wp2_with fail
          clear c2 q0 q1 q2 hw4 hcb
          go_loopw [33] (fun i wr => InK3 w2 ⟨xse, xfi, .slice pa n3 pc, P⟩ cb n3 i wr) (fun i _ => n3 - (intOf i).toNat)
          case atStart => exact ⟨0, Nat.zero_le _, rfl, HC1.out, HB5.out⟩
          case round =>
            obtain ⟨i, hin3, rfl, hc, hb⟩ := hrel
            simp only at hc
            have HC6 := Lib.hid hc
            have HB6 := Lib.hid hb
            have HB6W := Lib.hid (HB2.out.trans (hb.mono HB2.out.size))
            clear hc hb HC1 HB5
            by_cases hlt3 : i < n3
            · obtain ⟨p, hp⟩ : ∃ p, P[i]? = some p := ⟨_, List.getElem?_eq_getElem (by rw [HN3.out]; exact hlt3)⟩
              obtain ⟨_, b3, o3, rfl, q0, q1, q2, q3⟩ := pts_at HPIN.out HB6W.out hp
              have hb1 := (Below.refl wr.heap.size wr).alloc (Nat.le_refl _) (.cells #[.int .i64 p.1, .int .i64 p.2.kd, .int .u64 p.2.bits, .string p.2.text] 33)
              have hp1 := heap_alloc_new wr (.cells #[.int .i64 p.1, .int .i64 p.2.kd, .int .u64 p.2.bits, .string p.2.text] 33)
              obtain ⟨w5, hw5⟩ : ∃ w5, wr.alloc (.cells #[.int .i64 p.1, .int .i64 p.2.kd, .int .u64 p.2.bits, .string p.2.text] 33) = w5 := ⟨_, rfl⟩
              rw [hw5] at hb1 hp1
              obtain ⟨pb, hpb⟩ : ∃ pb, wr.heap.size = pb := ⟨_, rfl⟩
              rw [hpb] at hp1
              have HB7 := Lib.hid (HB6.out.trans (hb1.mono HB6.out.size))
              have hc7 := (hb1.block _ (heap_lt HC6.out)).trans HC6.out
              have HC7 := Lib.hid hc7
              have c0 : w5.cell? ⟨cb, 0, none⟩ = some (.string xse) := by simp [World.cell?, hc7]
              have c1 : w5.cell? ⟨cb, 1, none⟩ = some (.string xfi) := by simp [World.cell?, hc7]
              have p0 : w5.cell? ⟨pb, 0, none⟩ = some (.int .i64 p.1) := by simp [World.cell?, hp1]
              have hct : cnt (trC C) (xse, xfi) p.1 = 1 := cnt_is HM.out (in_trL HX.out HY.out hp)
              have HCT := Lib.hid (count7 w5 (.slice oa on oc) C xse xfi p.1 (HCO.out.later HB7.out) (by have := HML.out.1; omega) (by rw [HON.out]; omega))
              rw [hct] at HCT
              clear hp hb1 hp1 hc7 hct
              go_wp2_with fail
              refine HCT.out.mono ?_
              rintro e w6 ⟨rfl, hb6⟩
              have HB8 := Lib.hid (HB7.out.trans (hb6.mono HB7.out.size))
              have HC8 := Lib.hid ((hb6.block _ (heap_lt HC7.out)).trans HC7.out)
              clear hb6 c0 c1 p0 q0 q1 q2 q3 hw5 hpb
              go_wp2_with fail
              go_roundw
              case rel => exact ⟨i + 1, by omega, by go_num, HC8.out, HB8.out⟩
              case measure => simp [intOf]; omega
            · go_wp2_with fail
              go_roundw
              case rel => exact ⟨j + 1, by omega, by go_num, HB6.out⟩
              case measure => simp [intOf]; omega
        · go_wp2_with fail
          go_roundw
          case rel => exact ⟨k + 1, by omega, by go_num, HB4.out⟩
          case measure => simp [intOf]; omega
    · go_wp2_with fail
      go_loopw [51] (fun i wr => InK w2 on i wr) (fun i _ => on - (intOf i).toNat)
      case atStart => exact ⟨0, Nat.zero_le _, rfl, HB3.out⟩
      case round =>
        obtain ⟨j, hjn, rfl, hb⟩ := hrel
        have HB4 := Lib.hid hb
        clear hb HB3 HB3W
        by_cases hlt2 : j < on
        · obtain ⟨y, hy⟩ : ∃ y, C[j]? = some y := ⟨_, List.getElem?_eq_getElem (by rw [HON.out]; exact hlt2)⟩
          obtain ⟨_, _, _, b2, o2, rfl, q0, q1, q2⟩ := cols_at HCO.out HB4.out hy
          obtain ⟨_, _, hpin, _⟩ := cols_at HCO.out (Below.refl _ _) hy
          obtain ⟨xse, xfi, yv, P⟩ := y
          simp only at hpin q0 q1 q2
          obtain ⟨pa, pc, rfl⟩ := pts_form hpin
          obtain ⟨n3, hn3⟩ : ∃ n3, P.length = n3 := ⟨_, rfl⟩
          rw [hn3] at hpin q2 hy
          have hn3' : n3 ≤ 1000000000 := by
            have h1 := trC_take_le C (j + 1)
            rw [trC_snoc hy, List.length_append] at h1
            have := HML.out.1
            simp only [trP, List.length_map] at h1
            omega
          have HY := Lib.hid hy
          have HN3 := Lib.hid hn3
          have HPIN := Lib.hid hpin
          clear hpin hn3 hy
          go_wp2_with fail
          clear q0 q1 q2
          go_loopw [60] (fun i wr => InK w2 n3 i wr) (fun i _ => n3 - (intOf i).toNat)
          case atStart => exact ⟨0, Nat.zero_le _, rfl, HB4.out⟩
          case round =>
            obtain ⟨i, hin3, rfl, hb⟩ := hrel
            have HB6 := Lib.hid hb
            clear hb HB4
            by_cases hlt3 : i < n3
            · obtain ⟨p, hp⟩ : ∃ p, P[i]? = some p := ⟨_, List.getElem?_eq_getElem (by rw [HN3.out]; exact hlt3)⟩
              obtain ⟨_, b3, o3, rfl, q0, q1, q2, q3⟩ := pts_at HPIN.out HB6.out hp
              have hb1 := (Below.refl wr.heap.size wr).alloc (Nat.le_refl _) (.cells #[.int .i64 p.1, .int .i64 p.2.kd, .int .u64 p.2.bits, .string p.2.text] 33)
              have hp1 := heap_alloc_new wr (.cells #[.int .i64 p.1, .int .i64 p.2.kd, .int .u64 p.2.bits, .string p.2.text] 33)
              obtain ⟨w5, hw5⟩ : ∃ w5, wr.alloc (.cells #[.int .i64 p.1, .int .i64 p.2.kd, .int .u64 p.2.bits, .string p.2.text] 33) = w5 := ⟨_, rfl⟩
              rw [hw5] at hb1 hp1
              obtain ⟨pb, hpb⟩ : ∃ pb, wr.heap.size = pb := ⟨_, rfl⟩
              rw [hpb] at hp1
              have HB7 := Lib.hid (HB6.out.trans (hb1.mono HB6.out.size))
              have hS : ∀ w', Below w5.heap.size w5 w' → w'.cell? ⟨b2, o2 + j * 3, none⟩ = some (.string xse) ∧ w'.cell? ⟨b2, o2 + j * 3 + 1, none⟩ = some (.string xfi) ∧ w'.cell? ⟨pb, 0, none⟩ = some (.int .i64 p.1) ∧ w'.cell? ⟨pb, 1, none⟩ = some (.int .i64 p.2.kd) ∧ w'.cell? ⟨pb, 2, none⟩ = some (.int .u64 p.2.bits) ∧ w'.cell? ⟨pb, 3, none⟩ = some (.string p.2.text) := fun w' hb' => by
                obtain ⟨_, _, _, b2', o2', he, r0, r1, _⟩ := cols_at HCO.out (HB7.out.trans (hb'.mono HB7.out.size)) HY.out
                cases he
                have hp2 := (hb'.block _ (heap_lt hp1)).trans hp1
                exact ⟨r0, r1, by simp [World.cell?, hp2], by simp [World.cell?, hp2], by simp [World.cell?, hp2], by simp [World.cell?, hp2]⟩
              have HS := Lib.hid hS
              have hla : lastO (trL LS) (xse, xfi) p.1 = p.2 := last_is HM.out HY.out hp
              have HLA := Lib.hid (fun (w' : World) (hb' : Below W.heap.size W w') => latest8 w' (.slice a n c) LS xse xfi p.1 (HIN.out.later hb') (by have := HG1.out; omega) (by have := HNN.out; omega) (fun x hx => by have := HG3.out x hx; omega) p.2 hla)
              have HBD := Lib.hid ((Below.refl w5.heap.size w5).drew)
              have HB7W := Lib.hid (HB2.out.trans ((HB7.out.drew).mono HB2.out.size))
              obtain ⟨e1, e2, e3, e4, e5, e6⟩ := hS _ (Below.refl _ _)
              clear hp hb1 hp1 hS hla
              go_wp2_with fail
              go_region_held3 (fun w' => w'.cell? ⟨b2, o2 + j * 3, none⟩ = some (.string xse) ∧ w'.cell? ⟨b2, o2 + j * 3 + 1, none⟩ = some (.string xfi) ∧ w'.cell? ⟨pb, 0, none⟩ = some (.int .i64 p.1) ∧ w'.cell? ⟨pb, 1, none⟩ = some (.int .i64 p.2.kd) ∧ w'.cell? ⟨pb, 2, none⟩ = some (.int .u64 p.2.bits) ∧ w'.cell? ⟨pb, 3, none⟩ = some (.string p.2.text)) (first | exact HS.out _ HB9.out | exact HS.out _ HBD.out | go_keep)
                (first | (go_at_call 8; with_reducible refine (HLA.out _ HB7W.out).mono ?_; rintro e w6 ⟨rfl, hb6⟩; have HB9 := Lib.hid (HBD.out.trans (hb6.mono HBD.out.size)); have HB8 := Lib.hid ((HB7.out.drew).trans (hb6.mono HB7.out.drew.size)); clear hb6))
              all_goals
                clear e1 e2 e3 e4 e5 e6 q0 q1 q2 q3 hw5 hpb
                go_wp2_with fail
                go_roundw
                case rel => exact ⟨i + 1, by omega, by go_num, HB8.out⟩
                case measure => simp [intOf]; omega
            · go_wp2_with fail
              go_roundw
              case rel => exact ⟨j + 1, by omega, by go_num, HB6.out⟩
              case measure => simp [intOf]; omega
        · go_wp2_with fail
          go_ret
          exact ⟨rfl, HB2.out.trans (HB4.out.mono HB2.out.size)⟩
end Go.Proofs.Ytblpjhgbckfaeaa
