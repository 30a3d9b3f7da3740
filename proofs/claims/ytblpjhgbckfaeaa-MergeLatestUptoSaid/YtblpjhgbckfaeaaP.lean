/- Merge, walked. Condition: fewer than 10^9 points. -/
import Derived.Test.YtblpjhgbckfaeaaQ
import Derived.Test.YtblpjhgbckfaeaaN
import Derived.Deep.RegionHeld3
import Derived.Deep.RegionLaw
import Derived.Deep.Cut
namespace Go.Proofs.Ytblpjhgbckfaeaa
open Go.RowKit Go.WideMaps Go.Sort
set_option maxRecDepth 100000 in
set_option maxHeartbeats 4000000 in
theorem merge6 (w : World) (v : Value) (LS : List LL) (hin : ListsIn w v LS) (hN : (trL LS).length ≤ 1000000000) (hS : LS.length ≤ 1000000000) (hS2 : ∀ x ∈ LS, x.cs.length ≤ 1000000000) : Calls Try.prog 6 #[v] w (MergePost w (trL LS)) := by
  have hmm := @run_makeMap Try.prog
  obtain ⟨a, c, rfl⟩ := lists_form hin
  obtain ⟨n, hn⟩ : ∃ n, LS.length = n := ⟨_, rfl⟩
  rw [hn] at hin hS ⊢
  have HS2 := Lib.hid hS2
  have HIN := Lib.hid hin
  have HNN := Lib.hid hn
  have HN := Lib.hid hN
  have hst := TabL.start w
  obtain ⟨w1, hw1⟩ : ∃ w1, w.alloc (.map #[] 0) = w1 := ⟨_, rfl⟩
  obtain ⟨m, hm⟩ : ∃ m, w.heap.size = m := ⟨_, rfl⟩
  rw [hw1, hm] at hst
  have HST := Lib.hid hst
  have HM := Lib.hid hm
  clear hin hn hN hst hS2
  go_enter Try.func6, Try.ntmps6
  go_wp2_with fail
  clear hw1 hm
  go_loopw [21] (fun i wr => In1 w m LS n i wr) (fun i _ => n - (intOf i).toNat)
  case atStart => exact ⟨0, Nat.zero_le _, rfl, ⟨[], HST.out.more (Nat.zero_le _), fun _ h => nomatch h⟩⟩
  case round =>
    obtain ⟨k, hkn, rfl, hF⟩ := hrel
    have HF := Lib.hid hF
    clear hF HST
    by_cases hlt : k < n
    · obtain ⟨x, hx⟩ : ∃ x, LS[k]? = some x := ⟨_, List.getElem?_eq_getElem (by rw [HNN.out]; exact hlt)⟩
      obtain ⟨_, b, o, rfl, q0⟩ := lists_at HIN.out HF.out.below hx
      obtain ⟨hcin, _⟩ := lists_at HIN.out (Below.refl _ _) hx
      obtain ⟨xv, C⟩ := x
      simp only at hcin q0
      obtain ⟨ca, cc, rfl⟩ := cols_form hcin
      obtain ⟨n2, hn2⟩ : ∃ n2, C.length = n2 := ⟨_, rfl⟩
      have hn2' : n2 ≤ 1000000000 := by rw [← hn2]; exact HS2.out _ (List.mem_of_getElem? hx)
      rw [hn2] at hcin q0 hx
      have HCIN := Lib.hid hcin
      have HX := Lib.hid hx
      have HN2 := Lib.hid hn2
      have hT : (trL (LS.take k)).length + (trC C).length ≤ 1000000000 := by
        have h1 := trL_take_le LS (k + 1)
        rw [trL_snoc hx, List.length_append] at h1
        have := HN.out
        simp only at h1
        omega
      have HT := Lib.hid hT
      obtain ⟨T0, hT0⟩ : ∃ T0, trL (LS.take k) = T0 := ⟨_, rfl⟩
      rw [hT0] at HT HF
      have HT0 := Lib.hid hT0
      clear hcin hx hn2 hT hT0
      go_wp2_with fail
      clear q0
      go_loopw [27] (fun i wr => In2 w m T0 C n2 i wr) (fun i _ => n2 - (intOf i).toNat)
      case atStart => exact ⟨0, Nat.zero_le _, rfl, by rw [List.take_zero]; simpa [trC] using HF.out⟩
      case round =>
        obtain ⟨j, hjn, rfl, hF⟩ := hrel
        have HF2 := Lib.hid hF
        clear hF
        by_cases hlt2 : j < n2
        · obtain ⟨y, hy⟩ : ∃ y, C[j]? = some y := ⟨_, List.getElem?_eq_getElem (by rw [HN2.out]; exact hlt2)⟩
          obtain ⟨hse, hfi, _, b2, o2, rfl, q0, q1, q2⟩ := cols_at HCIN.out HF2.out.below hy
          obtain ⟨_, _, hpin, _⟩ := cols_at HCIN.out (Below.refl _ _) hy
          obtain ⟨se, fi, yv, P⟩ := y
          simp only at hse hfi hpin q0 q1 q2
          obtain ⟨pa, pc, rfl⟩ := pts_form hpin
          obtain ⟨n3, hn3⟩ : ∃ n3, P.length = n3 := ⟨_, rfl⟩
          rw [hn3] at hpin q2 hy
          have hn3' : n3 ≤ 1000000000 := by
            have h1 := trC_take_le C (j + 1)
            rw [trC_snoc hy, List.length_append] at h1
            have := HT.out
            simp only [trP, List.length_map] at h1
            omega
          have hT3 : (T0 ++ trC (C.take j)).length + (trP se fi P).length ≤ 1000000000 := by
            have h1 := trC_take_le C (j + 1)
            rw [trC_snoc hy, List.length_append] at h1
            have := HT.out
            simp only at h1
            rw [List.length_append]
            omega
          obtain ⟨T1, hT1⟩ : ∃ T1, T0 ++ trC (C.take j) = T1 := ⟨_, rfl⟩
          rw [hT1] at hT3 HF2
          have HY := Lib.hid hy
          have HN3 := Lib.hid hn3
          have HT3 := Lib.hid hT3
          have HT1 := Lib.hid hT1
          have HPIN := Lib.hid hpin
          have HSE := Lib.hid hse
          have HFI := Lib.hid hfi
          have hb1 := (Below.refl wr.heap.size wr).alloc (Nat.le_refl _) (.cells #[.string se, .string fi, .slice pa n3 pc] 28)
          have hc1 := heap_alloc_new wr (.cells #[.string se, .string fi, .slice pa n3 pc] 28)
          obtain ⟨w1, hw1⟩ : ∃ w1, wr.alloc (.cells #[.string se, .string fi, .slice pa n3 pc] 28) = w1 := ⟨_, rfl⟩
          have hs1 : w1.heap.size = wr.heap.size + 1 := by rw [← hw1]; simp
          rw [hw1] at hb1 hc1
          have hb2 := hb1.alloc hb1.size (.cells #[.string se, .string fi] 47)
          have hk2 := heap_alloc_new w1 (.cells #[.string se, .string fi] 47)
          have hc2 := (heap_alloc_old w1 (.cells #[.string se, .string fi] 47) (show wr.heap.size < w1.heap.size by omega)).trans hc1
          obtain ⟨w2, hw2⟩ : ∃ w2, w1.alloc (.cells #[.string se, .string fi] 47) = w2 := ⟨_, rfl⟩
          rw [hw2] at hb2 hk2 hc2
          obtain ⟨cb, hcb⟩ : ∃ cb, wr.heap.size = cb := ⟨_, rfl⟩
          obtain ⟨kb, hkb⟩ : ∃ kb, w1.heap.size = kb := ⟨_, rfl⟩
          have HF3 := Lib.hid (HF2.out.later hb2)
          rw [hkb] at hk2
          rw [hcb] at hc1 hc2
          have c0 : w1.cell? ⟨cb, 0, none⟩ = some (.string se) := by simp [World.cell?, hc1]
          have c1 : w1.cell? ⟨cb, 1, none⟩ = some (.string fi) := by simp [World.cell?, hc1]
          have d2 : w2.cell? ⟨cb, 2, none⟩ = some (.slice pa n3 pc) := by simp [World.cell?, hc2]
          have HC2 := Lib.hid hc2
          have HK2 := Lib.hid hk2
          clear hse hfi hpin hn3 hT3 hT1 hy hb1 hb2 hc1 hc2 hk2 hs1 HF2
          go_wp2_with fail
          clear c0 c1 d2 q0 q1 q2 hw1 hw2 hcb hkb
          go_loopw [39] (fun i wr => In3 w m T1 ⟨se, fi, .slice pa n3 pc, P⟩ n3 cb kb i wr) (fun i _ => n3 - (intOf i).toNat)
          case atStart => exact ⟨0, Nat.zero_le _, rfl, by rw [List.take_zero]; simpa [trP] using HF3.out, HC2.out, HK2.out⟩
          case round =>
            obtain ⟨i, hin, rfl, hF, hc, hk⟩ := hrel
            have HF4 := Lib.hid hF
            simp only at hc hk
            have HC4 := Lib.hid hc
            have HK4 := Lib.hid hk
            clear hF hc hk HF3 HC2 HK2
            by_cases hlt3 : i < n3
            · obtain ⟨p, hp⟩ : ∃ p, P[i]? = some p := ⟨_, List.getElem?_eq_getElem (by rw [HN3.out]; exact hlt3)⟩
              obtain ⟨hwf, b3, o3, rfl, q0, q1, q2, q3⟩ := pts_at HPIN.out HF4.out.below hp
              have hT4 : (T1 ++ trP se fi (P.take i)).length + 1 ≤ 1000000000 := by
                have := HT3.out
                have h1 : (P.take i).length ≤ i := List.length_take_le ..
                have h2 := HN3.out
                simp only [trP, List.length_append, List.length_map] at this ⊢
                omega
              have HT4 := Lib.hid hT4
              have HP := Lib.hid hp
              have HWF := Lib.hid hwf
              have hb1 := (Below.refl wr.heap.size wr).alloc (Nat.le_refl _) (.cells #[.int .i64 p.1, .int .i64 p.2.kd, .int .u64 p.2.bits, .string p.2.text] 33)
              have hp1 := heap_alloc_new wr (.cells #[.int .i64 p.1, .int .i64 p.2.kd, .int .u64 p.2.bits, .string p.2.text] 33)
              have hc1 := (heap_alloc_old wr (.cells #[.int .i64 p.1, .int .i64 p.2.kd, .int .u64 p.2.bits, .string p.2.text] 33) (heap_lt HC4.out)).trans HC4.out
              have hk1 := (heap_alloc_old wr (.cells #[.int .i64 p.1, .int .i64 p.2.kd, .int .u64 p.2.bits, .string p.2.text] 33) (heap_lt HK4.out)).trans HK4.out
              obtain ⟨w5, hw5⟩ : ∃ w5, wr.alloc (.cells #[.int .i64 p.1, .int .i64 p.2.kd, .int .u64 p.2.bits, .string p.2.text] 33) = w5 := ⟨_, rfl⟩
              rw [hw5] at hb1 hp1 hc1 hk1
              obtain ⟨pb, hpb⟩ : ∃ pb, wr.heap.size = pb := ⟨_, rfl⟩
              rw [hpb] at hp1
              obtain ⟨L, hL, hFull⟩ := HF4.out.later hb1
              have HL5 := Lib.hid hL
              have HFull := Lib.hid hFull
              have HP5C := Lib.hid hc1
              have HP5K := Lib.hid hk1
              have HP5 := Lib.hid hp1
              have k0 : w5.cell? ⟨kb, 0, none⟩ = some (.string se) := by simp [World.cell?, hk1]
              have k1 : w5.cell? ⟨kb, 1, none⟩ = some (.string fi) := by simp [World.cell?, hk1]
              have p0 : w5.cell? ⟨pb, 0, none⟩ = some (.int .i64 p.1) := by simp [World.cell?, hp1]
              have p1 : w5.cell? ⟨pb, 1, none⟩ = some (.int .i64 p.2.kd) := by simp [World.cell?, hp1]
              have p2 : w5.cell? ⟨pb, 2, none⟩ = some (.int .u64 p.2.bits) := by simp [World.cell?, hp1]
              have p3 : w5.cell? ⟨pb, 3, none⟩ = some (.string p.2.text) := by simp [World.cell?, hp1]
              have hl1 := hL.tab.lookup se fi HSE.out HFI.out
              unfold kV at hl1
              clear hp hwf hT4 hb1 hp1 hc1 hk1 hL hFull HF4 HC4 HK4
              cases hlk : lookT L se fi with
              | some x =>
                have HLK := Lib.hid hlk
                rw [hlk] at hl1
                unfold mapOf at hl1
                simp only at hl1
                clear hlk
                have he := eql_map x.b
                go_wp2_with fail
                clear q0 q1 q2 q3 hw5 hpb hl1 he
                have hl2 := (HL5.out.later ((Below.refl _ _).drew)).tab.lookup se fi HSE.out HFI.out
                rw [HLK.out] at hl2
                unfold kV mapOf at hl2
                simp only at hl2
                obtain ⟨w8, hrun, hT8, hg8⟩ := put_run (HL5.out.later ((Below.refl _ _).drew)) HLK.out (by have := HT4.out; unfold maxLen; omega) p.1 HWF.out p.2
                have hb8 : x.b = m ∨ ∃ y ∈ L, y.b = x.b := .inr ⟨_, (lookT_mem HLK.out).1, rfl⟩
                have hc8 := cells_stay (wr := w5.drew) (HL5.out.later ((Below.refl _ _).drew)).tab HP5C.out hb8 hg8
                have hk8 := cells_stay (wr := w5.drew) (HL5.out.later ((Below.refl _ _).drew)).tab HP5K.out hb8 hg8
                have HT8 := Lib.hid hT8
                have HC8 := Lib.hid hc8
                have HK8 := Lib.hid hk8
                clear hT8 hg8 hb8 hc8 hk8
                go_region
                go_wp2_with fail
                go_roundw
                case rel =>
                  refine ⟨i + 1, by omega, by go_num, ⟨_, (by rw [trP_snoc HP.out, ← List.append_assoc, List.length_append]; exact HT8.out.more (by simp; omega)), HFull.out.put _ _ _ (putP_ne _ _ _)⟩, HC8.out, HK8.out⟩
                case measure => simp [intOf]; omega
              | none =>
                have HLK := Lib.hid hlk
                rw [hlk] at hl1
                unfold mapOf at hl1
                simp only at hl1
                obtain ⟨w6, hrun6, hT6, hl6, hg6⟩ := ins_run HL5.out hlk HSE.out HFI.out (by have := HT4.out; simp only [List.length_append] at this ⊢; unfold maxLen; omega)
                have hb6 := (Below.refl w5.heap.size w5).alloc (Nat.le_refl _) (.map #[] 0)
                have hb61 : m = m ∨ ∃ x ∈ L, x.b = m := .inl rfl
                have hta := (HL5.out.later hb6).tab
                have hc6 := cells_stay hta ((heap_alloc_old w5 _ (heap_lt HP5C.out)).trans HP5C.out) hb61 hg6
                have hk6 := cells_stay hta ((heap_alloc_old w5 _ (heap_lt HP5K.out)).trans HP5K.out) hb61 hg6
                have hp6 := cells_stay hta ((heap_alloc_old w5 _ (heap_lt HP5.out)).trans HP5.out) hb61 hg6
                have HP6C := Lib.hid hc6
                have HP6K := Lib.hid hk6
                have HP6 := Lib.hid hp6
                have HT6 := Lib.hid hT6
                have HLK6 := Lib.hid hl6
                have k60 : w6.cell? ⟨kb, 0, none⟩ = some (.string se) := by simp [World.cell?, hk6]
                have k61 : w6.cell? ⟨kb, 1, none⟩ = some (.string fi) := by simp [World.cell?, hk6]
                have p60 : w6.cell? ⟨pb, 0, none⟩ = some (.int .i64 p.1) := by simp [World.cell?, hp6]
                have p61 : w6.cell? ⟨pb, 1, none⟩ = some (.int .i64 p.2.kd) := by simp [World.cell?, hp6]
                have p62 : w6.cell? ⟨pb, 2, none⟩ = some (.int .u64 p.2.bits) := by simp [World.cell?, hp6]
                have p63 : w6.cell? ⟨pb, 3, none⟩ = some (.string p.2.text) := by simp [World.cell?, hp6]
                clear hlk hb6 hb61 hta hc6 hk6 hp6 hT6 hl6 hg6
                have he := eql_nil
                go_wp2_with fail
                clear he q0 q1 q2 q3 hw5 hpb hl1 k0 k1 p0 p1 p2 p3 hrun6
                have hl2 := (HT6.out.later ((Below.refl _ _).drew)).tab.lookup se fi HSE.out HFI.out
                rw [HLK6.out] at hl2
                unfold kV mapOf at hl2
                simp only at hl2
                obtain ⟨w8, hrun, hT8, hg8⟩ := put_run (HT6.out.later ((Below.refl _ _).drew)) HLK6.out (by have := HT4.out; unfold maxLen; omega) p.1 HWF.out p.2
                have hb8 : w5.heap.size = m ∨ ∃ y ∈ (insT (⟨se, fi, w5.heap.size, []⟩ : TE) L), y.b = w5.heap.size := .inr ⟨_, (lookT_mem HLK6.out).1, rfl⟩
                have hc8 := cells_stay (wr := w6.drew) (HT6.out.later ((Below.refl _ _).drew)).tab HP6C.out hb8 hg8
                have hk8 := cells_stay (wr := w6.drew) (HT6.out.later ((Below.refl _ _).drew)).tab HP6K.out hb8 hg8
                have HT8 := Lib.hid hT8
                have HC8 := Lib.hid hc8
                have HK8 := Lib.hid hk8
                clear hT8 hg8 hb8 hc8 hk8
                go_region
                go_wp2_with fail
                go_roundw
                case rel =>
                  refine ⟨i + 1, by omega, by go_num, ⟨_, (by rw [trP_snoc HP.out, ← List.append_assoc, List.length_append]; exact HT8.out.more (by simp; omega)), HFull.out.insert _ _ _ _ (putP_ne _ _ _)⟩, HC8.out, HK8.out⟩
                case measure => simp [intOf]; omega
            · have hin3 : i = n3 := by omega
              have HI3 := Lib.hid hin3
              clear hin3
              go_wp2_with fail
              go_roundw
              case rel => exact ⟨j + 1, by omega, by go_num, by
                have h1 := HF4.out
                rw [List.take_of_length_le (by rw [HN3.out, HI3.out]; exact Nat.le_refl _), ← HT1.out, List.append_assoc] at h1
                rw [trC_snoc HY.out]
                exact h1⟩
              case measure => simp [intOf]; omega
        · have hjn2 : j = n2 := by omega
          have HJ2 := Lib.hid hjn2
          clear hjn2
          go_wp2_with fail
          go_roundw
          case rel => exact ⟨k + 1, by omega, by go_num, by
            have h1 := HF2.out
            rw [List.take_of_length_le (by rw [HN2.out, HJ2.out]; exact Nat.le_refl _), ← HT0.out] at h1
            rw [trL_snoc HX.out]
            exact h1⟩
          case measure => simp [intOf]; omega
    · have hkn2 : k = n := by omega
      have hFF := HF.out
      rw [List.take_of_length_le (by rw [HNN.out, hkn2]; exact Nat.le_refl _)] at hFF
      obtain ⟨L, hL, hFull⟩ := hFF
      have hLw := hL.later ((Below.refl wr.heap.size wr).alloc (Nat.le_refl _) (.cells #[.map (some m)] 45))
      have hbox := heap_alloc_new wr (.cells #[.map (some m)] 45)
      have hsk := sortedKeys (wr.alloc (.cells #[.map (some m)] 45)) wr.heap.size m L (by simp) (by simp only [World.cell?, hbox]; rfl) hLw.tab.map hLw.tab.sizes (by have := hL.len; have := HN.out; omega)
      have HSK := Lib.hid hsk
      have HL := Lib.hid hL
      have HLW := Lib.hid hLw
      have HFULL := Lib.hid hFull
      have HKN := Lib.hid hkn2
      have HWF := Lib.hid (lists_wf HIN.out)
      clear hkn2 hL hFull hbox hsk hLw HIN HF
      go_wp2_with fail
      refine (mapsKeys (some m) wr).mono ?_
      rintro e wz ⟨rfl, rfl⟩
      go_wp2_with fail
      refine HSK.out.mono ?_
      rintro e w2 ⟨v, ks, rfl, hK, hSo, hr, hb⟩
      obtain ⟨n4, hn4⟩ : ∃ n4, ks.length = n4 := ⟨_, rfl⟩
      have hn4' : n4 ≤ 2000000000 := by have := hK.len; have := HL.out.len; have := HN.out; omega
      rw [hn4] at hr
      have hr' := row_lower (b' := w.heap.size) hr (by have := HL.out.below.size; simp; omega)
      obtain ⟨ka, kc, rfl⟩ := row_form hr'
      have hL2 := HLW.out.later hb
      have HL2 := Lib.hid hL2
      have HK := Lib.hid hK
      have HSO := Lib.hid hSo
      have HR2 := Lib.hid hr'
      have HN4 := Lib.hid hn4
      clear hK hSo hr hb hr' hn4 hL2 HSK HLW HL
      go_wp2_with fail
      go_loopw [12, 65] (fun q i wr => In4 w m L (trL LS) (2 * (trL LS).length) ks (.slice ka n4 kc) n4 q i wr) (fun _ i _ => n4 - (intOf i).toNat)
      case atStart => exact ⟨0, [], Nat.zero_le _, rfl, rfl, rfl, World.ownsRow_nil _ _ _ _, (fun y hy => nomatch hy), HR2.out, HL2.out⟩
      case round =>
        obtain ⟨k4, C, hk4, rfl, hmap, hCl, hq, hpr, hkr, hT⟩ := hrel
        have HMAP := Lib.hid hmap
        have HCL := Lib.hid hCl
        have HQ := Lib.hid hq
        have HPR := Lib.hid hpr
        have HKR := Lib.hid hkr
        have HT := Lib.hid hT
        clear hmap hCl hq hpr hkr hT HL2 HR2
        by_cases hlt4 : k4 < n4
        · obtain ⟨kk, hkk⟩ : ∃ kk, ks[k4]? = some kk := ⟨_, List.getElem?_eq_getElem (by rw [HN4.out]; exact hlt4)⟩
          obtain ⟨g, rfl, q0, q1⟩ := key_cells HKR.out HN4.out hkk
          obtain ⟨x, hx, hxL, hxk⟩ := look_key HK.out (List.mem_of_getElem? hkk)
          obtain ⟨se, fi⟩ := kk
          injection hxk with e1 e2
          simp only at hx q0 q1
          have hsz := HT.out.tab.sizes x hxL
          rw [← e1, ← e2] at hsz
          have hbA := (Below.refl wr.heap.size wr).alloc (Nat.le_refl _) (.cells #[.string se, .string fi] 47)
          have hkA := heap_alloc_new wr (.cells #[.string se, .string fi] 47)
          obtain ⟨wA, hwA⟩ : ∃ wA, wr.alloc (.cells #[.string se, .string fi] 47) = wA := ⟨_, rfl⟩
          have hsA : wA.heap.size = wr.heap.size + 1 := by rw [← hwA]; simp
          rw [hwA] at hbA hkA
          have hbB := hbA.alloc hbA.size (.cells #[.string se, .string fi, .slice none 0 0] 28)
          have hkB := (heap_alloc_old wA (.cells #[.string se, .string fi, .slice none 0 0] 28) (show wr.heap.size < wA.heap.size by omega)).trans hkA
          have hcB := heap_alloc_new wA (.cells #[.string se, .string fi, .slice none 0 0] 28)
          obtain ⟨wB, hwB⟩ : ∃ wB, wA.alloc (.cells #[.string se, .string fi, .slice none 0 0] 28) = wB := ⟨_, rfl⟩
          have hsB : wB.heap.size = wA.heap.size + 1 := by rw [← hwB]; simp
          rw [hwB] at hbB hkB hcB
          obtain ⟨kb, hkb⟩ : ∃ kb, wr.heap.size = kb := ⟨_, rfl⟩
          obtain ⟨cb, hcb⟩ : ∃ cb, wA.heap.size = cb := ⟨_, rfl⟩
          rw [hkb] at hkA hkB
          rw [hcb] at hcB
          have hTB := HT.out.later hbB
          obtain ⟨P, hP⟩ : ∃ P, x.pts = P := ⟨_, rfl⟩
          have hin := hTB.tab.inner x hxL
          rw [hP] at hin
          obtain ⟨n5, hn5⟩ : ∃ n5, P.length = n5 := ⟨_, rfl⟩
          have hn5' : n5 ≤ 2000000000 := by have h1 := hTB.plen x hxL; have h2 := HN.out; rw [hP, hn5] at h1; omega
          have hst := sortedTimes x.b P wB hin (by omega)
          rw [hn5] at hst
          have hl1 := hTB.tab.lookup se fi hsz.1 hsz.2
          rw [hx] at hl1
          unfold kV mapOf at hl1
          simp only at hl1
          have a0 : wA.cell? ⟨kb, 0, none⟩ = some (.string se) := by simp [World.cell?, hkA]
          have a1 : wA.cell? ⟨kb, 1, none⟩ = some (.string fi) := by simp [World.cell?, hkA]
          have b0 : wB.cell? ⟨kb, 0, none⟩ = some (.string se) := by simp [World.cell?, hkB]
          have b1 : wB.cell? ⟨kb, 1, none⟩ = some (.string fi) := by simp [World.cell?, hkB]
          have HX := Lib.hid hx
          have HXL := Lib.hid hxL
          have HSZ := Lib.hid hsz
          have HP := Lib.hid hP
          have HN5 := Lib.hid hn5
          have HST := Lib.hid hst
          have HBB := Lib.hid hbB
          have HKB := Lib.hid hkB
          have HCB := Lib.hid hcB
          have HTB := Lib.hid hTB
          have HKK := Lib.hid hkk
          have HSA := Lib.hid (show kb + 1 = cb ∧ cb + 1 = wB.heap.size ∧ wr.heap.size = kb by omega)
          have HWB := Lib.hid hwB
          rw [← hwB] at hl1 b0 b1
          clear hkk hx hxL e1 e2 hsz hbA hkA hbB hkB hcB hTB hP hin hn5 hst hsA hsB hwB
          go_wp2_with fail
          simp only [HWB.out]
          clear a0 a1 b0 b1 hl1 hwA hkb hcb q0 q1
          refine (keys17 x.b wB).mono ?_
          rintro e wC ⟨rfl, rfl⟩
          go_wp2_with fail
          refine HST.out.mono ?_
          rintro e w5 ⟨tv, rfl, htr, hb5⟩
          obtain ⟨ta, tc, rfl⟩ := row_form htr
          have HTR := Lib.hid htr
          have HB5 := Lib.hid hb5
          have HT5 := Lib.hid (HTB.out.later hb5)
          have HK5 := Lib.hid ((hb5.block kb (heap_lt HKB.out)).trans HKB.out)
          have HC5 := Lib.hid ((hb5.block cb (heap_lt HCB.out)).trans HCB.out)
          have HB45 := Lib.hid (HBB.out.trans (hb5.mono HBB.out.size))
          clear htr hb5 HST
          go_wp2_with fail
          go_loopw [80] (fun i wr => In5 w5 cb se fi P n5 i wr) (fun i _ => n5 - (intOf i).toNat)
          case atStart => exact ⟨0, .slice none 0 0, Nat.zero_le _, rfl, Turns.refl _ _, HC5.out, World.ownsRow_nil _ _ _ _⟩
          case round =>
            obtain ⟨j, pv, hj5, rfl, htu, hcc, hpv⟩ := hrel
            obtain ⟨pa, pc, rfl⟩ := row_form hpv
            have HTU := Lib.hid htu
            have HCC := Lib.hid hcc
            have HPV := Lib.hid hpv
            clear htu hcc hpv
            by_cases hlt5 : j < n5
            · obtain ⟨p, hp⟩ : ∃ p, P[j]? = some p := ⟨_, List.getElem?_eq_getElem (by rw [HN5.out]; exact hlt5)⟩
              obtain ⟨tg, tcur, rfl, htg, tq⟩ := time_cells HTR.out HN5.out hp
              have hne : tg ≠ cb := fun e => by
                have h1 := HC5.out
                rw [← e, htg] at h1
                simp at h1
              have q0 := HTU.out.cell tq hne
              have hkn : kb ≠ cb := by have := HSA.out; omega
              have hkb := (HTU.out.block kb (heap_lt HK5.out) hkn).trans HK5.out
              have k0 : wr.cell? ⟨kb, 0, none⟩ = some (.string se) := by simp [World.cell?, hkb]
              have k1 : wr.cell? ⟨kb, 1, none⟩ = some (.string fi) := by simp [World.cell?, hkb]
              have hcc := HCC.out
              have c2 : wr.cell? ⟨cb, 2, none⟩ = some (.slice pa j pc) := by simp [World.cell?, hcc]
              have htab := tab_turns HT5.out.tab HC5.out HTU.out
              have hla := (htab.same (w' := wr.drew) (fun _ _ _ => rfl)).lookup se fi HSZ.out.1 HSZ.out.2
              rw [HX.out] at hla
              unfold kV mapOf at hla
              simp only at hla
              have hin := (htab.same (w' := wr.drew) (fun _ _ _ => rfl)).inner x HXL.out
              have hlb := inner_lookup hin p.1 (by
                have h1 : (p.1, p.2) ∈ x.pts := by rw [HP.out]; exact List.mem_of_getElem? hp
                have h2 := (lookP_mem (inner_rising hin) p.1 p.2).2 h1
                have h3 : lastV (trL LS) (se, fi) p.1 = some p.2 := by rw [HT5.out.ofT, HX.out]; exact h2
                exact HWF.out _ (lastV_mem h3))
              rw [(lookP_mem (inner_rising hin) p.1 p.2).2 (by rw [HP.out]; exact List.mem_of_getElem? hp)] at hlb
              unfold PV.v at hlb
              simp only at hlb
              have HPJ := Lib.hid hp
              clear hp htg tq hne hkn hkb hcc htab hin
              go_wp2_with fail
              clear q0
              obtain ⟨i0, z0', hi0, hz0, hz1, hz2, hz3⟩ := zparts33
              have HI := Lib.hid hi0
              have HI0 := Lib.hid hz0
              have HI1 := Lib.hid hz1
              have HI2 := Lib.hid hz2
              have HI3 := Lib.hid hz3
              have HS5 := Lib.hid HTU.out.size
              have HCBL := Lib.hid (heap_lt HC5.out)
              have qa : (wr.alloc (.cells #[.int .i64 p.1, .int .i64 p.2.kd, .int .u64 p.2.bits, .string p.2.text] 33)).cell? ⟨cb, 2, none⟩ = some (.slice pa j pc) := by
                have h1 := (heap_alloc_old wr (.cells #[.int .i64 p.1, .int .i64 p.2.kd, .int .u64 p.2.bits, .string p.2.text] 33) (show cb < wr.heap.size from Nat.lt_of_lt_of_le HCBL.out HS5.out)).trans HCC.out
                simp [World.cell?, h1]
              clear hi0 hz0 hz1 hz2 hz3
              go_region_law (refine step_append_srcN (by rfl) _ _ 26 (by rfl) w5.heap.size 33 i0 z0' 4 40 Try.underlying26 HI.out HI0.out HI1.out HI2.out HI3.out (by omega) (.slice pa j pc) j (ptC (P.take j)) (by rfl) (by first | exact (HPV.out.alloc _).drew | exact HPV.out.alloc _) (.slice (some ⟨wr.heap.size, 0, none⟩) 1 1) 1 [.int .i64 p.1, .int .i64 p.2.kd, .int .u64 p.2.bits, .string p.2.text] (by rfl) (SrcN.of_block (cs := #[.int .i64 p.1, .int .i64 p.2.kd, .int .u64 p.2.bits, .string p.2.text]) (heap_alloc_new wr _) rfl (by simp [Value.oneCell']) 1) (by unfold maxLen; omega) (by omega) (by have := HS5.out; simp; omega) ?_; intro a9 c9 w9 hr9 hg9 hat9; have HR9 := Lib.hid hr9; have HG9 := Lib.hid hg9; have hc9 : w9.heap[cb]? = some (.cells #[.string se, .string fi, .slice pa j pc] 28 (0, 0)) := ((hg9.block cb (by have := HCBL.out; have := HS5.out; simp; omega) (fun e => by have h1 := (HPV.out.lt cb e.symm).1; have := HCBL.out; omega)).trans (heap_alloc_old wr _ (by have := HCBL.out; have := HS5.out; omega))).trans HCC.out; have HC9 := Lib.hid hc9; have z9 : w9.frozen? ⟨cb, 2, none⟩ = false := (by simp [World.frozen?, hc9]); have y9 : w9.cell? ⟨cb, 2, none⟩ = some (.slice pa j pc) := (by simp [World.cell?, hc9]); clear hr9 hg9 hat9 hc9)
              all_goals
                clear qa z9 y9 c2 k0 k1 hla hlb
                go_wp2_with fail
                go_roundw
                case rel =>
                  exact in5_step hlt5 HPJ.out HTU.out HCBL.out HC9.out HPV.out HR9.out HG9.out _ (by go_num)
                case measure => simp [intOf]; omega
            · have hjn : j = n5 := by omega
              have HJN := Lib.hid hjn
              have hcc := HCC.out
              have d0 : wr.cell? ⟨cb, 0, none⟩ = some (.string se) := by simp [World.cell?, hcc]
              have d1 : wr.cell? ⟨cb, 1, none⟩ = some (.string fi) := by simp [World.cell?, hcc]
              have d2 : wr.cell? ⟨cb, 2, none⟩ = some (.slice pa j pc) := by simp [World.cell?, hcc]
              clear hjn hcc
              have hb6 := HB45.out.trans (HTU.out.below (B := _) (HB45.out.size) (fun y hy => by have := HSA.out; omega))
              have hb7 := (Below.refl wr.heap.size wr).alloc (Nat.le_refl _) (.cells #[.string se, .string fi, .slice pa j pc] 28)
              have hb67 := hb6.trans (hb7.mono hb6.size)
              have HQ7 := Lib.hid (row_later HQ.out hb67)
              have HPR7 := Lib.hid (fun y hy => row_later (HPR.out y hy) hb67)
              have HKR7 := Lib.hid (row_later HKR.out hb67)
              have HT7 := Lib.hid (HT.out.later hb67)
              have hpv := row_later (row_lower (b' := w.heap.size) HPV.out (by have h1 := HT5.out.below.size; exact h1)) hb7
              rw [List.take_of_length_le (by rw [HN5.out, HJN.out]; exact Nat.le_refl _)] at hpv
              have HPV7 := Lib.hid hpv
              have HSRC7 := Lib.hid (SrcN.of_block (size := 3) (m := 1) (heap_alloc_new wr (.cells #[.string se, .string fi, .slice pa j pc] 28)) rfl (by simp [Value.oneCell']) 1)
              obtain ⟨i0, z0', hi0, hz0, hz1, hz2, hz3⟩ := zparts28
              have HI := Lib.hid hi0
              have HI0 := Lib.hid hz0
              have HI1 := Lib.hid hz1
              have HI2 := Lib.hid hz2
              have HI3 := Lib.hid hz3
              clear hb6 hb7 hb67 hpv hi0 hz0 hz1 hz2 hz3
              obtain ⟨qa, qc, rfl⟩ := row_form HQ7.out
              go_wp2_with (at_builtin; refine wpList_append_srcN (by rfl) _ _ 24 (by rfl) w.heap.size 28 i0 z0' 3 56 Try.underlying24 HI.out HI0.out HI1.out HI2.out HI3.out (by omega) (.slice qa k4 qc) k4 (ccC C) (by rfl) HQ7.out (.slice (some ⟨wr.heap.size, 0, none⟩) 1 1) 1 [.string se, .string fi, .slice pa j pc] (by rfl) HSRC7.out (by unfold maxLen; omega) (by omega) (by exact HT7.out.below.size) ?_; intro v8 w8 hr8 hg8 hat8; obtain ⟨a8, c8, rfl⟩ := row_form hr8; have HR8 := Lib.hid hr8; have HG8 := Lib.hid hg8; clear hr8 hg8 hat8 d0 d1 d2)
              go_roundw
              case rel =>
                exact in4_step hlt4 HKK.out HX.out HP.out HMAP.out HCL.out HQ7.out HPR7.out HKR7.out HT7.out (by rw [HN5.out, ← HJN.out]; exact HPV7.out) HR8.out HG8.out _ (by go_num)
              case measure => simp [intOf]; omega
        · have hkn4 : k4 = n4 := by omega
          have HK4 := Lib.hid hkn4
          obtain ⟨qa, qc, rfl⟩ := row_form HQ.out
          clear hkn4
          go_wp2_with fail
          go_ret
          have h1 := HMAP.out
          exact merge_end HFULL.out HK.out HSO.out HWF.out (by rw [HK4.out] at h1; exact h1) HN4.out (by rw [HCL.out, HK4.out]) (by have h2 := HQ.out; rw [HK4.out] at h2 ⊢; exact h2) HPR.out HT.out
end Go.Proofs.Ytblpjhgbckfaeaa
