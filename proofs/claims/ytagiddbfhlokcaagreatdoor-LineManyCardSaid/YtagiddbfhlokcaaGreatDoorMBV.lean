/- The law LineMany walked. Conditions: the row's memory; the tables; strings.Split's bound lies where it lies. -/
import Derived.Test.YtagiddbfhlokcaaGreatDoorMBU
namespace Go.Proofs.YtagiddbfhlokcaaGreatDoor.Ser
open Go.RowKit Go.Sort Ff
set_option maxRecDepth 100000
theorem rep_bs (s : List UInt8) (k : Nat) : bs (rep s k) ++ bs s ++ ⟨#[10]⟩ = bs (rep s (k + 1)) := by
  have h2 : (⟨#[10]⟩ : ByteArray) = bs [10] := rfl
  rw [h2, bs_app, bs_app, List.append_assoc]
  rfl
set_option maxHeartbeats 4000000 in
theorem law3 (name : ByteArray) (a fa : Option Addr) (n cap fcap : Nat) (tm : Int) (b : Nat) (hb : b < 65536) (ht1 : -9223372036854775808 ≤ tm) (ht2 : tm ≤ 9223372036854775807) (kf vf : Nat → ByteArray) (L : List Fd) (w : World) (hn : n < 2 ^ 63) (hl : L.length < 2 ^ 63) (hname : name.size ≤ maxLen) (hks : ∀ i, (kf i).size ≤ maxLen ∧ (vf i).size ≤ maxLen)
    (hfs : ∀ p ∈ L, FdOk p) (ht : TagsAt w a n kf vf) (hf : FieldsAt w fa L) (hm : laidMet Tryz.prog Laid.lst w) (mx : Int) (h4 : w.cell? ⟨4, 0, none⟩ = some (.int .i64 mx)) :
    Calls Tryz.prog 3 #[.agg #[.string name, .slice a n cap, .slice fa L.length fcap, .int .i64 tm], .int .u16 (b : Int)] w (Answer (.bool true) w) := by
  obtain ⟨h1, h2⟩ := readers_of hm
  obtain ⟨henv, h15⟩ := fenv_of hm
  have h4l : 4 < w.heap.size := World.block_lt_of_cell? w _ h4
  obtain ⟨O, hO⟩ : ∃ O, Obj.cells #[.string name, .slice a n cap, .slice fa L.length fcap, .int .i64 tm] 27 (0, 0) = O := ⟨_, rfl⟩
  have hbx : Below w.heap.size w (w.alloc O) := (Below.refl _ _).alloc (Nat.le_refl _) _
  have MA := Lib.hid (awake10 (w.alloc O) (h1.later hbx))
  have M12 := Lib.hid (fun (l : List UInt8) (hl : l.length ≤ 1073741824) w2 (h : Below w.heap.size w w2) => batch12 5 l hl w2 (h1.later h) mx ((h.cell (p := ⟨4, 0, none⟩) h4l).trans h4))
  have hnew := newest w O
  have hs0 : w.heap.size < (w.alloc O).heap.size := by simp
  have HBX := Lib.hid (And.intro hbx hs0)
  have HT := Lib.hid ht
  have HF := Lib.hid hf
  have M11 := Lib.hid (fun w2 (hb : Below w.heap.size w w2) => print_11 TT tt_lt tabpow_tt name a fa n cap fcap tm ht1 ht2 kf vf L w2 hn hl hname hks hfs (HT.out.later hb) (HF.out.later hb) (henv.later hb h15) (Nat.lt_of_lt_of_le h15 hb.size))
  have HBACK := Lib.hid (fun h => And.intro (lineP_back tabpow_tt tabten_ff (name := name) (n := n) (kf := kf) (vf := vf) 5 ht1 ht2 hfs h) (noLf_row tabpow_tt (name := name) (n := n) (kf := kf) (vf := vf) (tm := tm) hfs h))
  have HL16 : Hid (rowB name n kf vf L = true → L.length ≤ 16) := Lib.hid (fun h => by
    unfold rowB at h
    rw [Bool.and_eq_true, Bool.and_eq_true, Bool.and_eq_true, decide_eq_true_eq, decide_eq_true_eq] at h
    exact h.2.2.2)
  have HN := Lib.hid hn
  obtain ⟨W0, hW0⟩ : ∃ W0, w.alloc O = W0 := ⟨_, rfl⟩
  rw [hW0] at MA HBX hnew
  rw [← hO] at hnew
  have HNEW := Lib.hid (show W0.heap[w.heap.size]? = some (.cells #[.string name, .slice a n cap, .slice fa L.length fcap, .int .i64 tm] 27 (0, 0)) from hnew)
  rw [← hO] at hW0
  have HB := Lib.hid hb
  clear hm h1 h2 henv h15 hbx hs0 ht hf hks hfs hname ht1 ht2 hn hO hnew h4 h4l hb
  go_enter Tryz.func3, Tryz.ntmps3
  go_wp2_with fail
  refine MA.out.mono ?_
  rintro e w1 ⟨rfl, hb1⟩
  have hk1 := (hb1.block _ HBX.out.2).trans HNEW.out
  have HK1 := Lib.hid hk1
  have c0 : w1.cell? ⟨w.heap.size, 0, none⟩ = some (.string name) := Lib.cell_of_heap hk1 0
  have c1 : w1.cell? ⟨w.heap.size, 1, none⟩ = some (.slice a n cap) := Lib.cell_of_heap hk1 1
  have c2 : w1.cell? ⟨w.heap.size, 2, none⟩ = some (.slice fa L.length fcap) := Lib.cell_of_heap hk1 2
  have c3 : w1.cell? ⟨w.heap.size, 3, none⟩ = some (.int .i64 tm) := Lib.cell_of_heap hk1 3
  have HB1 := Lib.hid (HBX.out.1.trans (hb1.mono (Nat.le_of_lt HBX.out.2)))
  clear hb1 hk1 hW0
  go_wp2_with fail
  refine (M11.out _ HB1.out).mono ?_
  intro e w2 hp
  unfold RowP at hp
  obtain ⟨he, hb2⟩ := hp
  have hk2 := (hb2.block _ (lt_of_block HK1.out)).trans HK1.out
  have HK2 := Lib.hid hk2
  have HB2 := Lib.hid (HB1.out.trans (hb2.mono HB1.out.size))
  clear hb2 c0 c1 c2 c3 hk2
  obtain ⟨r, hr⟩ : ∃ r, rowB name n kf vf L = r := ⟨_, rfl⟩
  rw [hr] at he HBACK HL16
  cases r with
  | false =>
    rw [if_neg (by decide), if_neg (by decide)] at he
    subst he
    go_wp2_with fail
    go_ret
    exact ⟨rfl, HB2.out⟩
  | true =>
    obtain ⟨l0, hl0⟩ : ∃ l, rText TT name n kf vf L tm = l := ⟨_, rfl⟩
    have hbk := HBACK.out rfl
    rw [hl0] at he hbk
    rw [if_pos rfl, if_pos rfl] at he
    subst he
    obtain ⟨hbk1, hbk2, hbk3⟩ := hbk
    have HLL := HL16.out rfl
    have HB1K := Lib.hid hbk1
    have HB2K := Lib.hid (And.intro hbk2 hbk3)
    clear hr hl0 hbk1 hbk2 hbk3
    have hls : ((bs l0).size : Int) = (l0.length : Int) := by rw [bs_size]
    by_cases h300 : l0.length ≤ 300
    · have h300z : ¬ (300 : Int) < (l0.length : Int) := by omega
      obtain ⟨c, hc⟩ : ∃ c, b % 1003 = c := ⟨_, rfl⟩
      have hmod : (b : Int).tmod 1003 = (c : Int) := by
        rw [Int.tmod_eq_emod_of_nonneg (by omega), ← hc]
        omega
      have hcl : c ≤ 1002 := by omega
      have HC := Lib.hid hc
      have H300 := Lib.hid h300
      clear hc h300
      go_wp2_with fail
      obtain ⟨RR, hRR⟩ : ∃ R : LR, (0, some (name, tgs n kf vf, L, tm)) = R := ⟨_, rfl⟩
      have hbat := batP_rep HB2K.out.1 HB2K.out.2 HB1K.out rfl c
      have hV : V0 = valP (tabF TT) FF := rfl
      have M12 := Lib.hid (M12.out (rep l0 c) (by
        rw [rep_len]
        have h3 := H300.out
        have h5 : c * (l0.length + 1) ≤ 1002 * 301 := Nat.mul_le_mul hcl (by omega)
        omega) w2 HB2.out)
      rw [hV, hbat, hRR] at M12
      have HRR := Lib.hid hRR
      have HIST := Lib.hid (show (∃ k : Nat, k ≤ c ∧ Value.int .i64 0 = .int .i64 (k : Int) ∧ Value.string ⟨#[]⟩ = .string (bs (rep l0 k))) from ⟨0, Nat.zero_le _, rfl, rfl⟩)
      clear hbat hV hmod h300z hRR
      go_loopw [8, 29] (fun v i wx => (∃ k : Nat, k ≤ c ∧ i = .int .i64 (k : Int) ∧ v = .string (bs (rep l0 k))) ∧ wx = w2) (fun _ i _ => c - (intOf i).toNat)
      case atStart => exact ⟨HIST.out, rfl⟩
      case round =>
        obtain ⟨⟨k, hk, rfl, rfl⟩, rfl⟩ := hrel
        by_cases hkc : k = c
        · subst hkc
          have hkz : ¬ (k : Int) < (k : Int) := by omega
          clear hk
          go_wp2_with fail
          refine M12.out.mono ?_
          rintro e w3 ⟨hb3, v, v8, es, rfl, ho, ho8, hrs⟩
          obtain ⟨av, cv, hv⟩ := numb_slice ho
          obtain ⟨a8, c8, hv8⟩ := numb_slice ho8
          subst hv hv8
          have hk3 := (hb3.block _ (lt_of_block HK2.out)).trans HK2.out
          have HB3 := Lib.hid (HB2.out.trans (hb3.mono HB2.out.size))
          have hel := hrs.length
          by_cases h1000 : 1000 < k
          · rw [if_pos h1000] at ho8 hrs hel
            simp only [List.length_nil, List.length_cons] at hel ho8
            rw [hel]
            obtain ⟨g, c', hv8, _, hgl⟩ := ho8.form (by decide)
            injection hv8 with hv8 _ hc8
            subst hv8
            have d0 := (own_cell ho8 (i := 0) (u := .int .i64 0) rfl (by decide)).1
            have d1 := (own_cell ho8 (i := 1) (u := .int .i64 4) rfl (by decide)).1
            have hz : ∀ w : World, (Instr.build 38 #[(0, .int .i64 0), (1, .int .i64 4)]).run Tryz.prog w = .ok (.agg #[.int .i64 0, .int .i64 4]) w := fun w => by kernel_rfl
            have hkz2 : (1000 : Int) < (k : Int) := by omega
            have h1z : (if 1000 < k then (([] : List (Int × LR)), [((0 : Int), (4 : Int))]) else ((List.range k).map fun (i : Nat) => ((i : Int) + 1, RR), [])).2.length = 1 := by rw [if_pos h1000]; rfl
            simp only [h1z]
            clear ho ho8 hrs hel h1000 hb3 hc8 hk3 h1z
            go_wp2_with fail
            go_ret
            exact ⟨rfl, HB3.out⟩
          · rw [if_neg h1000] at ho8 hrs hel
            have h0z : (if 1000 < k then (([] : List (Int × LR)), [((0 : Int), (4 : Int))]) else ((List.range k).map fun (i : Nat) => ((i : Int) + 1, RR), [])).2.length = 0 := by rw [if_neg h1000]; rfl
            simp only [h0z]
            simp only [List.length_map, List.length_range] at hel
            have hkz2 : ¬ (1000 : Int) < (k : Int) := by omega
            have HO := Lib.hid ho
            have HRS := Lib.hid hrs
            have HK3 := Lib.hid hk3
            have HEL := Lib.hid hel
            rw [hel]
            have c0 : w3.cell? ⟨w.heap.size, 0, none⟩ = some (.string name) := Lib.cell_of_heap hk3 0
            have c1 : w3.cell? ⟨w.heap.size, 1, none⟩ = some (.slice a n cap) := Lib.cell_of_heap hk3 1
            have c2 : w3.cell? ⟨w.heap.size, 2, none⟩ = some (.slice fa L.length fcap) := Lib.cell_of_heap hk3 2
            have c3 : w3.cell? ⟨w.heap.size, 3, none⟩ = some (.int .i64 tm) := Lib.cell_of_heap hk3 3
            clear ho ho8 hrs hel h1000 hb3 hk3 h0z
            by_cases hk0 : k = 0
            · have hk0z : ((k : Int) == 0) = true := by rw [hk0]; rfl
              clear hk0
              go_wp2_with fail
              go_quiet (fail)
              go_wp2_with fail
              go_ret
              exact ⟨rfl, below_drewN HB3.out _⟩
            · have hk0z : ((k : Int) == 0) = false := by rw [beq_eq_false_iff_ne]; omega
              obtain ⟨m, hmk⟩ : ∃ m, m + 1 = k := ⟨k - 1, by omega⟩
              have hm1 : (k : Int) - 1 = (m : Int) := by omega
              have hm2 : (m : Int) < (k : Int) := by omega
              have hmk' : m < es.length := by rw [HEL.out]; omega
              have h7 := HO.out
              obtain ⟨g, c', hv, hgb, hgl⟩ := h7.form (by omega)
              injection hv with hv hv1 hv2
              clear hv1
              subst hv
              obtain ⟨q1, q2⟩ := HRS.out.get m hmk' (by simp; omega)
              obtain ⟨⟨no, nm, ra, rn, rc, rfa, rm, rfc, rt⟩, hx⟩ : ∃ x, es[m] = x := ⟨_, rfl⟩
              have t1 := own_get h7 encB_len rfl hmk' (j := 0) (by decide) (u := .string nm) (by rw [hx]; rfl)
              have t2 := own_get h7 encB_len rfl hmk' (j := 1) (by decide) (u := .slice ra rn rc) (by rw [hx]; rfl)
              have t3 := own_get h7 encB_len rfl hmk' (j := 2) (by decide) (u := .slice rfa rm rfc) (by rw [hx]; rfl)
              have t4 := own_get h7 encB_len rfl hmk' (j := 3) (by decide) (u := .int .i64 rt) (by rw [hx]; rfl)
              rw [hx] at q2
              simp only [List.getElem_map, List.getElem_range] at q2
              rw [← HRR.out] at q2
              obtain ⟨s1, s2, s3, s4, s5, s6⟩ := q2
              simp only [cont, Option.getD_some] at s1 s2 s3 s4 s5 s6
              rw [tgs_len] at s2
              subst s1 s2 s3 s4
              have HQ6 := Lib.hid s6
              have HQ7 := Lib.hid (TagsAt.congr (kg := kf) (vg := vf) s5 (fun i hi => tgs_get hi))
              have cS := fun d os => Calls.regrown_of (same13 nm ra a rfa fa rn rc cap rfc fcap rt kf vf L (grow (redrawn w3 d) os) HN.out (by omega) (HQ7.out.later (below_regrown w3 d os)) ((HT.out.later HB3.out).later (below_regrown w3 d os)) (HQ6.out.later (below_regrown w3 d os)) ((HF.out.later HB3.out).later (below_regrown w3 d os)))
              have g0 := cell_regrown c0
              have g1 := cell_regrown c1
              have g2 := cell_regrown c2
              have g3 := cell_regrown c3
              rw [Nat.add_zero] at t1
              have u1 := cell_regrown t1
              have u2 := cell_regrown t2
              have u3 := cell_regrown t3
              have u4 := cell_regrown t4
              clear s5 s6 q1 hx h7 hmk hv2 hgb hgl hk0
              go_wp2_with fail
              refine wp_region_quiet_below (by kernel_rfl) (by kernel_rfl) ?_
              repeat (go_big_quiet_step ((first | with_reducible exact cS _ _)))
              refine wpQuiet_nil ?_
              intro w7 hw7
              have hb7 := below_of_regrown hw7
              clear hw7
              go_wp2_with fail
              go_ret
              exact ⟨rfl, HB3.out.trans (hb7.mono HB3.out.size)⟩
        · have hkz : (k : Int) < (c : Int) := by omega
          have HKC : Hid (k < c) := Lib.hid (by omega)
          have sR : (bs (rep l0 k)).size ≤ 302000 := by
            rw [bs_size, rep_len]
            have h3 := H300.out
            have h5 : k * (l0.length + 1) ≤ 1002 * 301 := Nat.mul_le_mul (by omega) (by omega)
            omega
          have sL : (bs l0).size ≤ 300 := by rw [bs_size]; exact H300.out
          clear hkc hk
          go_wp2_with fail
          rw [rep_bs]
          exact ⟨⟨⟨k + 1, HKC.out, by go_num, rfl⟩, trivial⟩, by have := HKC.out; simp [intOf]; omega⟩
    · have h300z : (300 : Int) < (l0.length : Int) := by omega
      clear h300
      go_wp2_with fail
      go_ret
      exact ⟨rfl, HB2.out⟩
end Go.Proofs.YtagiddbfhlokcaaGreatDoor.Ser
