/- Several texts of this proof, laid together. Conditions: as each says. -/
import Derived.Test.YtagiddbfhlokcaaGreatDoorMBE
import Derived.Test.YtagiddbfhlokcaaGreatDoorMBB
/- The other package's Parse. Condition: the text's length; strconv's tables. -/
namespace Go.Proofs.YtagiddbfhlokcaaGreatDoor
open Go.RowKit
set_option maxRecDepth 100000
theorem run_sub_fin {x : Nat} (h : PF.Fin x) (w : World) : (binOp BinOp.sub 99 (.float .f64 x) (.float .f64 x)).run Tryz.prog w = .ok (.float .f64 0) w := by
  have hs := PF.sub_fin h
  simp [binOp, go_sem, Op.floatArith, FloatKind.format, hs]
theorem run_sub_inf {x : Nat} (h : PF.Inf x) (w : World) : ∃ y, (binOp BinOp.sub 99 (.float .f64 x) (.float .f64 x)).run Tryz.prog w = .ok (.float .f64 y) w.drew ∧ ∃ s t, Ieee.double.read y = .nan s t := by
  have hs := PF.sub_inf h
  refine ⟨Question.cut (.nanBits .f64 x x) (w.tape w.drawn (.nanBits .f64 x x)), ?_, ?_⟩
  · simp [binOp, go_sem, Op.floatArith, FloatKind.format, hs, Question.forced]
  · generalize w.tape w.drawn (.nanBits .f64 x x) = t
    have h1 : Ieee.double.signWeight = 9223372036854775808 := rfl
    have h2 : Ieee.double.binade = 4503599627370496 := rfl
    have h3 : Ieee.double.infRung = 9218868437227405312 := rfl
    unfold Question.cut Ieee.Format.read
    simp only [h1, h2, h3]
    have h4 : (t / 2) % (2 ^ 52 - 1) < 2 ^ 52 - 1 := Nat.mod_lt _ (by decide)
    have h5 : t % 2 < 2 := Nat.mod_lt _ (by decide)
    generalize (t / 2) % (2 ^ 52 - 1) = b at *
    generalize t % 2 = a at *
    have h6 : (2 : Nat) ^ 52 - 1 = 4503599627370495 := by decide
    have h7 : (2 : Nat) ^ 63 = 9223372036854775808 := by decide
    rw [h6] at h4
    rw [h7]
    rw [if_neg (by omega), if_neg (by omega), if_neg (by omega)]
    exact ⟨_, _, rfl⟩
theorem results53d {F : Func} (hF : F.results = #[.cell 2 53, .tmp 3]) {tmps : Array Value} {wr : World} {B : Nat} {x y z a b c : Value} (hb : tmps.getD 2 undef = .pointer (some ⟨B, 0, none⟩)) (hk : wr.heap[B]? = some (.cells #[a, b, c] 53 (0, 0))) :
    (results F tmps).run Tryz.prog (((wr.setCell ⟨B, 0, none⟩ x).setCell ⟨B, 1, none⟩ y).setCell ⟨B, 2, none⟩ z).drew = .ok (.tuple #[.agg #[x, y, z], tmps.getD 3 undef]) (((wr.setCell ⟨B, 0, none⟩ x).setCell ⟨B, 1, none⟩ y).setCell ⟨B, 2, none⟩ z).drew := by
  have h1 := heap_setCell_same _ B 0 _ _ x hk
  have h2 := heap_setCell_same _ B 1 _ _ y h1
  have h3 := heap_setCell_same _ B 2 _ _ z h2
  exact results2 hF hb h3
theorem suffix_snoc (m : List UInt8) (z : UInt8) : Lib.hasSuffix (m ++ [z]) [105] = decide (z = 105) ∧ (z = 105 → Lib.trimSuffix (m ++ [z]) [105] = m) := by
  have h1 : Lib.hasSuffix (m ++ [z]) [105] = decide (z = 105) := by
    unfold Lib.hasSuffix List.isSuffixOf
    simp [List.isPrefixOf]
    by_cases h : z = 105
    · simp [h]
    · simp [h, Ne.symm h]
  refine ⟨h1, fun h => ?_⟩
  unfold Lib.trimSuffix
  rw [h1, if_pos (decide_eq_true h)]
  simp
theorem strs_t (w0 : World) (g : Nat) (hg : w0.heap.size = g) : ∀ k (h : k < trues.length), (w0.alloc (.cells #[.string ⟨#[116]⟩, .string ⟨#[84]⟩, .string ⟨#[116, 114, 117, 101]⟩, .string ⟨#[84, 114, 117, 101]⟩, .string ⟨#[84, 82, 85, 69]⟩] 9 (0, 0))).cell? ⟨g, k, none⟩ = some (.string (bs trues[k])) := by
  subst hg
  intro k h
  rw [Lib.cell_of_heap (newest _ _)]
  match k, h with
  | 0, _ => rfl
  | 1, _ => rfl
  | 2, _ => rfl
  | 3, _ => rfl
  | 4, _ => rfl
  | k + 5, h => exact absurd h (by simp [trues])
theorem strs_f (w0 : World) (g : Nat) (hg : w0.heap.size = g) : ∀ k (h : k < falses.length), (w0.alloc (.cells #[.string ⟨#[102]⟩, .string ⟨#[70]⟩, .string ⟨#[102, 97, 108, 115, 101]⟩, .string ⟨#[70, 97, 108, 115, 101]⟩, .string ⟨#[70, 65, 76, 83, 69]⟩] 9 (0, 0))).cell? ⟨g, k, none⟩ = some (.string (bs falses[k])) := by
  subst hg
  intro k h
  rw [Lib.cell_of_heap (newest _ _)]
  match k, h with
  | 0, _ => rfl
  | 1, _ => rfl
  | 2, _ => rfl
  | 3, _ => rfl
  | 4, _ => rfl
  | k + 5, h => exact absurd h (by simp [falses])
set_option maxHeartbeats 8000000 in
theorem parse21 {T : Nat → Nat × Nat} {F : Nat → Nat} {B2 o2 B o : Nat} {S : Nat → ByteArray} (l : List UInt8) (hlen : l.length ≤ 140737488355328) (w : World) (hw : PEnv T F B2 o2 B o S w) {ev : Value} (hv : w.cell? ⟨3, 0, none⟩ = some ev) (hev : ev = .nilIface ∨ ∃ te pe, ev = .iface te pe) :
    Calls Tryz.prog 21 #[.string (bs l)] w fun e w' => e = .returned (.tuple #[(valP (tabF T) F l).1, .int .i64 (valP (tabF T) F l).2]) ∧ Below w.heap.size w w' := by
  obtain ⟨V, hV⟩ : ∃ V, valP (tabF T) F l = V := ⟨_, rfl⟩
  rw [hV]
  unfold valP at hV
  have HV := Lib.hid hV
  have HW := Lib.hid (fun w2 (h : Below w.heap.size w w2) => hw.below h)
  have HE := Lib.hid (fun w2 (h : Below w.heap.size w w2) => (h.cell (cell_lt hv)).trans hv)
  have HEV := Lib.hid hev
  obtain ⟨w0, hw0⟩ : ∃ w0, w.alloc (.cells #[.int .i64 0, .int .u64 0, .string ⟨#[]⟩] 53 (0, 0)) = w0 := ⟨_, rfl⟩
  have HW0 := Lib.hid hw0
  have hs0 : w0.heap.size = w.heap.size + 1 := by rw [← hw0]; simp
  have HS0 := Lib.hid hs0
  clear hV hw hv hev hs0
  go_enter Tryz.func21, Tryz.ntmps21
  go_wp2_with fail
  refine (in51 trues l w0.heap.size _ (strs_t w0 _ rfl) (by decide)).mono ?_
  rintro e w1 ⟨rfl, rfl⟩
  obtain ⟨w1, hw1⟩ : ∃ w1, w0.alloc (.cells #[.string ⟨#[116]⟩, .string ⟨#[84]⟩, .string ⟨#[116, 114, 117, 101]⟩, .string ⟨#[84, 114, 117, 101]⟩, .string ⟨#[84, 82, 85, 69]⟩] 9 (0, 0)) = w1 := ⟨_, rfl⟩
  have HB1 : Hid (Below w0.heap.size w0 w1) := Lib.hid (by rw [← hw1]; exact (Below.refl _ _).alloc (Nat.le_refl _) _)
  rw [hw1]
  clear hw1
  by_cases ht : l ∈ trues
  · rw [if_pos ht] at HV
    have hd : decide (l ∈ trues) = true := decide_eq_true ht
    rw [hd]
    clear ht hd
    obtain ⟨f0, f1, f2, g0, g1, g2, hk, hbw⟩ := resF HW0.out HB1.out
    have HBW := Lib.hid hbw
    have HK := Lib.hid hk
    clear hk hbw
    go_wp2_with fail
    refine bodyPost_ret (results53 (F := Tryz.f21) rfl rfl HK.out) rfl ?_
    exact ⟨by rw [← HV.out]; rfl, ((HBW.out.setCell (Nat.le_refl _) _).setCell (Nat.le_refl _) _).setCell (Nat.le_refl _) _⟩
  · rw [if_neg ht] at HV
    have hd : decide (l ∈ trues) = false := decide_eq_false ht
    rw [hd]
    clear ht hd
    go_wp2_with fail
    refine (in51 falses l w1.heap.size _ (strs_f w1 _ rfl) (by decide)).mono ?_
    rintro e w2 ⟨rfl, rfl⟩
    obtain ⟨w2, hw2⟩ : ∃ w2, w1.alloc (.cells #[.string ⟨#[102]⟩, .string ⟨#[70]⟩, .string ⟨#[102, 97, 108, 115, 101]⟩, .string ⟨#[70, 97, 108, 115, 101]⟩, .string ⟨#[70, 65, 76, 83, 69]⟩] 9 (0, 0)) = w2 := ⟨_, rfl⟩
    have HB2 : Hid (Below w0.heap.size w0 w2) := Lib.hid (by rw [← hw2]; exact HB1.out.alloc HB1.out.size _)
    rw [hw2]
    clear hw2 HB1
    by_cases hf : l ∈ falses
    · rw [if_pos hf] at HV
      have hd : decide (l ∈ falses) = true := decide_eq_true hf
      rw [hd]
      clear hf hd
      obtain ⟨f0, f1, f2, g0, g1, g2, hk, hbw⟩ := resF HW0.out HB2.out
      have HBW := Lib.hid hbw
      have HK := Lib.hid hk
      clear hk hbw
      go_wp2_with fail
      refine bodyPost_ret (results53 (F := Tryz.f21) rfl rfl HK.out) rfl ?_
      exact ⟨by rw [← HV.out]; rfl, ((HBW.out.setCell (Nat.le_refl _) _).setCell (Nat.le_refl _) _).setCell (Nat.le_refl _) _⟩
    · rw [if_neg hf] at HV
      have hd : decide (l ∈ falses) = false := decide_eq_false hf
      rw [hd]
      clear hf hd
      have hbw0 : Below w.heap.size w w2 := by
        have h0 : Below w.heap.size w w0 := by rw [← HW0.out]; exact (Below.refl _ _).alloc (Nat.le_refl _) _
        exact h0.trans (HB2.out.mono h0.size)
      have HBA := Lib.hid hbw0
      clear hbw0
      rcases list_cases l with e | ⟨a, r, e⟩
      · have h0 : (bs l).size = 0 := by rw [bs_size, e]; rfl
        have h0z : ¬((0 : Int) < ((bs l).size : Int)) := by omega
        have h1z : ¬((1 : Int) < ((bs l).size : Int)) := by omega
        have HVE : Hid ((val 0 0 ⟨#[]⟩, 2) = V) := Lib.hid (by rw [← HV.out, e]; rfl)
        have MF := Lib.hid (isFloat53 l (by omega) w2)
        have hdec : PF.decB l = false := by rw [e]; rfl
        rw [hdec] at MF
        clear e h0 hdec
        go_wp2_with fail
        refine MF.out.mono ?_
        rintro e w3 ⟨rfl, rfl⟩
        obtain ⟨f0, f1, f2, g0, g1, g2, hk, hbw⟩ := resF HW0.out HB2.out
        have HBW := Lib.hid hbw
        have HK := Lib.hid hk
        clear hk hbw
        go_wp2_with fail
        refine bodyPost_ret (results53 (F := Tryz.f21) rfl rfl HK.out) rfl ?_
        exact ⟨by rw [← HVE.out]; rfl, ((HBW.out.setCell (Nat.le_refl _) _).setCell (Nat.le_refl _) _).setCell (Nat.le_refl _) _⟩
      · obtain ⟨hlt, hg, hem, h0i, h1i, htl⟩ := bs_head e
        by_cases h34 : a = 34
        · have c34 : ((a.toNat : Int) == 34) = true := byte_eq a 34 (by decide) h34
          have hq : headIs 34 l = true := by rw [e, h34]; rfl
          rw [if_pos hq] at HV
          have HVU : Hid (unqV (PF.unq r) = V) := Lib.hid (by rw [← HV.out, e]; rfl)
          have MU := Lib.hid (unquoted52 r (by rw [e] at hlen; simp at hlen; omega) w2)
          rw [h34] at e
          rw [← e] at MU
          clear e h34 hq htl
          go_wp2_with fail
          refine MU.out.mono ?_
          rintro e w3 ⟨rfl, hb3⟩
          have HB3 := Lib.hid (HB2.out.trans (hb3.mono HB2.out.size))
          clear hb3
          obtain ⟨u, hu⟩ : ∃ u, PF.unq r = u := ⟨_, rfl⟩
          rw [hu] at HVU ⊢
          clear hu
          cases u with
          | none =>
            unfold uqR
            unfold unqV at HVU
            simp only at HVU ⊢
            obtain ⟨f0, f1, f2, g0, g1, g2, hk, hbw⟩ := resF HW0.out HB3.out
            have HBW := Lib.hid hbw
            have HK := Lib.hid hk
            clear hk hbw
            go_wp2_with fail
            refine bodyPost_ret (results53 (F := Tryz.f21) rfl rfl HK.out) rfl ?_
            exact ⟨by rw [← HVU.out]; rfl, ((HBW.out.setCell (Nat.le_refl _) _).setCell (Nat.le_refl _) _).setCell (Nat.le_refl _) _⟩
          | some t =>
            unfold uqR
            unfold unqV at HVU
            simp only at HVU ⊢
            by_cases h6 : 65536 < t.length
            · rw [if_pos h6] at HVU
              have h6z : (65536 : Int) < ((bs t).size : Int) := by rw [bs_size]; omega
              clear h6
              obtain ⟨f0, f1, f2, g0, g1, g2, hk, hbw⟩ := resF HW0.out HB3.out
              have HBW := Lib.hid hbw
              have HK := Lib.hid hk
              clear hk hbw
              go_wp2_with fail
              refine bodyPost_ret (results53 (F := Tryz.f21) rfl rfl HK.out) rfl ?_
              exact ⟨by rw [← HVU.out]; rfl, ((HBW.out.setCell (Nat.le_refl _) _).setCell (Nat.le_refl _) _).setCell (Nat.le_refl _) _⟩
            · rw [if_neg h6] at HVU
              have h6z : ¬(65536 : Int) < ((bs t).size : Int) := by rw [bs_size]; omega
              clear h6
              obtain ⟨f0, f1, f2, g0, g1, g2, hk, hbw⟩ := resF HW0.out HB3.out
              have HBW := Lib.hid hbw
              have HK := Lib.hid hk
              clear hk hbw
              go_wp2_with fail
              refine bodyPost_ret (results53 (F := Tryz.f21) rfl rfl HK.out) rfl ?_
              exact ⟨by rw [← HVU.out]; rfl, ((HBW.out.setCell (Nat.le_refl _) _).setCell (Nat.le_refl _) _).setCell (Nat.le_refl _) _⟩
        · have c34 : ((a.toNat : Int) == 34) = false := byte_ne a 34 (by decide) h34
          have hq : headIs 34 l = false := by rw [e]; simp [headIs, h34]
          rw [if_neg (by rw [hq]; decide)] at HV
          clear h34 hq htl
          obtain ⟨m, z, hmz⟩ : ∃ m z, l = m ++ [z] := by
            rcases List.eq_nil_or_concat l with h | ⟨m, z, h⟩
            · rw [h] at e; cases e
            · exact ⟨m, z, by rw [h, List.concat_eq_append]⟩
          obtain ⟨bi, hbi⟩ : ∃ b, (decide (1 < l.length) && decide (z = 105)) = b := ⟨_, rfl⟩
          have HBI := Lib.hid hbi
          have HMZ := Lib.hid hmz
          have hsz : (bs l).size = m.length + 1 := by rw [bs_size, hmz]; simp
          obtain ⟨k, hk⟩ : ∃ k, m.length = k := ⟨_, rfl⟩
          rw [hk] at hsz
          have hkz : ((bs l).size : Int) - 1 = (k : Int) := by omega
          have hklt : k < (bs l).size := by omega
          have hgz : (bs l)[k] = z := by rw [bs_get]; simp [hmz, ← hk]
          have hkl : (k : Int) < ((bs l).size : Int) := by omega
          have hll : l.length = k + 1 := by rw [← bs_size]; exact hsz
          have HSZ := Lib.hid hsz
          have HK := Lib.hid hk
          clear e hbi hmz hsz hk
          go_upto_region 12 with (fail)
          go_cut [50] from 40 to 50 (fun v w' => v = .bool bi ∧ w2 = w')
          case first =>
            have hbi := HBI.out
            by_cases hk1 : 1 < l.length
            · have hk1z : (1 : Int) < ((bs l).size : Int) := by rw [HSZ.out]; omega
              by_cases hz : z = 105
              · have cz : ((z.toNat : Int) == 105) = true := byte_eq z 105 (by decide) hz
                obtain rfl : true = bi := by rw [← hbi]; simp [hk1, hz]
                clear hbi hz
                go_wp2_with fail
                go_meet
                case rel => exact ⟨rfl, rfl⟩
              · have cz : ((z.toNat : Int) == 105) = false := byte_ne z 105 (by decide) hz
                obtain rfl : false = bi := by rw [← hbi]; simp [hz]
                clear hbi hz
                go_wp2_with fail
                go_meet
                case rel => exact ⟨rfl, rfl⟩
            · have hk1z : ¬(1 : Int) < ((bs l).size : Int) := by rw [HSZ.out]; omega
              obtain rfl : false = bi := by rw [← hbi]; simp [hk1]
              clear hbi
              go_wp2_with fail
              go_meet
              case rel => exact ⟨rfl, rfl⟩
          case rest =>
            obtain ⟨rfl, rfl⟩ := hcut
            have hsuf := suffix_snoc m z
            rw [← HMZ.out] at hsuf
            cases bi with
            | true =>
              have hbi := HBI.out
              simp only [Bool.and_eq_true, decide_eq_true_eq] at hbi
              rw [if_pos (by rw [hsuf.1]; exact decide_eq_true hbi.2), hsuf.2 hbi.2] at HV
              have MI := Lib.hid (int37 m (by rw [HK.out]; omega) w2)
              have hcutl : (bs l).extract 0 k = bs m := by
                apply ByteArray.ext
                apply Array.toList_inj.1
                rw [Lib.extract_data, bs_list, bs_list, HMZ.out, ← HK.out]
                simp
              obtain ⟨xx, hxx⟩ : ∃ x, PF.intP m = x := ⟨_, rfl⟩
              rw [hxx] at MI HV
              obtain ⟨i, n⟩ := xx
              clear hxx hbi hsuf
              simp only at MI HV
              go_wp2_with fail
              refine MI.out.mono ?_
              rintro e w3 ⟨rfl, rfl⟩
              by_cases hn : n = 0
              · rw [if_pos hn] at HV
                have hnb : (n == 0) = true := by rw [hn]; rfl
                clear hn
                obtain ⟨f0, f1, f2, g0, g1, g2, hk, hbw⟩ := resF HW0.out HB2.out
                have HBW := Lib.hid hbw
                have HK := Lib.hid hk
                clear hk hbw
                go_wp2_with fail
                refine bodyPost_ret (results53 (F := Tryz.f21) rfl rfl HK.out) rfl ?_
                exact ⟨by rw [← HV.out]; rfl, ((HBW.out.setCell (Nat.le_refl _) _).setCell (Nat.le_refl _) _).setCell (Nat.le_refl _) _⟩
              · rw [if_neg hn] at HV
                have hnb : (n == 0) = false := by rw [beq_eq_false_iff_ne]; exact hn
                clear hn
                obtain ⟨f0, f1, f2, g0, g1, g2, hk, hbw⟩ := resF HW0.out HB2.out
                have HBW := Lib.hid hbw
                have HK := Lib.hid hk
                clear hk hbw
                go_wp2_with fail
                refine bodyPost_ret (results53 (F := Tryz.f21) rfl rfl HK.out) rfl ?_
                exact ⟨by rw [← HV.out]; rfl, ((HBW.out.setCell (Nat.le_refl _) _).setCell (Nat.le_refl _) _).setCell (Nat.le_refl _) _⟩
            | false =>
              have HV2 : Hid ((if PF.decB l then (if (PF.atof (tabF T) F l).2 then (val 0 0 ⟨#[]⟩, 3) else (val 1 (PF.atof (tabF T) F l).1 ⟨#[]⟩, 0)) else (val 0 0 ⟨#[]⟩, 2)) = V) := Lib.hid (by
                by_cases hz : z = 105
                · have hbi := HBI.out
                  have h1 : ¬1 < l.length := by intro h; simp [h, hz] at hbi
                  have hm : m = [] := by apply List.eq_nil_of_length_eq_zero; rw [HK.out]; omega
                  have hv := HV.out
                  rw [if_pos (by rw [hsuf.1]; exact decide_eq_true hz), hsuf.2 hz, hm] at hv
                  rw [← hv, HMZ.out, hm, hz]
                  rfl
                · have hv := HV.out
                  rw [if_neg (by rw [hsuf.1]; simp [hz])] at hv
                  exact hv)
              clear hsuf HV
              have M58 := Lib.hid (isFloat53 l (by omega) w2)
              obtain ⟨bd, hbd⟩ : ∃ b, PF.decB l = b := ⟨_, rfl⟩
              have HBD := Lib.hid hbd
              rw [hbd] at HV2 M58
              clear hbd
              go_wp2_with fail
              refine M58.out.mono ?_
              rintro e w3 ⟨rfl, rfl⟩
              cases bd with
              | false =>
                rw [if_neg (by decide)] at HV2
                obtain ⟨f0, f1, f2, g0, g1, g2, hk, hbw⟩ := resF HW0.out HB2.out
                have HBW := Lib.hid hbw
                have HK := Lib.hid hk
                clear hk hbw
                go_wp2_with fail
                refine bodyPost_ret (results53 (F := Tryz.f21) rfl rfl HK.out) rfl ?_
                exact ⟨by rw [← HV2.out]; rfl, ((HBW.out.setCell (Nat.le_refl _) _).setCell (Nat.le_refl _) _).setCell (Nat.le_refl _) _⟩
              | true =>
                rw [if_pos rfl] at HV2
                have MP := Lib.hid (parse54 (bs l) (by rw [bs_list]; exact HBD.out) (HW.out _ HBA.out) (HE.out _ HBA.out) HEV.out)
                rw [bs_list] at MP
                have hfin := PF.atof_fin (T := tabF T) (F := F) (fun p => (HW.out _ HBA.out).tl _ |>.1) (HW.out _ HBA.out).flo.ok l
                obtain ⟨xx, hxx⟩ : ∃ x, PF.atof (tabF T) F l = x := ⟨_, rfl⟩
                rw [hxx] at MP HV2 hfin
                obtain ⟨x, ov⟩ := xx
                clear hxx
                simp only at MP HV2 hfin
                have HFIN := Lib.hid hfin
                clear hfin
                go_wp2_with fail
                refine MP.out.mono ?_
                rintro e w3 ⟨h1, h2, hb3⟩
                have HB3 := Lib.hid (HB2.out.trans (hb3.mono HB2.out.size))
                simp only at h1 h2
                cases ov with
                | true =>
                  obtain ⟨NN, rfl⟩ := h2 rfl
                  clear h1 h2 hb3
                  rw [if_pos rfl] at HV2
                  obtain ⟨y, hsub, s, t, hnan⟩ := run_sub_inf (HFIN.out.2.1 rfl) w3
                  have hneq : (FloatKind.f64.format.order y 0 != some Ordering.eq) = true := by
                    show (Ieee.double.order y 0 != some Ordering.eq) = true
                    unfold Ieee.Format.order
                    rw [hnan]
                    rfl
                  clear hnan
                  obtain ⟨f0, f1, f2, g0, g1, g2, hk, hbw⟩ := resF HW0.out HB3.out
                  have HBW := Lib.hid hbw
                  have HK := Lib.hid hk
                  clear hk hbw
                  go_wp2_with fail
                  refine bodyPost_ret (results53d (F := Tryz.f21) rfl rfl HK.out) rfl ?_
                  exact ⟨by rw [← HV2.out]; rfl, (((HBW.out.setCell (Nat.le_refl _) _).setCell (Nat.le_refl _) _).setCell (Nat.le_refl _) _).drew⟩
                | false =>
                  obtain rfl := h1 rfl
                  clear h1 h2 hb3
                  rw [if_neg (by decide)] at HV2
                  have hsub := run_sub_fin (HFIN.out.1 rfl)
                  have hneq : (FloatKind.f64.format.order 0 0 != some Ordering.eq) = false := by kernel_rfl
                  have h55 := run55 x
                  obtain ⟨f0, f1, f2, g0, g1, g2, hk, hbw⟩ := resF HW0.out HB3.out
                  have HBW := Lib.hid hbw
                  have HK := Lib.hid hk
                  clear hk hbw
                  go_wp2_with fail
                  refine bodyPost_ret (results53 (F := Tryz.f21) rfl rfl HK.out) rfl ?_
                  exact ⟨by rw [← HV2.out]; rfl, ((HBW.out.setCell (Nat.le_refl _) _).setCell (Nat.le_refl _) _).setCell (Nat.le_refl _) _⟩
end Go.Proofs.YtagiddbfhlokcaaGreatDoor
/- Whether a value is formed, by the program and by the reference. Condition: the bits are 64. -/
namespace PF
open Ieee
def Nan (x : Nat) : Prop := 9218868437227405312 < x % 9223372036854775808
theorem sorts (x : Nat) : Fin x ∨ Inf x ∨ Nan x := by unfold Fin Inf Nan; omega
theorem read_fin' {x : Nat} (h : Fin x) : ∃ s m i, double.read x = .number s m i ∧ m < 9007199254740992 ∧ -1074 ≤ i ∧ i ≤ 971 := by
  have hlow : Low x 2046 := by unfold Low; unfold Fin at h; omega
  obtain ⟨s, m, i, h1, h2, h3, h4⟩ := read_low hlow (Nat.le_refl _)
  exact ⟨s, m, i, h1, by omega, h3, by omega⟩
theorem order_fin {x : Nat} (h : Fin x) : double.order x x = some .eq := by
  obtain ⟨s, m, i, h1, _, _, _⟩ := read_fin' h
  unfold Format.order Datum.order
  rw [h1]
  simp
theorem read_inf {x : Nat} (h : Inf x) : ∃ s, double.read x = .infinity s := by
  have hb : double.binade = 4503599627370496 := rfl
  have hi : double.infRung = 9218868437227405312 := rfl
  have hs : double.signWeight = 9223372036854775808 := rfl
  unfold Inf at h
  unfold Format.read
  simp only [hs, hb, hi]
  rw [if_neg (by omega), if_neg (by omega), if_pos h]
  exact ⟨_, rfl⟩
theorem read_nan {x : Nat} (h : Nan x) : ∃ s t, double.read x = .nan s t := by
  have hb : double.binade = 4503599627370496 := rfl
  have hi : double.infRung = 9218868437227405312 := rfl
  have hs : double.signWeight = 9223372036854775808 := rfl
  unfold Nan at h
  unfold Format.read
  simp only [hs, hb, hi]
  rw [if_neg (by omega), if_neg (by omega), if_neg (by omega)]
  exact ⟨_, _, rfl⟩
theorem order_inf {x : Nat} (h : Inf x) : double.order x x = some .eq := by
  obtain ⟨s, h1⟩ := read_inf h
  unfold Format.order Datum.order
  rw [h1]
  simp
theorem order_nan {x : Nat} (h : Nan x) : double.order x x = none := by
  obtain ⟨s, t, h1⟩ := read_nan h
  unfold Format.order Datum.order
  rw [h1]
theorem read_max : double.read 9218868437227405311 = .number false 9007199254740991 971 := by decide +kernel
theorem read_pos {x : Nat} (h : x < 9218868437227405312) : ∃ m i, double.read x = .number false m i ∧ m < 9007199254740992 ∧ -1074 ≤ i ∧ i ≤ 971 := by
  obtain ⟨s, m, i, h1, h2, h3, h4⟩ := read_fin' (x := x) (by unfold Fin; omega)
  have hs : double.signWeight = 9223372036854775808 := rfl
  have hb : double.binade = 4503599627370496 := rfl
  have hi : double.infRung = 9218868437227405312 := rfl
  have hf : s = false := by
    unfold Format.read at h1
    simp only [hs, hb, hi] at h1
    split at h1
    · injection h1 with h1 _ _
      rw [← h1]
      simp
      omega
    · split at h1
      · injection h1 with h1 _ _
        rw [← h1]
        simp
        omega
      · split at h1 <;> cases h1
  subst hf
  exact ⟨m, i, h1, h2, h3, h4⟩
theorem max_fin {x : Nat} (h : Fin x) : (double.order (x % 9223372036854775808) 9218868437227405311 == some .gt) = false := by
  obtain ⟨m, i, h1, h2, h3, h4⟩ := read_pos (x := x % 9223372036854775808) h
  unfold Format.order Datum.order
  rw [h1, read_max]
  have hmin : min i 971 = i := Int.min_eq_left h4
  simp only [hmin, Int.sub_self]
  have h5 : signed false m (0 : Int).toNat ≤ signed false 9007199254740991 (971 - i).toNat := by
    unfold signed
    simp only [Bool.false_eq_true, if_false]
    have : m ≤ 9007199254740991 <<< (971 - i).toNat := by
      rw [Nat.shiftLeft_eq]
      have := Nat.pow_pos (n := (971 - i).toNat) (show 0 < 2 by omega)
      have h6 : 9007199254740991 * 1 ≤ 9007199254740991 * 2 ^ (971 - i).toNat := Nat.mul_le_mul_left _ this
      omega
    show ((m <<< 0 : Nat) : Int) ≤ ((9007199254740991 <<< (971 - i).toNat : Nat) : Int)
    rw [Nat.shiftLeft_zero]
    exact Int.ofNat_le.2 this
  rw [beq_eq_false_iff_ne]
  intro h
  injection h with h
  rw [Int.compare_eq_gt] at h
  omega
theorem max_inf {x : Nat} (h : Inf x) : (double.order (x % 9223372036854775808) 9218868437227405311 == some .gt) = true := by
  unfold Inf at h
  rw [h]
  decide +kernel
end PF
namespace Go.Proofs.YtagiddbfhlokcaaGreatDoor.Ser
open Go.RowKit Go.Sort
set_option maxRecDepth 100000
theorem run66 (n : Nat) (w : World) : (callFunc 66 #[.int .u64 (n : Int)]).run Tryz.prog w = .ok (.value (.float .f64 n)) w := by
  rw [run_callFunc_extern Tryz.func66 (by kernel_rfl) (by kernel_rfl) (by kernel_rfl) (e := Extern.MathFloatBits.float64frombits) (by kernel_rfl)]
  rfl
theorem abs147 (x : Nat) (hx : x < 18446744073709551616) (w : World) : Calls Tryz.prog 147 #[.float .f64 x] w fun e w' => e = .returned (.float .f64 (x % 9223372036854775808)) ∧ w = w' := by
  have h7 := run55 x
  have h11 := run66 (x % 9223372036854775808)
  have b1 : bits BinOp.andNot IntKind.u64 (x : Int) 9223372036854775808 = ((x % 9223372036854775808 : Nat) : Int) := by
    have h := u64_andNot_nat x 9223372036854775808 hx (by omega)
    have e : (18446744073709551615 - 9223372036854775808 : Nat) = 2 ^ 63 - 1 := by decide
    rw [e, Nat.and_two_pow_sub_one_eq_mod] at h
    exact h
  obtain ⟨y, hy⟩ : ∃ y, x % 9223372036854775808 = y := ⟨_, rfl⟩
  rw [hy] at h11 b1 ⊢
  clear hy
  go_enter Tryz.func147, Tryz.ntmps147
  go_wp2_with fail
  go_ret
  exact ⟨rfl, rfl⟩
theorem isNaN94 (x : Nat) (b : Bool) (h : (FloatKind.f64.format.order x x != some Ordering.eq) = b) (w : World) : Calls Tryz.prog 94 #[.float .f64 x] w fun e w' => e = .returned (.bool b) ∧ w = w' := by
  go_enter Tryz.func94, Tryz.ntmps94
  go_wp2_with fail
  go_ret
  exact ⟨by rw [← h]; rfl, rfl⟩
theorem isInf95 (x : Nat) (hx : x < 18446744073709551616) (b : Bool) (h : (FloatKind.f64.format.order (x % 9223372036854775808) 9218868437227405311 == some Ordering.gt) = b) (w : World) : Calls Tryz.prog 95 #[.float .f64 x, .int .i64 0] w fun e w' => e = .returned (.bool b) ∧ w = w' := by
  have M := Lib.hid (abs147 x hx w)
  obtain ⟨y, hy⟩ : ∃ y, x % 9223372036854775808 = y := ⟨_, rfl⟩
  rw [hy] at M h
  clear hy
  cases b with
  | true =>
    go_enter Tryz.func95, Tryz.ntmps95
    go_wp2_with fail
    refine M.out.mono ?_
    rintro e w' ⟨rfl, rfl⟩
    go_wp2_with fail
    go_ret
    exact ⟨rfl, rfl⟩
  | false =>
    go_enter Tryz.func95, Tryz.ntmps95
    go_wp2_with fail
    refine M.out.mono ?_
    rintro e w' ⟨rfl, rfl⟩
    go_wp2_with fail
    go_ret
    exact ⟨rfl, rfl⟩
theorem finB_cases (x : Nat) : (PF.Fin x → finB (x : Int) = true) ∧ (PF.Inf x → finB (x : Int) = false) ∧ (PF.Nan x → finB (x : Int) = false) := by
  unfold PF.Fin PF.Inf PF.Nan finB
  refine ⟨fun h => ?_, fun h => ?_, fun h => ?_⟩
  · exact decide_eq_true (by omega)
  · exact decide_eq_false (by omega)
  · exact decide_eq_false (by omega)
/-- The program's view of a float: no NaN, no infinity. -/
theorem float_view (x : Nat) (hx : x < 18446744073709551616) : ∃ b1 b2, (∀ w, Calls Tryz.prog 94 #[.float .f64 x] w fun e w' => e = .returned (.bool b1) ∧ w = w') ∧ (∀ w, Calls Tryz.prog 95 #[.float .f64 x, .int .i64 0] w fun e w' => e = .returned (.bool b2) ∧ w = w') ∧ (!b1 && !b2) = finB (x : Int) := by
  obtain ⟨f1, f2, f3⟩ := finB_cases x
  rcases PF.sorts x with h | h | h
  · refine ⟨false, false, isNaN94 x false ?_, isInf95 x hx false (PF.max_fin h), by rw [f1 h]; rfl⟩
    show (Ieee.double.order x x != some Ordering.eq) = false
    rw [PF.order_fin h]; rfl
  · refine ⟨false, true, isNaN94 x false ?_, isInf95 x hx true (PF.max_inf h), by rw [f2 h]; rfl⟩
    show (Ieee.double.order x x != some Ordering.eq) = false
    rw [PF.order_inf h]; rfl
  · obtain ⟨b, hb⟩ : ∃ b, (FloatKind.f64.format.order (x % 9223372036854775808) 9218868437227405311 == some Ordering.gt) = b := ⟨_, rfl⟩
    refine ⟨true, b, isNaN94 x true ?_, isInf95 x hx b hb, by rw [f3 h]; rfl⟩
    show (Ieee.double.order x x != some Ordering.eq) = true
    rw [PF.order_nan h]; rfl
theorem formV_1 (b : Int) (t : ByteArray) : formV 1 b t = (t.toList.isEmpty && finB b) := rfl
theorem formV_2 (b : Int) (t : ByteArray) : formV 2 b t = t.toList.isEmpty := rfl
theorem formV_3 (b : Int) (t : ByteArray) : formV 3 b t = (t.toList.isEmpty && decide (b < 2)) := rfl
theorem formV_4 (b : Int) (t : ByteArray) : formV 4 b t = (decide (b = 0) && decide (t.size ≤ 65536)) := rfl
theorem formV_o (k b : Int) (t : ByteArray) (h1 : k ≠ 1) (h2 : k ≠ 2) (h3 : k ≠ 3) (h4 : k ≠ 4) : formV k b t = false := by
  unfold formV; rw [if_neg h1, if_neg h2, if_neg h3, if_neg h4]
set_option maxHeartbeats 4000000 in
theorem formed59 (k : Int) (x : Nat) (t : ByteArray) (hx : x < 18446744073709551616) (w : World) :
    Calls Tryz.prog 59 #[.agg #[.int .i64 k, .int .u64 (x : Int), .string t]] w fun e w' => e = .returned (.bool (formV k (x : Int) t)) ∧ Below w.heap.size w w' := by
  obtain ⟨r, hr⟩ : ∃ r, formV k (x : Int) t = r := ⟨_, rfl⟩
  rw [hr]
  have HB : Hid (∀ c, Below w.heap.size w (w.alloc c)) := Lib.hid fun c => (Below.refl _ _).alloc (Nat.le_refl _) c
  obtain ⟨e, he⟩ : ∃ e, t.toList.isEmpty = e := ⟨_, rfl⟩
  by_cases h1 : k = 1
  · subst h1
    rw [formV_1, he] at hr
    obtain ⟨b1, b2, M1, M2, hb⟩ := float_view x hx
    rw [← hb] at hr
    have HR := Lib.hid hr
    have H1 := Lib.hid M1
    have H2 := Lib.hid M2
    have h66 := run66 x
    clear hr M1 M2 hb hx
    cases e with
    | false =>
      go_enter Tryz.func59, Tryz.ntmps59
      go_wp2_with fail
      go_ret
      exact ⟨by rw [← HR.out]; rfl, HB.out _⟩
    | true =>
      cases b1 with
      | true =>
        go_enter Tryz.func59, Tryz.ntmps59
        go_wp2_with fail
        refine (H1.out _).mono ?_
        rintro e w' ⟨rfl, rfl⟩
        go_wp2_with fail
        go_ret
        exact ⟨by rw [← HR.out]; rfl, HB.out _⟩
      | false =>
        go_enter Tryz.func59, Tryz.ntmps59
        go_wp2_with fail
        refine (H1.out _).mono ?_
        rintro e w' ⟨rfl, rfl⟩
        go_wp2_with fail
        refine (H2.out _).mono ?_
        rintro e w' ⟨rfl, rfl⟩
        cases b2 with
        | false =>
          go_wp2_with fail
          go_ret
          exact ⟨by rw [← HR.out]; rfl, HB.out _⟩
        | true =>
          go_wp2_with fail
          go_ret
          exact ⟨by rw [← HR.out]; rfl, HB.out _⟩
  · have k1 : (k == 1) = false := by rw [beq_eq_false_iff_ne]; exact h1
    by_cases h2 : k = 2
    · subst h2
      rw [formV_2, he] at hr
      subst hr
      clear k1 h1 hx
      cases e with
      | false =>
        go_enter Tryz.func59, Tryz.ntmps59
        go_wp2_with fail
        go_ret
        exact ⟨rfl, HB.out _⟩
      | true =>
        go_enter Tryz.func59, Tryz.ntmps59
        go_wp2_with fail
        go_ret
        exact ⟨rfl, HB.out _⟩
    · have k2 : (k == 2) = false := by rw [beq_eq_false_iff_ne]; exact h2
      by_cases h3 : k = 3
      · subst h3
        rw [formV_3, he] at hr
        have HR := Lib.hid hr
        clear k1 k2 h1 h2 hx hr
        cases e with
        | false =>
          go_enter Tryz.func59, Tryz.ntmps59
          go_wp2_with fail
          go_ret
          exact ⟨by rw [← HR.out]; rfl, HB.out _⟩
        | true =>
          by_cases hb : (x : Int) < 2
          · have HR2 : Hid (true = r) := Lib.hid (by rw [← HR.out, decide_eq_true hb]; rfl)
            go_enter Tryz.func59, Tryz.ntmps59
            go_wp2_with fail
            go_ret
            exact ⟨by rw [← HR2.out]; rfl, HB.out _⟩
          · have HR2 : Hid (false = r) := Lib.hid (by rw [← HR.out, decide_eq_false hb]; rfl)
            go_enter Tryz.func59, Tryz.ntmps59
            go_wp2_with fail
            go_ret
            exact ⟨by rw [← HR2.out]; rfl, HB.out _⟩
      · have k3 : (k == 3) = false := by rw [beq_eq_false_iff_ne]; exact h3
        by_cases h4 : k = 4
        · subst h4
          rw [formV_4] at hr
          have HR := Lib.hid hr
          clear k1 k2 k3 h1 h2 h3 hx hr
          by_cases hb : x = 0
          · have hbz : ((x : Int) == 0) = true := by rw [hb]; rfl
            by_cases ht : t.size ≤ 65536
            · have htz : (t.size : Int) ≤ 65536 := by omega
              have HR2 : Hid (true = r) := Lib.hid (by rw [← HR.out, decide_eq_true (show (x : Int) = 0 by omega), decide_eq_true ht]; rfl)
              clear hb ht
              go_enter Tryz.func59, Tryz.ntmps59
              go_wp2_with fail
              go_ret
              exact ⟨by rw [← HR2.out]; rfl, HB.out _⟩
            · have htz : ¬ (t.size : Int) ≤ 65536 := by omega
              have HR2 : Hid (false = r) := Lib.hid (by rw [← HR.out, decide_eq_false ht, Bool.and_false])
              clear hb ht
              go_enter Tryz.func59, Tryz.ntmps59
              go_wp2_with fail
              go_ret
              exact ⟨by rw [← HR2.out]; rfl, HB.out _⟩
          · have hbz : ((x : Int) == 0) = false := by rw [beq_eq_false_iff_ne]; omega
            have HR2 : Hid (false = r) := Lib.hid (by rw [← HR.out, decide_eq_false (show ¬(x : Int) = 0 by omega)]; rfl)
            clear hb
            go_enter Tryz.func59, Tryz.ntmps59
            go_wp2_with fail
            go_ret
            exact ⟨by rw [← HR2.out]; rfl, HB.out _⟩
        · have k4 : (k == 4) = false := by rw [beq_eq_false_iff_ne]; exact h4
          rw [formV_o k x t h1 h2 h3 h4] at hr
          subst hr
          clear h1 h2 h3 h4 hx
          go_enter Tryz.func59, Tryz.ntmps59
          go_wp2_with fail
          go_ret
          exact ⟨rfl, HB.out _⟩
end Go.Proofs.YtagiddbfhlokcaaGreatDoor.Ser
