/- The walk of IndexNil, its first half. Condition: the reach of what comes in. -/
import Derived.Test.YtobcpafalfdpkaaBT
namespace Go.Proofs.Ytobcpafalfdpkaa
open Go.RowKit Go.WideMaps Go.Sort Go.Deep Go.WideShapes Go.ChangeShapes
set_option maxRecDepth 100000 in
set_option maxHeartbeats 4000000 in
theorem indexNil_walk (H : Type) (enc : TypeId × Value → H) (W : World) (base : Nat) (v0 v1 v2 : Value) (d0 d1 d2 : DataW H) (p0 p1 p2 : List MemPlace) (h0 : DataW.Trod enc Try.prog W 0 (fun _ => true) true 31 v0 d0 p0) (o0 : Value.okWide Try.prog W .any base 31 v0) (h1 : DataW.Trod enc Try.prog W 0 (fun _ => true) true 9 v1 d1 p1) (o1 : Value.okWide Try.prog W .any base 9 v1) (h2 : DataW.Trod enc Try.prog W 0 (fun _ => true) true 3 v2 d2 p2) (o2 : Value.okWide Try.prog W .any base 3 v2) (hsz : (DataW.weightsEach Try.prog [31, 9, 3] [d0, d1, d2]).all (· ≤ reachBytes) = true) :
    Calls Try.prog 6 #[v0, v1, v2] W fun e w' => e = .returned (.bool true) ∧ Below W.heap.size W w' := by
  obtain ⟨s, sa, sc, rfl, hsr⟩ := ser_param h0 o0
  have h32 := tags_sized h0 hsz
  obtain ⟨fuel, hf1⟩ := h1
  obtain ⟨field, hk0, _, hfield⟩ := DataW.trod_string Try.underlying9 hf1
  obtain rfl : v1 = .string field := by
    obtain ⟨s, rfl⟩ := okWide_string Try.underlying9 o1
    simpa [Value.cells] using hk0
  obtain ⟨kd, rfl⟩ := okWide_int Try.underlying3 o2
  have hbx := (Below.refl W.heap.size W).alloc (Nat.le_refl _) (.cells #[.string s.name, .slice sa s.tags.length sc] 31)
  have hpb := heap_alloc_new W (.cells #[.string s.name, .slice sa s.tags.length sc] 31)
  obtain ⟨wb, hwb⟩ : ∃ wb, W.alloc (.cells #[.string s.name, .slice sa s.tags.length sc] 31) = wb := ⟨_, rfl⟩
  obtain ⟨B, hB⟩ : ∃ B, W.heap.size = B := ⟨_, rfl⟩
  rw [hwb] at hbx hpb
  rw [hB] at hpb
  have hnm : s.name.size ≤ maxLen := by obtain ⟨_, _, _, _, _, _, h, _⟩ := hsr; exact h
  obtain ⟨nt, hnt⟩ : ∃ nt, s.tags.length = nt := ⟨_, rfl⟩
  have HSRC0 := Lib.hid (show SrcN W 2 (.slice sa nt sc) nt (tgC s.tags) by
    obtain ⟨a', c', e, _, hs⟩ := hsr.src
    injection e with e
    simp at e
    obtain ⟨rfl, rfl⟩ := e
    rw [hnt] at hs
    exact hs)
  rw [hnt] at hsr hpb h32 hwb ⊢
  have HSR := Lib.hid hsr
  have HBX := Lib.hid hbx
  have HPB := Lib.hid hpb
  have HNT := Lib.hid hnt
  have HCELL := Lib.hid (fun (w' : World) (hb : Below wb.heap.size wb w') => (show w'.cell? ⟨B, 0, none⟩ = some (.string s.name) ∧ w'.cell? ⟨B, 1, none⟩ = some (.slice sa nt sc) by
    have := (hb.block B (heap_lt hpb)).trans hpb
    simp [World.cell?, this]))
  obtain ⟨k0, k1⟩ := HCELL.out wb (Below.refl _ _)
  have HSZ := Lib.hid (show ∀ p ∈ s.tags, p.1.size ≤ maxLen ∧ p.2.size ≤ maxLen by
    obtain ⟨_, _, _, _, _, _, _, h⟩ := hsr
    exact h)
  have hn63 : nt < 2 ^ 63 := by omega
  clear h0 o0 o1 h2 o2 hsz hf1 hk0 hbx hpb hsr hnt
  go_enter Try.func6, Try.ntmps6
  go_wp2_with fail
  clear hwb hB k0 k1
  refine (awake7 wb).mono ?_
  rintro e w1 ⟨rfl, hb1⟩
  have HB1 := Lib.hid hb1
  obtain ⟨k0, k1⟩ := HCELL.out w1 hb1
  have HAN := Lib.hid (add9nil (HSR.out.later (HBX.out.trans (hb1.mono HBX.out.size))))
  clear hb1
  go_wp2_with fail
  clear k0 k1
  refine HAN.out.mono ?_
  rintro e w2 ⟨rfl, hb2⟩
  have HB2 := Lib.hid (HB1.out.trans (hb2.mono HB1.out.size))
  obtain ⟨k0, k1⟩ := HCELL.out w2 HB2.out
  have HKN := Lib.hid (kind22 (gets_nil w2) s.name field hnm hfield)
  clear hb2 HAN
  go_wp2_with fail
  clear k0 k1
  refine HKN.out.mono ?_
  rintro e w3 ⟨rfl, hb3⟩
  have HB3 := Lib.hid (HB2.out.trans (hb3.mono HB2.out.size))
  clear hb3 HKN
  have hkz : (get me0.kd field).getD 0 = 0 := rfl
  have hks : (get me0.kd field).isSome = false := rfl
  rw [hkz, hks]
  clear hkz hks
  go_wp2_with fail
  refine (new8 w3).mono ?_
  rintro e w4 ⟨rfl, hidx, hb4, hfr⟩
  obtain ⟨x, hx⟩ : ∃ x, w3.heap.size + 1 = x := ⟨_, rfl⟩
  obtain ⟨m, hm⟩ : ∃ m, w3.heap.size = m := ⟨_, rfl⟩
  rw [hx, hm] at hidx
  rw [hm] at hfr
  rw [hx]
  have HIDX := Lib.hid hidx
  have HFM := Lib.hid (show (∀ b, role0 m b ≠ none → m ≤ b) ∧ w3.heap.size = m from ⟨hfr, hm⟩)
  have HB4 := Lib.hid (HB3.out.trans (hb4.mono HB3.out.size))
  have HFR := Lib.hid (fun b hb => Nat.le_trans (HBX.out.trans (HB3.out.mono HBX.out.size)).size (by rw [hm]; exact hfr b hb) : ∀ b, role0 m b ≠ none → W.heap.size ≤ b)
  have HM := Lib.hid (show m < w4.heap.size from hidx.out.lt)
  clear hidx hb4 hfr hx hm
  obtain ⟨k0, k1⟩ := HCELL.out w4 HB4.out
  go_upto_region 8 with (fail)
  clear k0 k1
  have hba := (Below.refl w4.heap.size w4).alloc (Nat.le_refl _) (.cells #[.string s.name, .slice sa nt sc] 31)
  have hia := heap_alloc_new w4 (.cells #[.string s.name, .slice sa nt sc] 31)
  obtain ⟨ib, hib⟩ : ∃ ib, w4.heap.size = ib := ⟨_, rfl⟩
  obtain ⟨w5, hw5⟩ : ∃ w5, w4.alloc (.cells #[.string s.name, .slice sa nt sc] 31) = w5 := ⟨_, rfl⟩
  rw [hw5] at hba hia ⊢
  rw [hib] at hia ⊢
  have HIB := Lib.hid hib
  have HB5 := Lib.hid (HB4.out.trans (hba.mono HB4.out.size))
  have HB45 := Lib.hid hba
  have HI5 := Lib.hid hia
  clear hba hia hib hw5
  -- region 8: the tags laid anew
  obtain ⟨i1, y1, hi1, hy0, hy1, hy2, hy3⟩ := zparts51
  have HJ := Lib.hid hi1
  have HJ0 := Lib.hid hy0
  have HJ1 := Lib.hid hy1
  have HJ2 := Lib.hid hy2
  have HJ3 := Lib.hid hy3
  have HMD := Lib.hid (World.ownsRow_made (w := w5) (base := w5.heap.size) (e := 51) (size := 2) #[] 0 (Nat.le_refl _) (by unfold maxLen; omega) rfl)
  have hba := (Below.refl w5.heap.size w5).alloc (Nat.le_refl _) (.cells #[] 51)
  have HBA := Lib.hid hba
  have HSL := Lib.hid (HSRC0.out.later (HBX.out.trans ((HB5.out.trans (hba.mono HB5.out.size)).mono HBX.out.size)))
  obtain ⟨k0, k1⟩ := HCELL.out (w5.alloc (.cells #[] 51)) (HB5.out.trans (hba.mono HB5.out.size))
  clear hi1 hy0 hy1 hy2 hy3 hba k0
  go_upto_region 9 with (at_builtin; go_must (refine wpList_append_srcN rfl _ _ 29 rfl w5.heap.size 51 i1 y1 2 32 Try.underlying29 HJ.out HJ0.out HJ1.out HJ2.out HJ3.out (by omega) (.slice (some ⟨w5.heap.size, 0, none⟩) 0 0) 0 [] rfl HMD.out (.slice sa nt sc) nt (tgC s.tags) rfl HSL.out (by unfold maxLen; omega) (by omega) (by exact HBA.out.size) ?_); intro v6 w6 hr6 hg6 hat6; obtain ⟨a6, c6, rfl⟩ := row_form hr6; have hb6 : Below w5.heap.size w5 w6 := HBA.out.grown hg6 HBA.out.size (fun b hb => by simp [Value.ownBlock] at hb; omega); have hx6 := (hb6.block ib (heap_lt HI5.out)).trans HI5.out; have k6 : w6.cell? ⟨ib, 1, none⟩ = some (.slice sa nt sc) := (by simp [World.cell?, hx6]); have z6 : w6.frozen? ⟨ib, 1, none⟩ = false := (by simp [World.frozen?, hx6]); have HR6 := Lib.hid hr6; have HB6 := Lib.hid hb6; clear hr6 hg6 hat6 hb6 hx6)
  simp only [Nat.zero_add, List.nil_append] at HR6
  clear k6 z6 k1
  refine wp_gen (fun w' => Below w4.heap.size w4 w' ∧ w'.heap[ib]? = some (.cells #[.string s.name, .slice a6 nt c6] 31 (0, 0)) ∧ w'.ownsRow w5.heap.size 51 2 (.slice a6 nt c6) nt (tgC s.tags)) (box_tags HB45.out (Nat.le_of_eq HIB.out) HI5.out HR6.out HB6.out) ?_
  rintro w7 ⟨hb7, hx7, hr7⟩
  have j0 : w7.cell? ⟨ib, 0, none⟩ = some (.string s.name) := by simp [World.cell?, hx7]
  have j1 : w7.cell? ⟨ib, 1, none⟩ = some (.slice a6 nt c6) := by simp [World.cell?, hx7]
  obtain ⟨v6, hv6⟩ : ∃ v6, Value.slice a6 nt c6 = v6 := ⟨_, rfl⟩
  have hxm : x < w4.heap.size := heap_lt HIDX.out.blk
  have hi45 : ib < w5.heap.size := heap_lt HI5.out
  have hs45 := HB45.out.size
  have hown : ∀ b, v6.ownBlock = some b → w5.heap.size ≤ b ∧ b < w7.heap.size := fun b hb => (hr7.lt b (by rw [hv6]; exact hb))
  have hidx7 : IdxAt w7 (roleT (role0 m) v6) x m [] (fun _ => me0) := idx_tag (HIDX.out.below hb7) (by rw [hv6] at hr7; exact hr7) (by have := HM.out; omega)
  have hsr7 : SrIn w7 (.agg #[.string s.name, .slice a6 nt c6]) s := by
    have h := hr7
    rw [← HNT.out] at h ⊢
    obtain ⟨sv, h1, h2, h3⟩ := serO_of h hnm HSZ.out
    have h4 := h3.sr
    have h5 : sv.val = .agg #[.string sv.sr.name, sv.sl] := rfl
    rw [h5, h1, ← h2] at h4
    exact h4
  have hfree : FreeV (roleT (role0 m) v6) (.agg #[.string s.name, .slice a6 nt c6]) := fun nm' a' n' c' e hne r hq => by
    injection e with e
    simp at e
    obtain ⟨_, rfl, rfl, rfl⟩ := e
    unfold roleT at hq
    rw [if_pos (by rw [← hv6]; rfl)] at hq
    injection hq with hq
    exact hq.symm
  have hrole : ∀ b, roleT (role0 m) v6 b ≠ none → wb.heap.size ≤ b := fun b hb => by
    unfold roleT at hb
    have h3 := HB3.out.size
    have h4 := HB4.out.size
    have h5 := HFM.out.2
    by_cases hc : v6.ownBlock = some b
    · have := (hown b hc).1; omega
    · rw [if_neg hc] at hb
      have := HFM.out.1 b hb
      omega
  have hib1 : roleT (role0 m) v6 ib = none := by
    unfold roleT
    rw [if_neg fun e => by have := (hown ib e).1; omega]
    exact HIDX.out.dom _ (Nat.le_of_eq HIB.out)
  have HAD := Lib.hid (add_good (new_good hidx7) (Nat.zero_le _) hsr7 hfree)
  have HB7 := Lib.hid (HB4.out.trans (hb7.mono HB4.out.size))
  have HX7 := Lib.hid hx7
  have HR7 := Lib.hid hr7
  have HOWN := Lib.hid hown
  have HROLE := Lib.hid hrole
  have HIB1 := Lib.hid hib1
  have HXM := Lib.hid hxm
  have HI45 := Lib.hid hi45
  have HV6 := Lib.hid hv6
  clear hb7 hx7 hr7 hown hidx7 hsr7 hfree hrole hib1 hxm hi45 hs45 hv6
  go_wp2_with fail
  clear j0 j1
  refine HAD.out.mono ?_
  intro e w8 hp
  unfold AddGood at hp
  obtain ⟨ρ8, L8, M8, he, hg8, hst8, _, _, hyes⟩ := hp
  have hm0 : meOf ([] : List (BA × Nat)) (fun _ => me0) s.name = me0 := rfl
  rw [hm0] at he hyes
  have hcs := nil_cases hyes
  have hN : (0 : Nat) + 1 = 1 := rfl
  obtain ⟨ad, had⟩ : ∃ ad, addA me0 s = ad := ⟨_, rfl⟩
  rw [had] at he hcs
  obtain ⟨ab, ae⟩ := ad
  simp only at he hcs
  subst he
  have hb78 := hst8.toBelow HROLE.out (HB7.out.size)
  have hx8 : w8.heap[ib]? = some (.cells #[.string s.name, .slice a6 nt c6] 31 (0, 0)) := (hst8.block ib (heap_lt HX7.out) fun r e => by rw [HIB1.out] at e; cases e).trans HX7.out
  have hr8 : w8.ownsRow w5.heap.size 51 2 (.slice a6 nt c6) nt (tgC s.tags) := ownsRow_same HR7.out fun g hg => hst8.block g (HR7.out.lt g hg).2 fun r e => by
    unfold roleT at e
    rw [if_pos (by rw [← HV6.out]; exact hg)] at e
    injection e with e
    rw [← e]
    exact not_idx
  have HG8 := Lib.hid hg8
  have HB8 := Lib.hid (HB7.out.trans hb78)
  have HX8 := Lib.hid hx8
  have HR8 := Lib.hid hr8
  have HCS := Lib.hid hcs
  have HOWN8 := Lib.hid (fun b hb => by
    have h1 := HOWN.out b (by rw [← HV6.out]; exact hb)
    refine ⟨?_, by have := HXM.out; have := HB45.out.size; omega⟩
    rw [hst8.role b h1.2]
    unfold roleT
    rw [if_pos (by rw [← HV6.out]; exact hb)] : ∀ b, (Value.slice a6 nt c6).ownBlock = some b → Own ρ8 x b)
  have HNI := Lib.hid (fun e => by have h1 := HOWN.out ib (by rw [← HV6.out]; exact e); have := HI45.out; omega : ¬ (Value.slice a6 nt c6).ownBlock = some ib)
  clear hg8 hst8 hyes hm0 hN had hcs hb78 hx8 hr8 HAD
  have j1 : w8.cell? ⟨ib, 1, none⟩ = some (.slice a6 nt c6) := by have := HX8.out; simp [World.cell?, this]
  go_wp2_with fail
  clear j1
  go_loopw [53] (fun i wr => InT w8 w5.heap.size nt (.slice a6 nt c6) i wr) (fun i _ => nt - (intOf i).toNat)
  case atStart => exact ⟨0, _, Nat.zero_le _, rfl, HR8.out, Turns.refl _ _⟩
  case round =>
    obtain ⟨k, xs, hkn, rfl, hrow, htr⟩ := hrel
    have HROW := Lib.hid hrow
    have HTR := Lib.hid htr
    have hxr := (htr.block ib (heap_lt HX8.out) HNI.out).trans HX8.out
    by_cases hlt : k < nt
    · obtain ⟨g, c, u, hv, _, q0, q1⟩ := row_at hrow hlt
      injection hv with e1 e2 e3
      have j1 : wr.cell? ⟨ib, 1, none⟩ = some (.slice (some ⟨g, 0, none⟩) nt c6) := by rw [← e1]; simp [World.cell?, hxr]
      have HG := Lib.hid (show (Value.slice a6 nt c6).ownBlock = some g by rw [e1]; rfl)
      clear hrow htr hxr e1 e2 e3
      go_wp2_with fail
      go_roundw
      case rel =>
        obtain ⟨xs', hx'⟩ := row_set_any (g := g) (i := k * 2 + 1) (u := .string { data := #[116, 117, 114, 110, 101, 100] }) HROW.out
        exact ⟨k + 1, xs', by omega, by go_num, hx', HTR.out.trans ((onlyD_set wr g (k * 2 + 1) _).turns (S := fun b => (Value.slice a6 nt c6).ownBlock = some b) HG.out) fun _ hx => .inl hx⟩
      case measure => simp [intOf]; omega
    · have hke : k = nt := by omega
      have hturn := htr.mono HOWN8.out
      have hlow : Below wb.heap.size wb wr := HB8.out.trans (htr.below HB8.out.size fun b hb => by
        have h1 := (HROW.out.lt b hb).1
        have := HB5.out.size
        omega)
      have HG9 := Lib.hid (show Good wr ρ8 x m L8 M8 1 from ⟨idx_turn HG8.out.idx hturn, HG8.out.few, HG8.out.me, HG8.out.bd, HG8.out.ss, HG8.out.kd⟩)
      have HB9 := Lib.hid hlow
      obtain ⟨k0, k1⟩ := HCELL.out wr hlow
      have hge : nt ≤ k := by omega
      clear hrow htr hxr hke hturn hlow hlt
      have HAL := Lib.hid (all14 HG9.out.idx.gets s.name hnm (HG9.out.bdd (by omega) s.name))
      go_wp2_with fail
      clear k0 k1
      refine HAL.out.mono ?_
      rintro e w10 ⟨v10, L10, rfl, hm10, hr10, hs10, hb10⟩
      clear hge
      obtain ⟨S1, hS1⟩ : ∃ S1, (meOf L8 M8 s.name).ss.map (fun p => p.2.sr) = S1 := ⟨_, rfl⟩
      rw [hS1] at hm10
      obtain ⟨n10, hn10⟩ : ∃ n10, L10.length = n10 := ⟨_, rfl⟩
      rw [hn10] at hr10
      obtain ⟨a10, c10, rfl⟩ := row_form hr10
      have h63 := row_63 hr10
      have HS1 := Lib.hid hS1
      have HN10 := Lib.hid hn10
      have HR10 := Lib.hid hr10
      have HS10 := Lib.hid hs10
      have HM10 := Lib.hid hm10
      have HB10 := Lib.hid hb10
      have HNOT := Lib.hid (fun g hg (h : ∃ s ∈ L10, s.sl.ownBlock = some g) => by
        obtain ⟨t, ht, he⟩ := h
        exact types_apart hr10 (hs10 t ht).row (by decide) hg he : ∀ g, (Value.slice a10 n10 c10).ownBlock = some g → ¬ ∃ s ∈ L10, s.sl.ownBlock = some g)
      clear hS1 hn10 hr10 hs10 hm10 hb10 HAL
      go_wp2_with fail
      go_loopw [68] (fun i w2 => InY wr.heap.size n10 L10 w10 i w2) (fun i _ => n10 - (intOf i).toNat)
      case atStart => exact ⟨0, Nat.zero_le _, rfl, rows_start HS10.out⟩
      case round =>
        rename World => wo
        obtain ⟨i, hin, rfl, hrows⟩ := hrel
        have HRW := Lib.hid hrows
        by_cases hli : i < n10
        · obtain ⟨t, ht⟩ : ∃ t, L10[i]? = some t := ⟨_, List.getElem?_eq_getElem (by rw [HN10.out]; exact hli)⟩
          have hrw := ownsRow_same HR10.out fun g hg => hrows.1.block g (HR10.out.lt g hg).2 (HNOT.out g hg)
          obtain ⟨g10, rfl, _, q1⟩ := sv_cell hrw HN10.out ht
          have HTM := Lib.hid (List.mem_of_getElem? ht)
          have HT := Lib.hid ht
          obtain ⟨ta, tn, tc, htl⟩ : ∃ a n c, t.sl = .slice a n c := ⟨_, _, _, rfl⟩
          have htn : tn = t.sr.tags.length := by unfold SV.sl at htl; injection htl with _ e2 _; exact e2.symm
          rw [htl] at q1
          have HTL := Lib.hid htl
          have HTN := Lib.hid htn
          have htn63 : tn < 2 ^ 63 := by
            have := (HS10.out t HTM.out).parts.2.2
            rw [← htn] at this
            unfold maxLen at this
            omega
          have HLI := Lib.hid hli
          clear hrows ht hrw htl htn
          go_wp2_with fail
          clear q1
          go_loopw [77] (fun i w2 => InY wr.heap.size tn L10 w10 i w2) (fun i _ => tn - (intOf i).toNat)
          case atStart => exact ⟨0, Nat.zero_le _, rfl, HRW.out⟩
          case round =>
            rename World => wq
            obtain ⟨j, hjn, rfl, hrows⟩ := hrel
            have HRJ := Lib.hid hrows
            have hli := HLI.out
            by_cases hlj : j < tn
            · have hrw := ownsRow_same HR10.out fun g hg => hrows.1.block g (HR10.out.lt g hg).2 (HNOT.out g hg)
              obtain ⟨g11, eg, _, q1⟩ := sv_cell hrw HN10.out HT.out
              obtain rfl : g10 = g11 := by injection eg with e; injection e with e
              obtain ⟨xs, hxs⟩ := hrows.2 t HTM.out
              rw [HTL.out] at hxs q1
              obtain ⟨g, c, u, hv, _, u0, u1⟩ := row_at hxs (by rw [← HTN.out]; exact hlj)
              injection hv with e1 e2 e3
              rw [e1] at q1
              have HV := Lib.hid (show t.sl = .slice (some ⟨g, 0, none⟩) tn tc by rw [HTL.out, e1])
              clear hrows hrw eg hxs e1 e2 e3
              go_wp2_with fail
              go_roundw
              case rel => exact ⟨j + 1, by omega, by go_num, rows_set HRJ.out HTM.out HV.out⟩
              case measure => simp [intOf]; omega
            · have hge : tn ≤ j := by omega
              clear hlj hrows
              go_wp2_with fail
              go_roundw
              case rel => exact ⟨i + 1, by omega, by go_num, HRJ.out⟩
              case measure => simp [intOf]; omega
        · have hge : n10 ≤ i := by omega
          have hb11 : Below wr.heap.size wr wo := HB10.out.trans (hrows.1.below HB10.out.size fun b ⟨t, ht, hb⟩ => ((HS10.out t ht).row.lt b hb).1)
          have HB11 := Lib.hid (HB9.out.trans (hb11.mono HB9.out.size))
          have HG11 := Lib.hid (HG9.out.later hb11)
          obtain ⟨k0, k1⟩ := HCELL.out wo HB11.out
          have HAL2 := Lib.hid (all14 HG11.out.idx.gets s.name hnm (HG11.out.bdd (by omega) s.name))
          clear hrows hb11 hli
          go_wp2_with fail
          clear k0 k1
          refine HAL2.out.mono ?_
          rintro e w12 ⟨v12, L12, rfl, hm12, hr12, hs12, hb12⟩
          have HM12 := Lib.hid (hm12.trans HS1.out)
          have HB12 := Lib.hid (HB11.out.trans (hb12.mono HB11.out.size))
          have hsr12 : SrIn w12 (.agg #[.string s.name, .slice sa nt sc]) s := HSR.out.later (HBX.out.trans (HB12.out.mono HBX.out.size))
          obtain ⟨k0, k1⟩ := HCELL.out w12 HB12.out
          have c17 := fun d os => Calls.regrown_of (drop17nil (hsr12.later (below_regrown w12 d os)))
          have c10 := fun d os => Calls.regrown_of (v := .slice none 0 0) (names10nilX (grow (redrawn w12 d) os))
          have c14 := fun d os => Calls.regrown_of (v := .slice none 0 0) (all14nilX s.name (grow (redrawn w12 d) os))
          have c23 := fun d os => Calls.regrown_of (v := .slice none 0 0) (keys23nilX s.name (grow (redrawn w12 d) os))
          have c12 := fun d os => Calls.regrown_of (v := .slice none 0 0) (values12nilX s.name field hfield (grow (redrawn w12 d) os))
          have c11 := fun d os => Calls.regrown_of (v := .slice none 0 0) (with11nilX s.name field (grow (redrawn w12 d) os))
          have c24 := fun d os => Calls.regrown_of (v := .int .i64 1) ((setKind24nil s.name field kd (grow (redrawn w12 d) os)).mono fun e w' h => ⟨h.1, h.2 ▸ Below.refl _ _⟩)
          have c25 := fun d os => Calls.regrown_of (v := .slice none 0 0) (fields25nilX s.name (grow (redrawn w12 d) os))
          have c26 := fun d os => Calls.regrown_of (forget26nil s.name hnm (grow (redrawn w12 d) os))
          have g0 := cell_regrown k0
          have g1 := cell_regrown k1
          have HG0 := Lib.hid g0
          clear hb12 HAL2
          obtain ⟨n12, hn12⟩ : ∃ n12, L12.length = n12 := ⟨_, rfl⟩
          rw [hn12] at hr12
          obtain ⟨a12, c12', rfl⟩ := row_form hr12
          have HR12 := Lib.hid hr12
          have HN12 := Lib.hid hn12
          have HS12 := Lib.hid hs12
          clear hm12 hr12 hs12 hn12
          go_wp2_with fail
          clear k0 k1
          refine wp_region_quiet_below (by kernel_rfl) (by as_aux_lemma => kernel_rfl) ?_
          simp only [List.append_eq, List.cons_append, List.nil_append]
          rcases HCS.out with hae | ⟨hae, hone⟩
          · subst hae
            as_aux_lemma =>
              repeat (go_big_quiet_step ((first | with_reducible exact c17 _ _ | with_reducible exact c10 _ _ | with_reducible exact c14 _ _ | with_reducible exact c23 _ _ | with_reducible exact c12 _ _ | with_reducible exact c11 _ _ | with_reducible exact c24 _ _ | with_reducible exact c25 _ _ | with_reducible exact c26 _ _)))
              refine wpQuiet_nil ?_
              intro w13 hw13
              have HB13 := Lib.hid (HBX.out.trans ((HB12.out.trans ((below_of_regrown hw13).mono HB12.out.size)).mono HBX.out.size))
              clear hw13
              go_wp2_with fail
              go_ret
              exact ⟨rfl, HB13.out⟩
          · subst hae
            have hm12 := HM12.out.trans (HS1.out.symm.trans hone)
            have hl12 : L12.length = 1 := by
              have := congrArg List.length hm12
              simpa using this
            obtain ⟨z, hz1⟩ : ∃ z, L12 = [z] := List.length_eq_one_iff.1 hl12
            have hz : z.sr = s := by
              rw [hz1] at hm12
              simpa using hm12
            obtain rfl : n12 = 1 := HN12.out.symm.trans hl12
            have hr12 := HR12.out
            rw [hz1] at hr12
            obtain ⟨g12, rfl, y0, y1⟩ := sv_cell hr12 rfl (k := 0) (s := z) rfl
            have hzs := (HS12.out z (by rw [hz1]; exact List.mem_singleton.2 rfl)).sr
            have hzv : z.val = .agg #[.string z.sr.name, z.sl] := rfl
            rw [hzv, hz] at hzs
            rw [hz] at y0
            obtain ⟨za, zn, zc, hzl⟩ : ∃ a n c, z.sl = .slice a n c := ⟨_, _, _, rfl⟩
            rw [hzl] at y1 hzs
            have c27 := fun d os => Calls.regrown_of (same27 (hzs.later (below_regrown w12 d os)) (hsr12.later (below_regrown w12 d os)))
            simp only [Nat.zero_mul, Nat.zero_add] at y0 y1
            have f0 := cell_regrown y0
            have f1 := cell_regrown y1
            clear hm12 hr12 hzs hzv hzl hone hl12 hz hz1 y0 y1
            as_aux_lemma =>
              repeat (go_big_quiet_step ((first | with_reducible exact c17 _ _ | with_reducible exact c10 _ _ | with_reducible exact c14 _ _ | with_reducible exact c23 _ _ | with_reducible exact c12 _ _ | with_reducible exact c11 _ _ | with_reducible exact c24 _ _ | with_reducible exact c25 _ _ | with_reducible exact c26 _ _ | with_reducible exact c27 _ _)))
              refine wpQuiet_nil ?_
              intro w13 hw13
              have HB13 := Lib.hid (HBX.out.trans ((HB12.out.trans ((below_of_regrown hw13).mono HB12.out.size)).mono HBX.out.size))
              clear hw13
              go_wp2_with fail
              go_ret
              exact ⟨rfl, HB13.out⟩
end Go.Proofs.Ytobcpafalfdpkaa
