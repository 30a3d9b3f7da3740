/- The walk of IndexPlays. No condition. -/
import Derived.Test.YtobcpafalfdpkaaBQ
import Derived.StillTailTactics
namespace Go.Proofs.Ytobcpafalfdpkaa
open Go.RowKit Go.WideMaps Go.Sort Go.Deep Go.WideShapes Go.ChangeShapes
def InPlays (W : World) (x m r n : Nat) (i : Value) (wr : World) : Prop :=
  ∃ (k : Nat) (ρ : Nat → Option Role) (L : List (BA × Nat)) (M : BA → Me) (E : List (BA × SV)) (K : List (BA × BA × Int)), k ≤ n ∧ k ≤ 100 ∧ i = .int .i64 k ∧ Duo W wr ρ x m L M k r E K ∧ Like L M E K ∧ E.length ≤ k ∧ K.length ≤ k
set_option maxRecDepth 100000 in
theorem param_str {H : Type} {enc : TypeId × Value → H} {W : World} {base : Nat} {v : Value} {d : DataW H} {p : List MemPlace} (h : DataW.Trod enc Try.prog W 0 (fun _ => true) true 9 v d p) (o : Value.okWide Try.prog W .any base 9 v) : ∃ s : BA, v = .string s ∧ s.size ≤ maxLen := by
  obtain ⟨fuel, hf⟩ := h
  obtain ⟨key, hk0, _, hkey⟩ := DataW.trod_string Try.underlying9 hf
  obtain ⟨s, rfl⟩ := okWide_string Try.underlying9 o
  obtain rfl : s = key := by simpa [Value.cells] using hk0
  exact ⟨s, rfl, hkey⟩
set_option maxRecDepth 100000 in
set_option maxHeartbeats 4000000 in
theorem indexPlays_walk (H : Type) (enc : TypeId × Value → H) (W : World) (base : Nat) (v0 v1 v2 v3 v4 : Value) (d0 d1 d2 d3 d4 : DataW H) (p0 p1 p2 p3 p4 : List MemPlace) (h0 : DataW.Trod enc Try.prog W 0 (fun _ => true) true 46 v0 d0 p0) (o0 : Value.okWide Try.prog W .any base 46 v0) (h1 : DataW.Trod enc Try.prog W 0 (fun _ => true) true 9 v1 d1 p1) (o1 : Value.okWide Try.prog W .any base 9 v1) (h2 : DataW.Trod enc Try.prog W 0 (fun _ => true) true 9 v2 d2 p2) (o2 : Value.okWide Try.prog W .any base 9 v2) (h3 : DataW.Trod enc Try.prog W 0 (fun _ => true) true 9 v3 d3 p3) (o3 : Value.okWide Try.prog W .any base 9 v3) (h4 : DataW.Trod enc Try.prog W 0 (fun _ => true) true 9 v4 d4 p4) (o4 : Value.okWide Try.prog W .any base 9 v4) :
    Calls Try.prog 5 #[v0, v1, v2, v3, v4] W fun e w' => e = .returned (.bool true) ∧ Below W.heap.size W w' := by
  obtain ⟨a0, n, c0, X, rfl, hnc, hnm, hX⟩ := ops_open h0 o0
  obtain ⟨name, rfl, hs1⟩ := param_str h1 o1
  obtain ⟨key, rfl, hs2⟩ := param_str h2 o2
  obtain ⟨val, rfl, hs3⟩ := param_str h3 o3
  obtain ⟨field, rfl, hs4⟩ := param_str h4 o4
  have HX := Lib.hid hX
  have HS1 := Lib.hid hs1
  have HS2 := Lib.hid hs2
  have HS3 := Lib.hid hs3
  have HS4 := Lib.hid hs4
  have h63 : n < 2 ^ 63 := by unfold maxLen at hnm; omega
  clear h0 o0 h1 o1 h2 o2 h3 o3 h4 o4 hX hs1 hs2 hs3 hs4 hnm hnc
  go_enter Try.func5, Try.ntmps5
  go_wp2_with fail
  refine (awake7 W).mono ?_
  rintro e w0 ⟨rfl, hb0⟩
  have HB0 := Lib.hid hb0
  clear hb0
  go_wp2_with fail
  refine (new8 w0).mono ?_
  rintro e w1 ⟨rfl, hidx, hb1, hfr⟩
  obtain ⟨x, hx⟩ : ∃ x, w0.heap.size + 1 = x := ⟨_, rfl⟩
  obtain ⟨m, hm⟩ : ∃ m, w0.heap.size = m := ⟨_, rfl⟩
  rw [hx, hm] at hidx
  rw [hx]
  have HIDX := Lib.hid hidx
  have HB1 := Lib.hid hb1
  have HFR := Lib.hid (fun b hb => (by rw [hm] at hfr ⊢; exact hfr b hb) : ∀ b, role0 m b ≠ none → w0.heap.size ≤ b)
  clear hidx hb1 hfr hx hm
  go_wp2_with fail
  refine (rnew15 w1).mono ?_
  rintro e w2 ⟨rfl, href, hb2, _⟩
  obtain ⟨ρ2, hduo⟩ := dual_new HB0.out HIDX.out HB1.out HFR.out href hb2
  obtain ⟨r, hr⟩ : ∃ r, w1.heap.size = r := ⟨_, rfl⟩
  rw [hr] at hduo
  rw [hr]
  have HD2 := Lib.hid hduo
  clear href hb2 hduo hr
  go_wp2_with fail
  go_loopw [22] (fun i wr => InPlays W x m r n i wr) (fun i _ => n - (intOf i).toNat)
  case atStart => exact ⟨0, ρ2, _, _, _, _, Nat.zero_le _, Nat.zero_le _, rfl, HD2.out, like_new, Nat.le_refl _, Nat.le_refl _⟩
  case round =>
    rename World => wo
    obtain ⟨k, ρ, L, M, E, K, hkn, hk100, rfl, hd, hl, hE, hK⟩ := hrel
    have HD := Lib.hid hd
    have HL := Lib.hid hl
    have HE := Lib.hid hE
    have HK := Lib.hid hK
    clear hd hl hE hK
    by_cases hlt : k < n
    · obtain ⟨b, off, rfl, hbl, hop⟩ := HX.out k hlt
      obtain ⟨sa, sc, g0, g1, g2, g3, g4, hsr, hfs⟩ := hop
      have hbk := HD.out.low.block b hbl
      have q0 := (World.cell?_of_block (a := ⟨b, off + k * 5, none⟩) hbk).trans g0
      have q1 := (World.cell?_of_block (a := ⟨b, off + k * 5 + 1, none⟩) hbk).trans g1
      have q2 := (World.cell?_of_block (a := ⟨b, off + k * 5 + 2, none⟩) hbk).trans g2
      have q3 := (World.cell?_of_block (a := ⟨b, off + k * 5 + 3, none⟩) hbk).trans g3
      have q4 := (World.cell?_of_block (a := ⟨b, off + k * 5 + 4, none⟩) hbk).trans g4
      clear g0 g1 g2 g3 g4 hbk
      obtain ⟨⟨call, s, f, kd⟩, ho⟩ : ∃ o, X k = o := ⟨_, rfl⟩
      rw [ho] at q0 q1 q2 q3 q4 hsr hfs
      simp only at q0 q1 q2 q3 q4 hsr hfs
      clear ho
      have HSR := Lib.hid hsr
      have HFS := Lib.hid hfs
      obtain ⟨nt, hnt⟩ : ∃ nt, s.tags.length = nt := ⟨_, rfl⟩
      rw [hnt] at q2 HSR
      have HNT := Lib.hid hnt
      clear hsr hfs hnt
      by_cases hk : k < 100
      · have hd : decide ((100 : Int) ≤ (k : Int)) = false := by simp; omega
        go_upto_region 9 with (fail)
        clear q0 q1 q2 q3 q4 hd
        have hba := (Below.refl wo.heap.size wo).alloc (Nat.le_refl _) (.cells #[.int .i64 call, .string s.name, .slice sa nt sc, .string f, .int .i64 kd] 48)
        have hxb := heap_alloc_new wo (.cells #[.int .i64 call, .string s.name, .slice sa nt sc, .string f, .int .i64 kd] 48)
        have hbn : ρ wo.heap.size = none := HD.out.good.idx.dom _ (Nat.le_refl _)
        obtain ⟨wb, hwb⟩ : ∃ wb, wo.alloc (.cells #[.int .i64 call, .string s.name, .slice sa nt sc, .string f, .int .i64 kd] 48) = wb := ⟨_, rfl⟩
        obtain ⟨B, hB⟩ : ∃ B, wo.heap.size = B := ⟨_, rfl⟩
        rw [hwb] at hba hxb ⊢
        have hdb := HD.out.later hba
        rw [hB] at hxb hbn ⊢
        have HDB := Lib.hid hdb
        have HXB := Lib.hid hxb
        have HBN := Lib.hid hbn
        have HCELL := Lib.hid (fun (w' : World) (h : w'.heap[B]? = some (.cells #[.int .i64 call, .string s.name, .slice sa nt sc, .string f, .int .i64 kd] 48 (0, 0))) => (show w'.cell? ⟨B, 0, none⟩ = some (.int .i64 call) ∧ w'.cell? ⟨B, 1, none⟩ = some (.string s.name) ∧ w'.cell? ⟨B, 2, none⟩ = some (.slice sa nt sc) ∧ w'.cell? ⟨B, 3, none⟩ = some (.string f) ∧ w'.cell? ⟨B, 4, none⟩ = some (.int .i64 kd) by simp [World.cell?, h]))
        obtain ⟨j0, j1, j2, j3, j4⟩ := HCELL.out wb hxb
        have HPL := Lib.hid (show Calls Try.prog 21 #[.pointer (some ⟨x, 0, none⟩), .pointer (some ⟨r, 0, none⟩), .agg #[.int .i64 call, .string s.name, .slice sa nt sc, .string f, .int .i64 kd]] wb (PlayPost W wb ρ x m k r E.length K.length) by
          have := play21 hdb HL.out (by omega) (by have := HE.out; omega) (by have := HK.out; omega) call f kd (a := sa) (c := sc) (s := s) (by rw [HNT.out]; exact HSR.out) HFS.out
          rw [HNT.out] at this
          exact this)
        clear hba hxb hbn hdb hwb hB
        go_wp2_with fail
        refine HPL.out.mono ?_
        intro e w3 hp
        unfold PlayPost at hp
        obtain ⟨he, ρ3, L3, M3, E3, K3, hd3, hl3, hE3, hK3, _, hstay⟩ := hp
        subst he
        have hx3 := ((hstay B (heap_lt HXB.out) HBN.out).1).trans HXB.out
        clear j0 j1 j2 j3 j4
        obtain ⟨j0, j1, j2, j3, j4⟩ := HCELL.out w3 hx3
        have HD3 := Lib.hid hd3
        have HL3 := Lib.hid hl3
        have HE3 := Lib.hid (show E3.length ≤ k + 1 by have := HE.out; omega)
        have HK3 := Lib.hid (show K3.length ≤ k + 1 by have := HK.out; omega)
        have HX3 := Lib.hid hx3
        have HSZ := Lib.hid (show s.name.size ≤ maxLen ∧ ∀ p ∈ s.tags, p.1.size ≤ maxLen ∧ p.2.size ≤ maxLen by
          obtain ⟨_, _, _, _, _, _, h⟩ := HSR.out
          exact h)
        have HS := Lib.hid (fun (w' : World) (hb : Below w3.heap.size w3 w') (key val : BA) (hk : key.size ≤ maxLen) (hv : val.size ≤ maxLen) => same18 (HD3.out.later hb) HL3.out (by omega) (by have := HE3.out; omega) (by have := HK3.out; omega) s.name key val f HSZ.out.1 hk hv HFS.out)
        clear hd3 hl3 hE3 hK3 hstay hx3 HPL
        have HS5 := Lib.hid (HS.out w3 (Below.refl _ _) key val HS2.out HS3.out)
        go_wp2_with fail
        refine HS5.out.mono ?_
        rintro e w5 ⟨rfl, hb5⟩
        have HB5 := Lib.hid hb5
        clear j0 j1 j2 j3 j4
        obtain ⟨j0, j1, j2, j3, j4⟩ := HCELL.out w5 ((hb5.block B (heap_lt HX3.out)).trans HX3.out)
        have HNTL := Lib.hid (show nt < 2 ^ 63 by
          obtain ⟨_, _, he, _, h, _⟩ := HSR.out
          rw [← HNT.out]; exact h)
        have hn63 := HNTL.out
        have HLT := Lib.hid hlt
        clear hb5
        go_wp2_with fail
        clear j0 j1 j2 j3 j4
        go_loopw [53] (fun i wr => InLow w3 nt i wr) (fun i _ => nt - (intOf i).toNat)
        case atStart => exact ⟨0, Nat.zero_le _, rfl, HB5.out⟩
        case round =>
          obtain ⟨j, hjn, rfl, hb⟩ := hrel
          have HBR := Lib.hid hb
          clear hb
          by_cases hlj : j < nt
          · have hsr := HSR.out
            obtain ⟨a', c', he, _, _, ht, _⟩ := hsr
            injection he with he
            simp at he
            obtain ⟨rfl, hx9, rfl⟩ := he
            clear hx9
            obtain ⟨tb, toff, rfl, htl, t0, t1⟩ := ht j (by rw [HNT.out]; exact hlj)
            have hblk := (HBR.out.block tb (Nat.lt_of_lt_of_le htl HD3.out.low.size)).trans (HD3.out.low.block tb htl)
            have u0 := (World.cell?_of_block (a := ⟨tb, toff + j * 2, none⟩) hblk).trans t0
            have u1 := (World.cell?_of_block (a := ⟨tb, toff + j * 2 + 1, none⟩) hblk).trans t1
            obtain ⟨j0, j1, j2, j3, j4⟩ := HCELL.out wr ((HBR.out.block B (heap_lt HX3.out)).trans HX3.out)
            have hsz := sizes_kf HSZ.out.2 j
            obtain ⟨tk, htk⟩ : ∃ tk, s.kf j = tk := ⟨_, rfl⟩
            obtain ⟨tv, htv⟩ : ∃ tv, s.vf j = tv := ⟨_, rfl⟩
            rw [htk] at u0 hsz
            rw [htv] at u1 hsz
            have HS6 := Lib.hid (HS.out wr.drew HBR.out.drew tk tv hsz.1 hsz.2)
            have hlt := HLT.out
            have hi0 : (0 : Int) ≤ (j : Int) := by omega
            have hi1 : (j : Int) < (nt : Int) := by omega
            clear ht htl t0 t1 hblk hsz htk htv
            go_wp2_with fail
            go_still_tail 21, (by kernel_rfl)
            change wpList _ _ _ _ _ wr.drew
            obtain ⟨wd, hwd⟩ : ∃ wd, wr.drew = wd := ⟨_, rfl⟩
            have HBD := Lib.hid (show Below w3.heap.size w3 wd by rw [← hwd]; exact HBR.out.drew)
            rw [hwd] at HS6 ⊢
            clear hwd u0 u1 j0 j1 j2 j3 j4
            go_wp2_with fail
            refine HS6.out.mono ?_
            rintro e w7 ⟨rfl, hb7⟩
            have HB7 := Lib.hid (HBD.out.trans (hb7.mono HBD.out.size))
            clear hb7
            go_wp2_with fail
            go_roundw
            case rel => exact ⟨j + 1, by omega, by go_num, HB7.out⟩
            case measure => simp [intOf]; omega
          · have hje : j = nt := by omega
            have hlt := HLT.out
            clear hje
            go_wp2_with fail
            go_roundw
            case rel => exact ⟨k + 1, ρ3, L3, M3, E3, K3, by omega, by omega, by go_num, HD3.out.later HBR.out, HL3.out, HE3.out, HK3.out⟩
            case measure => simp [intOf]; omega
      · have hke : k = 100 := by omega
        have hd : decide ((100 : Int) ≤ (k : Int)) = true := by simp; omega
        have HKE := Lib.hid hke
        clear hke
        have hba := (Below.refl wo.heap.size wo).alloc (Nat.le_refl _) (.cells #[.int .i64 call, .string s.name, .slice sa nt sc, .string f, .int .i64 kd] 48)
        have HBA := Lib.hid hba
        have HSF := Lib.hid (same18 (HD.out.later hba) HL.out (by omega) (by have := HE.out; omega) (by have := HK.out; omega) name key val field HS1.out HS2.out HS3.out HS4.out)
        clear hba
        go_wp2_with fail
        clear q0 q1 q2 q3 q4 hd
        refine HSF.out.mono ?_
        rintro e w9 ⟨rfl, hb9⟩
        have HB9 := Lib.hid ((HD.out.later HBA.out).low.trans (hb9.mono (HD.out.later HBA.out).low.size))
        clear hb9
        go_wp2_with fail
        go_ret
        exact ⟨rfl, HB9.out⟩
    · have hke : k = n := by omega
      have HSF := Lib.hid (same18 HD.out HL.out (by omega) (by have := HE.out; omega) (by have := HK.out; omega) name key val field HS1.out HS2.out HS3.out HS4.out)
      clear hke
      go_wp2_with fail
      refine HSF.out.mono ?_
      rintro e w9 ⟨rfl, hb9⟩
      have HB9 := Lib.hid (HD.out.low.trans (hb9.mono HD.out.low.size))
      clear hb9
      go_wp2_with fail
      go_ret
      exact ⟨rfl, HB9.out⟩
end Go.Proofs.Ytobcpafalfdpkaa
