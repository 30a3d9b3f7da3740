/- Several texts of this proof, laid together. Conditions: as each says. -/
import Derived.Test.YtagiddbfhlokcaaGreatDoorBBH
import Derived.StillTailTactics
import Derived.Test.YtagiddbfhlokcaaGreatDoorBBD
/- The law LineBatches walked. Conditions: the text's length; the tables. -/
namespace Go.Proofs.YtagiddbfhlokcaaGreatDoor.Ser
open Go.RowKit Go.Sort
set_option maxRecDepth 100000
def Small (R : LR) : Prop := (cont R).2.1.length ≤ 8 ∧ (cont R).2.2.1.length ≤ 16
theorem bst_small (V : List UInt8 → Value × Int) (now : Int) (Ls : List (List UInt8)) : ∀ k, ∀ y ∈ (bst V now Ls k).1, Small y.2
  | 0 => fun y hy => nomatch hy
  | k + 1 => by
    have ih := bst_small V now Ls k
    unfold bst bstep
    split
    · exact ih
    · split
      · intro y hy
        rcases List.mem_append.1 hy with hy | hy
        · exact ih y hy
        · simp at hy; subst hy; exact lineP_small V now _
      · exact ih
theorem batP_small (V : List UInt8 → Value × Int) (now : Int) (Ls : List (List UInt8)) : ∀ y ∈ (batP V now Ls).1, Small y.2 := by
  unfold batP
  split
  · exact fun y hy => nomatch hy
  · exact bst_small V now Ls _
def InS (n : Nat) (w : World) (i : Value) (wr : World) : Prop := ∃ k : Nat, i = .int .i64 k ∧ k ≤ n ∧ Below w.heap.size w wr
set_option maxHeartbeats 4000000 in
theorem sameRows17 (B B' : Nat) (v v' : Value) (es es' : List (Int × Ro)) (rs : List (Int × LR)) (w : World) (ho : w.ownsRow B 27 4 v es.length (es.flatMap encB)) (ho' : w.ownsRow B' 27 4 v' es'.length (es'.flatMap encB)) (hr : Rows2 w es rs) (hr' : Rows2 w es' rs)
    (hs : ∀ y ∈ rs, Small y.2) (hl : rs.length < 4611686018427387904) : Calls Tryz.prog 17 #[v, v'] w (Answer (.bool true) w) := by
  have hlen := hr.length
  have hlen' := hr'.length
  obtain ⟨a, c, hv⟩ := numb_slice ho
  obtain ⟨a', c', hv'⟩ := numb_slice ho'
  subst hv hv'
  obtain ⟨n, hn⟩ : ∃ n, rs.length = n := ⟨_, rfl⟩
  rw [hlen, hn] at ho ⊢
  rw [hlen', hn] at ho' ⊢
  have HL := Lib.hid hlen
  have HL' := Lib.hid hlen'
  have HN := Lib.hid hn
  have HO := Lib.hid ho
  have HO' := Lib.hid ho'
  have HR := Lib.hid hr
  have HR' := Lib.hid hr'
  have HS := Lib.hid hs
  have hl2 : n < 4611686018427387904 := by omega
  clear hlen hlen' hn ho ho' hr hr' hs hl
  go_enter Tryz.func17, Tryz.ntmps17
  go_wp2_with fail
  go_loopw [13] (fun i wx => InS n w i wx) (fun i _ => n - (intOf i).toNat)
  case atStart => exact ⟨0, rfl, Nat.zero_le _, Below.refl _ _⟩
  case round =>
    obtain ⟨k, rfl, hk, hb⟩ := hrel
    have HB := Lib.hid hb
    by_cases hlt : k < n
    · have h1 : k < es.length := by rw [HL.out, HN.out]; exact hlt
      have h2 : k < es'.length := by rw [HL'.out, HN.out]; exact hlt
      have h3 : k < rs.length := by rw [HN.out]; exact hlt
      have g1 := (HR.out.get k h1 h3).2
      have g2 := (HR'.out.get k h2 h3).2
      have hsm := HS.out _ (List.getElem_mem h3)
      obtain ⟨g, cap, hv, _, hgl⟩ := HO.out.form (by omega)
      injection hv with hv hv1 hv2
      clear hv1 hv2
      obtain ⟨g', cap', hv', _, hgl'⟩ := HO'.out.form (by omega)
      injection hv' with hv' hv1 hv2
      clear hv1 hv2
      subst hv hv'
      obtain ⟨⟨no, nm, ra, rn, rc, rfa, rm, rfc, rt⟩, hx⟩ : ∃ x, es[k] = x := ⟨_, rfl⟩
      obtain ⟨⟨no', nm', ra', rn', rc', rfa', rm', rfc', rt'⟩, hx'⟩ : ∃ x, es'[k] = x := ⟨_, rfl⟩
      have old : ∀ {g j : Nat} {u : Value}, g < w.heap.size → w.cell? ⟨g, j, none⟩ = some u → wr.cell? ⟨g, j, none⟩ = some u := fun hg h => (hb.cell (p := ⟨_, _, none⟩) hg).trans h
      have e1 : es.length = n := HL.out.trans HN.out
      have e2 : es'.length = n := HL'.out.trans HN.out
      have t0 := cell_regrown (old hgl (own_get HO.out encB_len e1 h1 (j := 0) (by decide) (u := .string nm) (by rw [hx]; rfl)))
      have t1 := cell_regrown (old hgl (own_get HO.out encB_len e1 h1 (j := 1) (by decide) (u := .slice ra rn rc) (by rw [hx]; rfl)))
      have t2 := cell_regrown (old hgl (own_get HO.out encB_len e1 h1 (j := 2) (by decide) (u := .slice rfa rm rfc) (by rw [hx]; rfl)))
      have t3 := cell_regrown (old hgl (own_get HO.out encB_len e1 h1 (j := 3) (by decide) (u := .int .i64 rt) (by rw [hx]; rfl)))
      have u0 := cell_regrown (old hgl' (own_get HO'.out encB_len e2 h2 (j := 0) (by decide) (u := .string nm') (by rw [hx']; rfl)))
      have u1 := cell_regrown (old hgl' (own_get HO'.out encB_len e2 h2 (j := 1) (by decide) (u := .slice ra' rn' rc') (by rw [hx']; rfl)))
      have u2 := cell_regrown (old hgl' (own_get HO'.out encB_len e2 h2 (j := 2) (by decide) (u := .slice rfa' rm' rfc') (by rw [hx']; rfl)))
      have u3 := cell_regrown (old hgl' (own_get HO'.out encB_len e2 h2 (j := 3) (by decide) (u := .int .i64 rt') (by rw [hx']; rfl)))
      rw [Nat.add_zero] at t0 u0
      rw [hx] at g1
      rw [hx'] at g2
      have cS := fun d os => Calls.regrown_of (RowIs.same rc rfc rc' rfc' ((g1.later hb).later (below_regrown wr d os)) ((g2.later hb).later (below_regrown wr d os)) hsm)
      have hkz : (k : Int) < (n : Int) := by omega
      have HLT := Lib.hid hlt
      clear hx hx' old h1 h2 h3 g1 g2 hsm e1 e2 hb hk hlt hgl hgl'
      go_wp2_with fail
      refine wp_region_quiet_below (by kernel_rfl) (by kernel_rfl) ?_
      repeat (go_big_quiet_step (with_reducible exact cS _ _))
      refine wpQuiet_nil ?_
      intro w2 hw2
      have hb2 := below_of_regrown hw2
      have HB2 := Lib.hid (HB.out.trans (hb2.mono HB.out.size))
      clear hw2 hb2 t0 t1 t2 t3 u0 u1 u2 u3
      go_wp2_with fail
      exact ⟨⟨k + 1, by go_num, HLT.out, HB2.out⟩, by have := HLT.out; simp [intOf]; omega⟩
    · have hkz : ¬ (k : Int) < (n : Int) := by omega
      clear hlt hk hb
      go_wp2_with fail
      go_ret
      exact ⟨rfl, HB.out⟩
set_option maxHeartbeats 4000000 in
theorem sameFaults18 (B B' : Nat) (v v' : Value) (fs : List (Int × Int)) (w : World) (ho : w.ownsRow B 38 2 v fs.length (fs.flatMap encX)) (ho' : w.ownsRow B' 38 2 v' fs.length (fs.flatMap encX)) (hl : fs.length < 4611686018427387904) : Calls Tryz.prog 18 #[v, v'] w (Answer (.bool true) w) := by
  obtain ⟨a, c, hv⟩ := numb_slice ho
  obtain ⟨a', c', hv'⟩ := numb_slice ho'
  subst hv hv'
  obtain ⟨n, hn⟩ : ∃ n, fs.length = n := ⟨_, rfl⟩
  rw [hn] at ho ho' hl ⊢
  have HN := Lib.hid hn
  have HO := Lib.hid ho
  have HO' := Lib.hid ho'
  clear hn ho ho'
  go_enter Tryz.func18, Tryz.ntmps18
  go_wp2_with fail
  go_loopw [13] (fun i wx => InS n w i wx) (fun i _ => n - (intOf i).toNat)
  case atStart => exact ⟨0, rfl, Nat.zero_le _, Below.refl _ _⟩
  case round =>
    obtain ⟨k, rfl, hk, hb⟩ := hrel
    have HB := Lib.hid hb
    by_cases hlt : k < n
    · have h1 : k < fs.length := by rw [HN.out]; exact hlt
      obtain ⟨g, cap, hv, _, hgl⟩ := HO.out.form (by omega)
      injection hv with hv hv1 hv2
      clear hv1 hv2
      obtain ⟨g', cap', hv', _, hgl'⟩ := HO'.out.form (by omega)
      injection hv' with hv' hv1 hv2
      clear hv1 hv2
      subst hv hv'
      obtain ⟨⟨no, er⟩, hx⟩ : ∃ x, fs[k] = x := ⟨_, rfl⟩
      have old : ∀ {g j : Nat} {u : Value}, g < w.heap.size → w.cell? ⟨g, j, none⟩ = some u → wr.cell? ⟨g, j, none⟩ = some u := fun hg h => (hb.cell (p := ⟨_, _, none⟩) hg).trans h
      have t0 := old hgl (own_get HO.out encX_len HN.out h1 (j := 0) (by decide) (u := .int .i64 no) (by rw [hx]; rfl))
      have t1 := old hgl (own_get HO.out encX_len HN.out h1 (j := 1) (by decide) (u := .int .i64 er) (by rw [hx]; rfl))
      have u0 := old hgl' (own_get HO'.out encX_len HN.out h1 (j := 0) (by decide) (u := .int .i64 no) (by rw [hx]; rfl))
      have u1 := old hgl' (own_get HO'.out encX_len HN.out h1 (j := 1) (by decide) (u := .int .i64 er) (by rw [hx]; rfl))
      rw [Nat.add_zero] at t0 u0
      have hkz : (k : Int) < (n : Int) := by omega
      have HLT := Lib.hid hlt
      clear hx old h1 hb hk hlt hgl hgl'
      go_wp2_with fail
      go_quiet (fail)
      go_wp2_with fail
      exact ⟨⟨k + 1, by go_num, HLT.out, below_drewN HB.out _⟩, by have := HLT.out; simp [intOf]; omega⟩
    · have hkz : ¬ (k : Int) < (n : Int) := by omega
      clear hlt hk hb
      go_wp2_with fail
      go_ret
      exact ⟨rfl, HB.out⟩
end Go.Proofs.YtagiddbfhlokcaaGreatDoor.Ser
/- The law LineBatches walked. Conditions: the text's length; the tables. -/
namespace Go.Proofs.YtagiddbfhlokcaaGreatDoor.Ser
open Go.RowKit Go.Sort
set_option maxRecDepth 100000
theorem takeX_flat (es : List (Int × Int)) {k : Nat} (h : k < es.length) : (es.take (k + 1)).flatMap encX = (es.take k).flatMap encX ++ encX es[k] := by
  rw [List.take_add_one, List.getElem?_eq_getElem h, List.flatMap_append]
  simp only [Option.toList_some, List.flatMap_cons, List.flatMap_nil, List.append_nil]
def InTh (fs : List (Int × Int)) (w : World) (v i : Value) (wr : World) : Prop :=
  ∃ k : Nat, k ≤ fs.length ∧ i = .int .i64 k ∧ wr.ownsRow w.heap.size 38 2 v k ((fs.take k).flatMap encX) ∧ Below w.heap.size w wr
set_option maxHeartbeats 4000000 in
theorem theirs19 (B : Nat) (v0 : Value) (fs : List (Int × Int)) (w : World) (ho : w.ownsRow B 97 2 v0 fs.length (fs.flatMap encX)) (hl : fs.length ≤ 1073741825) :
    Calls Tryz.prog 19 #[v0] w fun e w' => ∃ v, e = .returned v ∧ w'.ownsRow w.heap.size 38 2 v fs.length (fs.flatMap encX) ∧ Below w.heap.size w w' := by
  obtain ⟨a, c, hv⟩ := numb_slice ho
  subst hv
  obtain ⟨i0, hi, hz0, hz1, hz2⟩ := info_parts info38
  have HI := Lib.hid hi
  have HZ0 := Lib.hid hz0
  have HZ1 := Lib.hid hz1
  have HZ2 := Lib.hid hz2
  clear hi hz0 hz1 hz2
  obtain ⟨n, hnl⟩ : ∃ n, fs.length = n := ⟨_, rfl⟩
  rw [hnl] at ho hl ⊢
  have HN := Lib.hid hnl
  have HS := Lib.hid ho
  clear ho hnl
  go_enter Tryz.func19, Tryz.ntmps19
  go_wp2_with fail
  go_loopw [3, 7] (fun v i wr => InTh fs w v i wr) (fun _ i _ => n - (intOf i).toNat)
  case atStart => exact ⟨0, Nat.zero_le _, rfl, World.ownsRow_nil _ _ _ _, Below.refl _ _⟩
  case round =>
    obtain ⟨k, hk, rfl, hown, hb⟩ := hrel
    rw [HN.out] at hk
    have HO := Lib.hid hown
    have HB := Lib.hid hb
    have hsz := hb.size
    by_cases hlt : k < n
    · have h1 : k < fs.length := by rw [HN.out]; exact hlt
      obtain ⟨b, cap, hv, hbb, hbw⟩ := HS.out.form (by omega)
      injection hv with hv hv1 hv2
      clear hv1 hv2
      subst hv
      obtain ⟨⟨no, er⟩, hx⟩ : ∃ x, fs[k] = x := ⟨_, rfl⟩
      have ak : u3.ownBlock ≠ some b := fun e => by
        have := (hown.lt _ e).1
        omega
      have d0 : wr.cell? ⟨b, k * 2, none⟩ = _ := (hb.cell (p := ⟨b, _, none⟩) hbw).trans (own_get HS.out encX_len HN.out h1 (j := 0) (by decide) (u := .int .i64 no) (by rw [hx]; rfl))
      have d1 : wr.cell? ⟨b, k * 2 + 1, none⟩ = _ := (hb.cell (p := ⟨b, _, none⟩) hbw).trans (own_get HS.out encX_len HN.out h1 (j := 1) (by decide) (u := .int .i64 er) (by rw [hx]; rfl))
      have hbr : b < wr.heap.size := Nat.lt_of_lt_of_le hbw HB.out.size
      have HTK := Lib.hid (takeX_flat fs h1)
      rw [hx] at HTK
      have HLT := Lib.hid hlt
      clear hx hown hb h1 hbb
      have hi0 : (0 : Int) ≤ (k : Int) := by omega
      have hi1 : (k : Int) < (n : Int) := by omega
      go_wp2_with fail
      go_region_held3 (fun w' => w'.cell? ⟨b, k * 2, none⟩ = some (.int .i64 no) ∧ w'.cell? ⟨b, k * 2 + 1, none⟩ = some (.int .i64 er))
        (first
          | go_keep
          | (go_split_ands
             refine ⟨?_, ?_⟩
             · (rw [hgrow.cell_far _ (by simp; omega) (Ne.symm ak)]; assumption)
             · (rw [hgrow.cell_far _ (by simp; omega) (Ne.symm ak)]; assumption)))
        ((refine step_append_lies _ (by rfl) _ _ _ (by rfl) w.heap.size 38 i0 _ 2 16 Tryz.underlying34 HI.out HZ0.out HZ1.out HZ2.out rfl (by omega) u3 k ((fs.take k).flatMap encX) (by rfl) ((World.ownsRow.alloc HO.out _).drew)
            ⟨wr.heap.size, 0, none⟩ 1 1 [.int .i64 no, .int .i64 er] (by rfl) (by rfl) (World.news_of_block (cs := #[.int .i64 no, .int .i64 er]) (t := 38) (fr := (0, 0)) (heap_alloc_new wr _)) (by simp [Value.oneCell'])
            (by omega) (by unfold maxLen; omega) (by omega) (by simp; omega) (wr.heap.size + 1) (by simp) ?_; intro gg cap8 w1 hown1 hgrow hat hlt2))
      have HG := Lib.hid hgrow
      have HO1 := Lib.hid hown1
      clear hgrow hown1 hat hlt2
      go_wp2_with fail
      go_roundw
      case rel =>
        refine ⟨k + 1, by rw [HN.out]; exact HLT.out, by go_num, ?_, ((HB.out.alloc hsz _).drew).grown HG.out (by simp; omega) (fun j hj => (HO.out.lt j hj).1)⟩
        rw [HTK.out]
        exact HO1.out
      case measure => have := HLT.out; simp [intOf]; omega
    · have hke : k = n := by omega
      have hkz : ¬ (k : Int) < (n : Int) := by omega
      have HKE := Lib.hid hke
      clear hown hb hke hlt hk
      go_wp2_with fail
      go_ret
      refine ⟨_, rfl, ?_, HB.out⟩
      have h1 := HO.out
      rw [HKE.out, List.take_of_length_le (by rw [HN.out]; exact Nat.le_refl _)] at h1
      exact h1
end Go.Proofs.YtagiddbfhlokcaaGreatDoor.Ser
/- The law LineBatches walked. Conditions: the text's length; the tables. -/
namespace Go.Proofs.YtagiddbfhlokcaaGreatDoor.Ser
open Go.RowKit Go.Sort
set_option maxRecDepth 100000
theorem batP_len (V : List UInt8 → Value × Int) (now : Int) (l : List UInt8) (hl : l.length ≤ 1073741824) : (batP V now (rln [] l)).1.length ≤ 1073741825 ∧ (batP V now (rln [] l)).2.length ≤ 1073741825 := by
  unfold batP
  split
  · exact ⟨Nat.zero_le _, by decide⟩
  · have h1 := bst_len V now (rln [] l) (rln [] l).length
    have h2 := (rln_len l []).2
    exact ⟨by omega, by omega⟩
set_option maxHeartbeats 4000000 in
theorem law5 (l : List UInt8) (hlen : l.length ≤ 1073741824) (now : Int) (w : World) (hm : laidMet Tryz.prog Laid.lst w) (mx : Int) (h4 : w.cell? ⟨4, 0, none⟩ = some (.int .i64 mx)) :
    Calls Tryz.prog 5 #[.string (bs l), .int .i64 now] w fun e w' => e = .returned (.bool true) ∧ Below w.heap.size w w' := by
  obtain ⟨h1, h2⟩ := readers_of hm
  have h4l : 4 < w.heap.size := World.block_lt_of_cell? w _ h4
  have MA := Lib.hid (awake10 w h1)
  have M16 := Lib.hid (fun w2 (h : Below w.heap.size w w2) => batch16 now l hlen w2 (h2.later h))
  have M12 := Lib.hid (fun w2 (h : Below w.heap.size w w2) => batch12 now l hlen w2 (h1.later h) mx ((h.cell (p := ⟨4, 0, none⟩) h4l).trans h4))
  have hsm := batP_small V0 now (rln [] l)
  have hlens := batP_len V0 now l hlen
  obtain ⟨S, hS⟩ : ∃ S, batP V0 now (rln [] l) = S := ⟨_, rfl⟩
  rw [hS] at M16 M12 hsm hlens
  have HSM := Lib.hid hsm
  have HLN := Lib.hid hlens
  clear hm h1 h2 hS hsm hlens h4 h4l
  go_enter Tryz.func5, Tryz.ntmps5
  go_wp2_with fail
  refine MA.out.mono ?_
  rintro e w1 ⟨rfl, hb1⟩
  have HB1 := Lib.hid hb1
  clear hb1
  go_wp2_with fail
  refine (M16.out _ HB1.out).mono ?_
  rintro e w2 ⟨hb2, v, v9, v10, es, rfl, ho8, ho9, hr⟩
  have HB2 := Lib.hid (HB1.out.trans (hb2.mono HB1.out.size))
  have HO8 := Lib.hid ho8
  have HO9 := Lib.hid ho9
  have HR := Lib.hid hr
  clear hb2 ho8 ho9 hr
  go_wp2_with fail
  refine (M12.out _ HB2.out).mono ?_
  rintro e w3 ⟨hb3, v', v8, es', rfl, ho7, hox, hr'⟩
  have HB3 := Lib.hid (HB2.out.trans (hb3.mono HB2.out.size))
  have M17 := Lib.hid (sameRows17 _ _ v' v es' es S.1 w3 ho7 (own_later HO8.out hb3) hr' (HR.out.later hb3) HSM.out (by have := HLN.out.1; omega))
  have HO93 := Lib.hid (own_later HO9.out hb3)
  have HOX := Lib.hid hox
  clear hb3 ho7 hox hr'
  go_wp2_with fail
  refine M17.out.mono ?_
  rintro e w4 ⟨rfl, hb4⟩
  have HB4 := Lib.hid (HB3.out.trans (hb4.mono HB3.out.size))
  have M19 := Lib.hid (theirs19 _ v9 S.2 w4 (own_later HO93.out hb4) HLN.out.2)
  have HOX4 := Lib.hid (own_later HOX.out hb4)
  clear hb4
  go_wp2_with fail
  refine M19.out.mono ?_
  rintro e w5 ⟨vt, rfl, hot, hb5⟩
  have HB5 := Lib.hid (HB4.out.trans (hb5.mono HB4.out.size))
  have M18 := Lib.hid (sameFaults18 _ _ v8 vt S.2 w5 (own_later HOX4.out hb5) hot (by have := HLN.out.2; omega))
  clear hot hb5
  go_wp2_with fail
  refine M18.out.mono ?_
  rintro e w6 ⟨rfl, hb6⟩
  have HB6 := Lib.hid (HB5.out.trans (hb6.mono HB5.out.size))
  clear hb6
  go_wp2_with fail
  go_ret
  exact ⟨rfl, HB6.out⟩
end Go.Proofs.YtagiddbfhlokcaaGreatDoor.Ser
/- The witness world meets the rows' condition, plainly said. No condition. -/
namespace Go.Proofs.YtagiddbfhlokcaaGreatDoor.Laid
theorem metM (os : Os) (args : Array Value) : laidMet Tryz.prog lst ((World.laidAll Tryz.prog os lst).forCall (fun _ _ => 0) ⟨#[], args, []⟩).memory := laidMet_laidAll _ (fits os) (ifaces os)
end Go.Proofs.YtagiddbfhlokcaaGreatDoor.Laid
