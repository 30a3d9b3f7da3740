/- The law CacheNil: a nil cache has nothing; answers are new memory. No condition. -/
import Derived.Test.YtfhdaihladgchaaAQ
import Derived.WideShapes
namespace Go.Proofs.Ytfhdaihladgchaa
open Go.RowKit Go.WideMaps Go.Sort Go.WideShapes
def sB : ByteArray := ⟨#[115]⟩
def fB : ByteArray := ⟨#[102]⟩
/-- At most one round: the world of the first is known. -/
def InOne (w0 w1 : World) (n : Nat) (i : Value) (wr : World) : Prop := ∃ k : Nat, k ≤ n ∧ i = .int .i64 k ∧ Below w0.heap.size w0 wr ∧ (k = 0 → wr = w1)
theorem row_store {w : World} {base n : Nat} {g c : Nat} {xs : List Value} (h : w.ownsRow base 33 4 (.slice (some ⟨g, 0, none⟩) n c) n xs) : ∀ i, w.frozen? ⟨g, i, none⟩ = false := fun i => by
  obtain ⟨cur, hc⟩ := row_block h (g := g) rfl
  simp [World.frozen?, hc]
def putA (p : Pt) : Int := putE [] 0 9 p
theorem nil_pts {L' : List Col} {p : Pt} (h : ∀ s' f', ptsOf (look L' s' f') = if s' = sB ∧ f' = fB then putN (ptsOf (look [] sB fB)) (total []) 9 p else ptsOf (look [] s' f')) : ptsOf (look L' sB fB) = if putA p = 0 then [p] else [] := by
  rw [h sB fB, if_pos ⟨rfl, rfl⟩]
  have h1 : ptsOf (look ([] : List Col) sB fB) = [] := rfl
  have h2 : (total ([] : List Col) : Int) = 0 := rfl
  rw [h1]
  unfold putN
  rw [h2, putL_one]; rfl
theorem one_rng (p : Pt) : rng (if putA p = 0 then [p] else []) p.t p.t = if putA p = 0 then [p] else [] := by
  split
  · rw [rng_filter (List.pairwise_singleton _ _)]
    simp [inR]
  · rw [rng_filter List.Pairwise.nil]; rfl
theorem pb_cells {w : World} {pb : Nat} {p : Pt} (h : w.heap[pb]? = some (.cells #[.int .i64 p.t, .int .i64 p.k, .int .u64 p.b, .string p.s] 33 (0, 0))) (w' : World) (hb : Below w.heap.size w w') : w'.cell? ⟨pb, 0, none⟩ = some (.int .i64 p.t) ∧ w'.cell? ⟨pb, 1, none⟩ = some (.int .i64 p.k) ∧ w'.cell? ⟨pb, 2, none⟩ = some (.int .u64 p.b) ∧ w'.cell? ⟨pb, 3, none⟩ = some (.string p.s) := by
  have h1 := (hb.block pb (heap_lt h)).trans h
  simp [World.cell?, h1]
set_option maxRecDepth 100000 in
theorem pt_param {H : Type} {enc : TypeId × Value → H} {W : World} {base : Nat} {v : Value} {d : DataW H} {q : List MemPlace} (h : DataW.Trod enc Try.prog W 0 (fun _ => true) true 33 v d q) (o : Value.okWide Try.prog W .any base 33 v) : ∃ p : Pt, v = .agg #[.int .i64 p.t, .int .i64 p.k, .int .u64 p.b, .string p.s] ∧ PtOk p := by
  simp only [Value.okWide, Try.underlying33] at o
  obtain ⟨cs, rfl, hcs, _⟩ := o
  obtain ⟨fuel, hf⟩ := h
  obtain ⟨p, hp, hok⟩ := pt_open hf (by show cs.toList.length = 4; rw [Array.length_toList, hcs, cells33])
  refine ⟨p, ?_, hok⟩
  have hp' : cs.toList = ptV p := hp
  rw [← Array.toArray_toList (xs := cs), hp']; rfl
set_option maxHeartbeats 4000000 in
set_option maxRecDepth 100000 in
theorem cacheNil_walk (H : Type) (enc : TypeId × Value → H) (W : World) (base : Nat) (v0 v1 v2 : Value) (d0 d1 d2 : DataW H) (p0 p1 p2 : List MemPlace) (h0 : DataW.Trod enc Try.prog W 0 (fun _ => true) true 33 v0 d0 p0) (o0 : Value.okWide Try.prog W .any base 33 v0) (h1 : DataW.Trod enc Try.prog W 0 (fun _ => true) true 2 v1 d1 p1) (o1 : Value.okWide Try.prog W .any base 2 v1) (h2 : DataW.Trod enc Try.prog W 0 (fun _ => true) true 2 v2 d2 p2) (o2 : Value.okWide Try.prog W .any base 2 v2) :
    Calls Try.prog 7 #[v0, v1, v2] W fun e w' => e = .returned (.bool true) ∧ Below W.heap.size W w' := by
  obtain ⟨p, rfl, hp⟩ := pt_param h0 o0
  obtain ⟨fa, rfl⟩ := okWide_int Try.underlying2 o1
  obtain ⟨fb, rfl⟩ := okWide_int Try.underlying2 o2
  have HP := Lib.hid hp
  have hbx := (Below.refl W.heap.size W).alloc (Nat.le_refl _) (.cells #[.int .i64 p.t, .int .i64 p.k, .int .u64 p.b, .string p.s] 33)
  have hpb : (W.alloc (.cells #[.int .i64 p.t, .int .i64 p.k, .int .u64 p.b, .string p.s] 33)).heap[W.heap.size]? = some (.cells #[.int .i64 p.t, .int .i64 p.k, .int .u64 p.b, .string p.s] 33 (0, 0)) := heap_alloc_new W _
  obtain ⟨wb, hwb⟩ : ∃ wb, W.alloc (.cells #[.int .i64 p.t, .int .i64 p.k, .int .u64 p.b, .string p.s] 33) = wb := ⟨_, rfl⟩
  obtain ⟨pb, hpbe⟩ : ∃ pb, W.heap.size = pb := ⟨_, rfl⟩
  rw [hwb] at hbx hpb
  rw [hpbe] at hpb
  have HBX := Lib.hid hbx
  have HPB := Lib.hid hpb
  clear h0 o0 h1 o1 h2 o2 hp hbx hpb
  go_enter Try.func7, Try.ntmps7
  go_wp2_with fail
  clear hwb hpbe
  refine (awake wb).mono ?_
  rintro e w1 ⟨rfl, hb1⟩
  have HB1 := Lib.hid hb1
  clear hb1
  go_wp2_with fail
  refine (clearN _).mono ?_
  rintro e w1' ⟨rfl, rfl⟩
  go_wp2_with fail
  refine (new 9 w1).mono ?_
  rintro e w2 ⟨rfl, hc2, hb2, hs2⟩
  rw [show max (9 : Int) 0 = 9 by decide] at hc2
  obtain ⟨k0, k1, k2, k3⟩ := pb_cells HPB.out w2 (HB1.out.trans (hb2.mono HB1.out.size))
  have hpbl : pb < w1.heap.size := Nat.lt_of_lt_of_le (heap_lt HPB.out) HB1.out.size
  have hpb2 : w2.heap[pb]? = some (.cells #[.int .i64 p.t, .int .i64 p.k, .int .u64 p.b, .string p.s] 33 (0, 0)) := (hb2.block pb hpbl).trans ((HB1.out.block pb (heap_lt HPB.out)).trans HPB.out)
  have HPB2 := Lib.hid hpb2
  have HPBL := Lib.hid hpbl
  have hbw2 := HBX.out.trans ((HB1.out.trans (hb2.mono HB1.out.size)).mono HBX.out.size)
  have HBW2 := Lib.hid hbw2
  obtain ⟨c, hc⟩ : ∃ c, w1.heap.size + 1 = c := ⟨_, rfl⟩
  obtain ⟨m, hm⟩ : ∃ m, w1.heap.size = m := ⟨_, rfl⟩
  rw [hc, hm] at hc2
  rw [hc]
  have HC2 := Lib.hid hc2
  have HC := Lib.hid (show w1.heap.size = m ∧ c = m + 1 from ⟨hm, by omega⟩)
  clear hc2 hb2 hs2 hpbl hpb2 hbw2 hc hm
  go_wp2_with fail
  refine (putC10 w2 _ c m [] 9 sB fB p HC2.out (by decide) (by decide) ⟨HP.out.2.2.2.2.1, HP.out.2.2.2.2.2.1⟩ HP.out.2.2.2.2.2.2 (by decide)).mono ?_
  rintro e w3 ⟨L', rfl, ht3, hc3, hlk3, htot3⟩
  have hna : ¬ (fun k => k = m ∨ k = c) pb := fun h => by have h1 := HPBL.out; have h2 := HC.out; rcases h with h | h <;> omega
  have hpb3 := (ht3.block pb (heap_lt HPB2.out) hna).trans HPB2.out
  have HPB3 := Lib.hid (pb_cells hpb3)
  have HBW3 := Lib.hid (ht3.below HBW2.out.size (fun k hk => by have h1 := HBX.out.size; have h2 := HB1.out.size; have h3 := HC.out; rcases hk with h | h <;> omega))
  have HBW := Lib.hid (HBW2.out.trans HBW3.out)
  have HLK := Lib.hid (nil_pts hlk3)
  have htl : total L' ≤ 1 := by
    rw [htot3]
    have h1 := putD_le (ptsOf (look ([] : List Col) sB fB)) (total ([] : List Col)) 9 p
    have h2 : total ([] : List Col) = 0 := rfl
    omega
  have HTL := Lib.hid htl
  obtain ⟨S3, hS3⟩ : ∃ S, (With (fun k => k = m ∨ k = c) w2 w3) = S := ⟨_, rfl⟩
  rw [hS3] at hc3
  have HC3 := Lib.hid hc3
  obtain ⟨ee, hee⟩ : ∃ e, putE (ptsOf (look ([] : List Col) sB fB)) (total ([] : List Col)) 9 p = e := ⟨_, rfl⟩
  rw [hee]
  have HEE := Lib.hid (show putA p = ee from hee)
  clear k0 k1 k2 k3 ht3 hc3 hlk3 htot3 hna hpb3 htl hS3 hee
  go_wp2_with fail
  refine (columnsC w3 S3 c m L' 9 _ HC3.out (by have := HTL.out; omega)).mono ?_
  rintro e w4 ⟨v4, Ro, ks, rfl, hk4, _, hm4, hr4, ho4, hb4⟩
  have hne4 : ∀ y ∈ Ro, y.l ≠ [] := fun y hy => by
    have h1 := colsP_ne hk4 (fun x hx => (HC3.out.col x hx).2.2.1) (pc y) (by rw [← hm4]; exact List.mem_map_of_mem hy)
    exact h1
  have hlen4 : Ro.length ≤ 1 := by
    have h1 := congrArg List.length hm4
    have h2 := hk4.len
    have h3 := cols_len HC3.out
    have h4 := HTL.out
    unfold colsP at h1
    simp only [List.length_map] at h1
    omega
  obtain ⟨n, hn⟩ : ∃ n, Ro.length = n := ⟨_, rfl⟩
  rw [hn] at hr4 hlen4
  obtain ⟨va, vc, rfl⟩ := row55_form hr4
  have HR4 := Lib.hid (row55_cells hr4 hn)
  have HO4 := Lib.hid ho4
  have HNE4 := Lib.hid hne4
  have HN4 := Lib.hid hn
  have HB4 := Lib.hid hb4
  clear hk4 hm4 hr4 ho4 hb4 hne4 hn
  go_wp2_with fail
  go_loopw [27] (fun i wr => InOne w3 w4 n i wr) (fun i _ => n - (intOf i).toNat)
  case atStart => exact ⟨0, Nat.zero_le _, rfl, HB4.out, fun _ => rfl⟩
  case round =>
    rename World => wo
    obtain ⟨k, hkn, rfl, hb, hw⟩ := hrel
    have HBO := Lib.hid hb
    by_cases hlt : k < n
    · have hw' : wo = w4 := hw (by omega)
      subst hw'
      clear hw hb
      obtain ⟨y, hy⟩ : ∃ y, Ro[k]? = some y := ⟨_, List.getElem?_eq_getElem (by rw [HN4.out]; exact hlt)⟩
      obtain ⟨g, rfl, hc⟩ := HR4.out k y hy
      obtain ⟨_, _, q2⟩ := hc _ (Below.refl _ _)
      have hro := HO4.out y (List.mem_of_getElem? hy)
      have hne := HNE4.out y (List.mem_of_getElem? hy)
      obtain ⟨se, fi, yv, l⟩ := y
      simp only at q2 hro hne
      obtain ⟨z, hz⟩ : ∃ z, l[0]? = some z := ⟨_, List.getElem?_eq_getElem (List.length_pos_iff.2 hne)⟩
      have hpos : 0 < l.length := List.length_pos_iff.2 hne
      obtain ⟨ya, yc, rfl⟩ := row_form hro
      obtain ⟨g', rfl, hc'⟩ := row_cells hro rfl 0 z hz
      obtain ⟨r0, _⟩ := hc' _ (Below.refl _ _)
      simp only [Nat.zero_mul] at r0
      have f0 := row_store hro 0
      have hgl := hro.lt g' rfl
      have HGL := Lib.hid hgl.1
      clear hy hc hro hne hz hc' hgl
      go_wp2_with fail
      go_roundw
      case rel => exact ⟨k + 1, by omega, by go_num, HBO.out.setCell HGL.out _, fun h => absurd h (by omega)⟩
      case measure => simp [intOf]; omega
    · clear hw hb
      obtain ⟨k0, k1, k2, k3⟩ := HPB3.out _ HBO.out
      go_wp2_with fail
      refine (getC wo S3 c m L' 9 _ sB fB p.t p.t (HC3.out.later HBO.out) (by decide) (by decide) (by rw [HLK.out]; split <;> simp)).mono ?_
      rintro e w5 ⟨v5, b5, rfl, hbase5, hr5, hb5⟩
      rw [HLK.out, one_rng] at hr5
      obtain ⟨lz, hlz⟩ : ∃ l, (if putA p = 0 then [p] else []) = l := ⟨_, rfl⟩
      have hlz1 : lz.length ≤ 1 := by rw [← hlz]; split <;> simp
      rw [hlz] at hr5
      obtain ⟨n5, hn5⟩ : ∃ n, lz.length = n := ⟨_, rfl⟩
      rw [hn5] at hr5 hlz1
      obtain ⟨a5, c5, rfl⟩ := row_form hr5
      have HR5 := Lib.hid (row_cells hr5 hn5)
      have HRO5 := Lib.hid hr5
      have HN5 := Lib.hid hn5
      have HB5 := Lib.hid hb5
      have HLZ := Lib.hid hlz
      have HBS5 := Lib.hid hbase5
      clear k0 k1 k2 k3 hr5 hn5 hb5 hlz hbase5 hlt hkn hlen4
      go_wp2_with fail
      go_loopw [50] (fun i wr => InOne wo w5 n5 i wr) (fun i _ => n5 - (intOf i).toNat)
      case atStart => exact ⟨0, Nat.zero_le _, rfl, HB5.out, fun _ => rfl⟩
      case round =>
        rename World => wi
        obtain ⟨j, hjn, rfl, hbi, hwi⟩ := hrel
        have HBI := Lib.hid hbi
        by_cases hlt : j < n5
        · have hw' : wi = w5 := hwi (by omega)
          subst hw'
          clear hwi hbi
          obtain ⟨z, hz⟩ : ∃ z, lz[j]? = some z := ⟨_, List.getElem?_eq_getElem (by rw [HN5.out]; exact hlt)⟩
          obtain ⟨g', rfl, hc'⟩ := HR5.out j z hz
          obtain ⟨_, _, r2, _⟩ := hc' _ (Below.refl _ _)
          have f2 := row_store HRO5.out (j * 4 + 2)
          have hgl := HRO5.out.lt g' rfl
          have HGL := Lib.hid (Nat.le_trans HBS5.out hgl.1)
          clear hz hc' hgl
          go_wp2_with fail
          go_roundw
          case rel => exact ⟨j + 1, by omega, by go_num, HBI.out.setCell HGL.out _, fun h => absurd h (by omega)⟩
          case measure => simp [intOf]; omega
        · clear hwi hbi
          have HB6 := Lib.hid (HBO.out.trans (HBI.out.mono HBO.out.size))
          obtain ⟨k0, k1, k2, k3⟩ := HPB3.out _ HB6.out
          go_wp2_with fail
          refine (getC wi S3 c m L' 9 _ sB fB p.t p.t (HC3.out.later HB6.out) (by decide) (by decide) (by rw [HLK.out]; split <;> simp)).mono ?_
          rintro e w7 ⟨v7, b7, rfl, _, hr7, hb7⟩
          rw [HLK.out, one_rng] at hr7
          have HB7 := Lib.hid (HB6.out.trans (hb7.mono HB6.out.size))
          clear k0 k1 k2 k3 hb7 hlt hjn
          by_cases he : ee = 0
          · subst he
            rw [if_pos HEE.out] at hr7
            obtain ⟨a7, c7, rfl⟩ := row_form hr7
            obtain ⟨g7, rfl, hc7⟩ := row_cells hr7 rfl 0 p rfl
            simp only [Nat.zero_mul, Nat.zero_add] at hc7
            have HC7 := Lib.hid hc7
            obtain ⟨k0, k1, k2, k3⟩ := HPB3.out _ HB7.out
            obtain ⟨z0, z1, z2, z3⟩ := hc7 _ (Below.refl _ _)
            have HD7 := Lib.hid (HB7.out.trans (((Below.refl w7.heap.size w7).drew).mono HB7.out.size))
            clear hr7 hc7
            go_wp2_with fail
            go_region_held3 (fun w' => w'.cell? ⟨pb, 0, none⟩ = some (.int .i64 p.t) ∧ w'.cell? ⟨pb, 1, none⟩ = some (.int .i64 p.k) ∧ w'.cell? ⟨pb, 2, none⟩ = some (.int .u64 p.b) ∧ w'.cell? ⟨pb, 3, none⟩ = some (.string p.s) ∧ w'.cell? ⟨g7, 0, none⟩ = some (.int .i64 p.t) ∧ w'.cell? ⟨g7, 1, none⟩ = some (.int .i64 p.k) ∧ w'.cell? ⟨g7, 2, none⟩ = some (.int .u64 p.b) ∧ w'.cell? ⟨g7, 3, none⟩ = some (.string p.s)) (first | exact HS8.out | go_keep)
              (first
                | (go_at_call 10; refine (putN10 _ sB fB p).mono ?_; rintro e w8 ⟨rfl, hb8⟩; have HB8 := Lib.hid (((Below.refl w7.heap.size w7).drew).trans hb8); have HS8 := Lib.hid (by obtain ⟨s0, s1, s2, s3⟩ := HPB3.out _ (HB7.out.trans (HB8.out.mono HB7.out.size)); obtain ⟨t0, t1, t2, t3⟩ := HC7.out _ HB8.out; exact (⟨s0, s1, s2, s3, t0, t1, t2, t3⟩ : w8.cell? ⟨pb, 0, none⟩ = some (.int .i64 p.t) ∧ w8.cell? ⟨pb, 1, none⟩ = some (.int .i64 p.k) ∧ w8.cell? ⟨pb, 2, none⟩ = some (.int .u64 p.b) ∧ w8.cell? ⟨pb, 3, none⟩ = some (.string p.s) ∧ w8.cell? ⟨g7, 0, none⟩ = some (.int .i64 p.t) ∧ w8.cell? ⟨g7, 1, none⟩ = some (.int .i64 p.k) ∧ w8.cell? ⟨g7, 2, none⟩ = some (.int .u64 p.b) ∧ w8.cell? ⟨g7, 3, none⟩ = some (.string p.s))); clear hb8)
                | (go_at_call 11; refine (getN11 _ sB fB _ _).mono ?_; rintro e w9 ⟨rfl, rfl⟩)
                | (go_at_call 21; refine (takeN21 _ sB fB _ _).mono ?_; rintro e w9 ⟨rfl, rfl⟩)
                | (go_at_call 19; refine (colsN19 _).mono ?_; rintro e w9 ⟨rfl, rfl⟩)
                | (go_at_call 13; refine (sizeN13 _).mono ?_; rintro e w9 ⟨rfl, rfl⟩))
            go_wp2_with fail
            go_ret
            exact ⟨rfl, HBW.out.trans ((HB7.out.trans (HB8.out.mono HB7.out.size)).mono HBW.out.size)⟩
          · skip
            have hne : (ee != 0) = true := by simp [he]
            have HD7 := Lib.hid (HB7.out.trans (((Below.refl w7.heap.size w7).drew).mono HB7.out.size))
            have hr7l : (if putA p = 0 then [p] else []) = ([] : List Pt) := by rw [if_neg (by rw [HEE.out]; exact he)]
            rw [hr7l] at hr7
            obtain ⟨a7, c7, rfl⟩ := row_form hr7
            obtain ⟨k0, k1, k2, k3⟩ := HPB3.out _ HB7.out
            clear hr7 hr7l he
            go_wp2_with fail
            refine wp_region_held_drew (S := (fun w' => w'.cell? ⟨pb, 0, none⟩ = some (.int .i64 p.t) ∧ w'.cell? ⟨pb, 1, none⟩ = some (.int .i64 p.k) ∧ w'.cell? ⟨pb, 2, none⟩ = some (.int .u64 p.b) ∧ w'.cell? ⟨pb, 3, none⟩ = some (.string p.s))) (by kernel_rfl) (HPB3.out _ HD7.out) (fun hHeld => ?_)
            refine take_d (i := 0) (v := ?_) (some 70) rfl (by kernel_rfl) (by kernel_rfl) (by kernel_rfl) (by kernel_rfl) (fun _ _ _ h => h) (Or.inl ⟨by kernel_rfl, ?_⟩) (by assumption) ?_
            rotate_left
            · (intro w hSw; (try dsimp only at hSw); go_simp; first | done | with_reducible rfl)
            try simp only [Act.put, List.setIfInBounds_toArray, List.set_cons_zero, List.set_cons_succ]
            refine take_d (i := 1) (v := ?_) (some 71) rfl (by kernel_rfl) (by kernel_rfl) (by kernel_rfl) (by kernel_rfl) (fun _ _ _ h => h) (Or.inl ⟨by kernel_rfl, ?_⟩) (by assumption) ?_
            rotate_left
            · (intro w hSw; (try dsimp only at hSw); go_simp; first | done | with_reducible rfl)
            try simp only [Act.put, List.setIfInBounds_toArray, List.set_cons_zero, List.set_cons_succ]
            refine wpAnyH_ready (rs := [2]) (by kernel_rfl) (by simp) ?_
            refine AllReadyH.cons (o := { dst := some 72, op := Op.call { callee := Callee.value (Operand.func 10), args := #[Operand.tmp 70, Operand.const (Value.string { data := #[115] }), Operand.const (Value.string { data := #[102] }), Operand.tmp 71], argTypes := #[25, 9, 9, 33] }, type := 27, pos := "law.go:115", after := #[{ on := 0, ground := Ground.data }, { on := 1, ground := Ground.data }], guard := none }) rfl (fun K hK => ?_) AllReadyH.nil
            go_simp
            go_at_call 10; refine (putN10 _ sB fB p).mono ?_; rintro e w8 ⟨rfl, hb8⟩; have HB8 := Lib.hid (((Below.refl w7.heap.size w7).drew).trans hb8); clear hb8
            go_wp2_with fail
            refine hK.out _ _ ?_ (fun hHeld => ?_)
            · exact HPB3.out _ (HB7.out.trans (HB8.out.mono HB7.out.size))
            clear hK K
            try simp only [Act.put, List.setIfInBounds_toArray, List.set_cons_zero, List.set_cons_succ]
            refine take_d (i := 3) (v := ?_) (some 73) rfl (by kernel_rfl) (by kernel_rfl) (by kernel_rfl) (by kernel_rfl) (fun _ _ _ h => h) (Or.inl ⟨by kernel_rfl, ?_⟩) (by assumption) ?_
            rotate_left
            · (intro w hSw; (try dsimp only at hSw); go_simp; first | done | with_reducible rfl)
            try simp only [Act.put, List.setIfInBounds_toArray, List.set_cons_zero, List.set_cons_succ]
            refine take_d (i := 4) (v := ?_) (some 74) rfl (by kernel_rfl) (by kernel_rfl) (by kernel_rfl) (by kernel_rfl) (fun _ _ _ h => h) (Or.inl ⟨by kernel_rfl, ?_⟩) (by assumption) ?_
            rotate_left
            · (intro w hSw; (try dsimp only at hSw); go_simp; first | done | with_reducible rfl)
            try simp only [Act.put, List.setIfInBounds_toArray, List.set_cons_zero, List.set_cons_succ]
            refine take_d (i := 5) (v := ?_) (some 75) rfl (by kernel_rfl) (by kernel_rfl) (by kernel_rfl) (by kernel_rfl) (fun _ _ _ h => h) (Or.inl ⟨by kernel_rfl, ?_⟩) (by assumption) ?_
            rotate_left
            · (intro w hSw; (try dsimp only at hSw); go_simp; first | done | with_reducible rfl)
            try simp only [Act.put, List.setIfInBounds_toArray, List.set_cons_zero, List.set_cons_succ]
            refine take_d (i := 6) (v := ?_) (some 76) rfl (by kernel_rfl) (by kernel_rfl) (by kernel_rfl) (by kernel_rfl) (fun _ _ _ h => h) (Or.inl ⟨by kernel_rfl, ?_⟩) (by assumption) ?_
            rotate_left
            · (intro w hSw; (try dsimp only at hSw); go_simp; first | done | with_reducible rfl)
            try simp only [Act.put, List.setIfInBounds_toArray, List.set_cons_zero, List.set_cons_succ]
            refine take_d (i := 7) (v := ?_) (some 77) rfl (by kernel_rfl) (by kernel_rfl) (by kernel_rfl) (by kernel_rfl) (fun _ _ _ h => h) (Or.inl ⟨by kernel_rfl, ?_⟩) (by assumption) ?_
            rotate_left
            · (intro w hSw; (try dsimp only at hSw); go_simp; first | done | with_reducible rfl)
            try simp only [Act.put, List.setIfInBounds_toArray, List.set_cons_zero, List.set_cons_succ]
            refine wpAnyH_ready (rs := [8]) (by kernel_rfl) (by simp) ?_
            refine AllReadyH.cons (o := { dst := some 78, op := Op.call { callee := Callee.value (Operand.func 11), args := #[Operand.tmp 75, Operand.const (Value.string { data := #[115] }), Operand.const (Value.string { data := #[102] }), Operand.tmp 76, Operand.tmp 77], argTypes := #[25, 9, 9, 2, 2] }, type := 23, pos := "law.go:115", after := #[{ on := 5, ground := Ground.data }, { on := 6, ground := Ground.data }, { on := 7, ground := Ground.data }, { on := 4, ground := Ground.chain }, { on := 4, ground := Ground.guard }], guard := some (4, true) }) rfl (fun K hK => ?_) AllReadyH.nil
            go_simp
            go_at_call 11; refine (getN11 _ sB fB _ _).mono ?_; rintro e w9 ⟨rfl, rfl⟩
            go_wp2_with fail
            refine hK.out _ _ ?_ (fun hHeld => ?_)
            · assumption
            clear hK K
            try simp only [Act.put, List.setIfInBounds_toArray, List.set_cons_zero, List.set_cons_succ]
            refine wpAnyH_ready (rs := [9]) (by kernel_rfl) (by simp) ?_
            refine AllReadyH.cons (o := { dst := some 79, op := Op.call { callee := Callee.builtin Builtin.len, args := #[Operand.tmp 78], argTypes := #[23] }, type := 3, pos := "law.go:115", after := #[{ on := 8, ground := Ground.data }, { on := 4, ground := Ground.guard }], guard := some (4, true) }) rfl (fun K hK => ?_) AllReadyH.nil
            go_simp
            refine hK.out _ _ ?_ (fun hHeld => ?_)
            · assumption
            clear hK K
            try simp only [Act.put, List.setIfInBounds_toArray, List.set_cons_zero, List.set_cons_succ]
            refine take_d (i := 10) (v := ?_) (some 80) rfl (by kernel_rfl) (by kernel_rfl) (by kernel_rfl) (by kernel_rfl) (fun _ _ _ h => h) (Or.inl ⟨by kernel_rfl, ?_⟩) (by assumption) ?_
            rotate_left
            · (intro w hSw; (try dsimp only at hSw); go_simp; first | done | with_reducible rfl)
            try simp only [Act.put, List.setIfInBounds_toArray, List.set_cons_zero, List.set_cons_succ]
            refine take_d (i := 11) (v := ?_) (some 81) rfl (by kernel_rfl) (by kernel_rfl) (by kernel_rfl) (by kernel_rfl) (fun _ _ _ h => h) (Or.inl ⟨by kernel_rfl, ?_⟩) (by assumption) ?_
            rotate_left
            · (intro w hSw; (try dsimp only at hSw); go_simp; first | done | with_reducible rfl)
            try simp only [Act.put, List.setIfInBounds_toArray, List.set_cons_zero, List.set_cons_succ]
            refine take_d (i := 12) (v := ?_) (some 82) rfl (by kernel_rfl) (by kernel_rfl) (by kernel_rfl) (by kernel_rfl) (fun _ _ _ h => h) (Or.inl ⟨by kernel_rfl, ?_⟩) (by assumption) ?_
            rotate_left
            · (intro w hSw; (try dsimp only at hSw); go_simp; first | done | with_reducible rfl)
            try simp only [Act.put, List.setIfInBounds_toArray, List.set_cons_zero, List.set_cons_succ]
            refine take_d (i := 13) (v := ?_) (some 83) rfl (by kernel_rfl) (by kernel_rfl) (by kernel_rfl) (by kernel_rfl) (fun _ _ _ h => h) (Or.inl ⟨by kernel_rfl, ?_⟩) (by assumption) ?_
            rotate_left
            · (intro w hSw; (try dsimp only at hSw); go_simp; first | done | with_reducible rfl)
            try simp only [Act.put, List.setIfInBounds_toArray, List.set_cons_zero, List.set_cons_succ]
            refine take_d (i := 14) (v := ?_) (some 84) rfl (by kernel_rfl) (by kernel_rfl) (by kernel_rfl) (by kernel_rfl) (fun _ _ _ h => h) (Or.inl ⟨by kernel_rfl, ?_⟩) (by assumption) ?_
            rotate_left
            · (intro w hSw; (try dsimp only at hSw); go_simp; first | done | with_reducible rfl)
            try simp only [Act.put, List.setIfInBounds_toArray, List.set_cons_zero, List.set_cons_succ]
            refine take_d (i := 15) (v := ?_) (some 85) rfl (by kernel_rfl) (by kernel_rfl) (by kernel_rfl) (by kernel_rfl) (fun _ _ _ h => h) (Or.inl ⟨by kernel_rfl, ?_⟩) (by assumption) ?_
            rotate_left
            · (intro w hSw; (try dsimp only at hSw); go_simp; first | done | with_reducible rfl)
            try simp only [Act.put, List.setIfInBounds_toArray, List.set_cons_zero, List.set_cons_succ]
            refine wpAnyH_ready (rs := [16]) (by kernel_rfl) (by simp) ?_
            refine AllReadyH.cons (o := { dst := some 86, op := Op.call { callee := Callee.value (Operand.func 21), args := #[Operand.tmp 83, Operand.const (Value.string { data := #[115] }), Operand.const (Value.string { data := #[102] }), Operand.tmp 84, Operand.tmp 85], argTypes := #[25, 9, 9, 2, 2] }, type := 3, pos := "law.go:115", after := #[{ on := 13, ground := Ground.data }, { on := 14, ground := Ground.data }, { on := 15, ground := Ground.data }, { on := 12, ground := Ground.chain }, { on := 12, ground := Ground.guard }], guard := some (12, true) }) rfl (fun K hK => ?_) AllReadyH.nil
            go_simp
            go_at_call 21; refine (takeN21 _ sB fB _ _).mono ?_; rintro e w9 ⟨rfl, rfl⟩
            go_wp2_with fail
            refine hK.out _ _ ?_ (fun hHeld => ?_)
            · assumption
            clear hK K
            try simp only [Act.put, List.setIfInBounds_toArray, List.set_cons_zero, List.set_cons_succ]
            refine take_d (i := 17) (v := ?_) (some 87) rfl (by kernel_rfl) (by kernel_rfl) (by kernel_rfl) (by kernel_rfl) (fun _ _ _ h => h) (Or.inl ⟨by kernel_rfl, ?_⟩) (by assumption) ?_
            rotate_left
            · (intro w hSw; (try dsimp only at hSw); go_simp; first | done | with_reducible rfl)
            try simp only [Act.put, List.setIfInBounds_toArray, List.set_cons_zero, List.set_cons_succ]
            refine take_d (i := 18) (v := ?_) (some 88) rfl (by kernel_rfl) (by kernel_rfl) (by kernel_rfl) (by kernel_rfl) (fun _ _ _ h => h) (Or.inl ⟨by kernel_rfl, ?_⟩) (by assumption) ?_
            rotate_left
            · (intro w hSw; (try dsimp only at hSw); go_simp; first | done | with_reducible rfl)
            try simp only [Act.put, List.setIfInBounds_toArray, List.set_cons_zero, List.set_cons_succ]
            refine take_d (i := 19) (v := ?_) (some 89) rfl (by kernel_rfl) (by kernel_rfl) (by kernel_rfl) (by kernel_rfl) (fun _ _ _ h => h) (Or.inl ⟨by kernel_rfl, ?_⟩) (by assumption) ?_
            rotate_left
            · (intro w hSw; (try dsimp only at hSw); go_simp; first | done | with_reducible rfl)
            try simp only [Act.put, List.setIfInBounds_toArray, List.set_cons_zero, List.set_cons_succ]
            refine take_d (i := 20) (v := ?_) (some 90) rfl (by kernel_rfl) (by kernel_rfl) (by kernel_rfl) (by kernel_rfl) (fun _ _ _ h => h) (Or.inl ⟨by kernel_rfl, ?_⟩) (by assumption) ?_
            rotate_left
            · (intro w hSw; (try dsimp only at hSw); go_simp; first | done | with_reducible rfl)
            try simp only [Act.put, List.setIfInBounds_toArray, List.set_cons_zero, List.set_cons_succ]
            refine wpAnyH_ready (rs := [21]) (by kernel_rfl) (by simp) ?_
            refine AllReadyH.cons (o := { dst := some 91, op := Op.call { callee := Callee.value (Operand.func 19), args := #[Operand.tmp 90], argTypes := #[25] }, type := 46, pos := "law.go:115", after := #[{ on := 20, ground := Ground.data }, { on := 19, ground := Ground.chain }, { on := 19, ground := Ground.guard }], guard := some (19, true) }) rfl (fun K hK => ?_) AllReadyH.nil
            go_simp
            go_at_call 19; refine (colsN19 _).mono ?_; rintro e w9 ⟨rfl, rfl⟩
            go_wp2_with fail
            refine hK.out _ _ ?_ (fun hHeld => ?_)
            · assumption
            clear hK K
            try simp only [Act.put, List.setIfInBounds_toArray, List.set_cons_zero, List.set_cons_succ]
            refine wpAnyH_ready (rs := [22]) (by kernel_rfl) (by simp) ?_
            refine AllReadyH.cons (o := { dst := some 92, op := Op.call { callee := Callee.builtin Builtin.len, args := #[Operand.tmp 91], argTypes := #[46] }, type := 3, pos := "law.go:115", after := #[{ on := 21, ground := Ground.data }, { on := 19, ground := Ground.guard }], guard := some (19, true) }) rfl (fun K hK => ?_) AllReadyH.nil
            go_simp
            refine hK.out _ _ ?_ (fun hHeld => ?_)
            · assumption
            clear hK K
            try simp only [Act.put, List.setIfInBounds_toArray, List.set_cons_zero, List.set_cons_succ]
            refine take_d (i := 23) (v := ?_) (some 93) rfl (by kernel_rfl) (by kernel_rfl) (by kernel_rfl) (by kernel_rfl) (fun _ _ _ h => h) (Or.inl ⟨by kernel_rfl, ?_⟩) (by assumption) ?_
            rotate_left
            · (intro w hSw; (try dsimp only at hSw); go_simp; first | done | with_reducible rfl)
            try simp only [Act.put, List.setIfInBounds_toArray, List.set_cons_zero, List.set_cons_succ]
            refine take_d (i := 24) (v := ?_) (some 94) rfl (by kernel_rfl) (by kernel_rfl) (by kernel_rfl) (by kernel_rfl) (fun _ _ _ h => h) (Or.inl ⟨by kernel_rfl, ?_⟩) (by assumption) ?_
            rotate_left
            · (intro w hSw; (try dsimp only at hSw); go_simp; first | done | with_reducible rfl)
            try simp only [Act.put, List.setIfInBounds_toArray, List.set_cons_zero, List.set_cons_succ]
            refine take_d (i := 25) (v := ?_) (some 95) rfl (by kernel_rfl) (by kernel_rfl) (by kernel_rfl) (by kernel_rfl) (fun _ _ _ h => h) (Or.inl ⟨by kernel_rfl, ?_⟩) (by assumption) ?_
            rotate_left
            · (intro w hSw; (try dsimp only at hSw); go_simp; first | done | with_reducible rfl)
            try simp only [Act.put, List.setIfInBounds_toArray, List.set_cons_zero, List.set_cons_succ]
            refine take_d (i := 26) (v := ?_) (some 96) rfl (by kernel_rfl) (by kernel_rfl) (by kernel_rfl) (by kernel_rfl) (fun _ _ _ h => h) (Or.inl ⟨by kernel_rfl, ?_⟩) (by assumption) ?_
            rotate_left
            · (intro w hSw; (try dsimp only at hSw); go_simp; first | done | with_reducible rfl)
            try simp only [Act.put, List.setIfInBounds_toArray, List.set_cons_zero, List.set_cons_succ]
            refine wpAnyH_ready (rs := [27]) (by kernel_rfl) (by simp) ?_
            refine AllReadyH.cons (o := { dst := some 97, op := Op.call { callee := Callee.value (Operand.func 13), args := #[Operand.tmp 96], argTypes := #[25] }, type := 3, pos := "law.go:115", after := #[{ on := 26, ground := Ground.data }, { on := 25, ground := Ground.chain }, { on := 25, ground := Ground.guard }], guard := some (25, true) }) rfl (fun K hK => ?_) AllReadyH.nil
            go_simp
            go_at_call 13; refine (sizeN13 _).mono ?_; rintro e w9 ⟨rfl, rfl⟩
            go_wp2_with fail
            refine hK.out _ _ ?_ (fun hHeld => ?_)
            · assumption
            clear hK K
            try simp only [Act.put, List.setIfInBounds_toArray, List.set_cons_zero, List.set_cons_succ]
            refine take_d (i := 28) (v := ?_) (some 98) rfl (by kernel_rfl) (by kernel_rfl) (by kernel_rfl) (by kernel_rfl) (fun _ _ _ h => h) (Or.inl ⟨by kernel_rfl, ?_⟩) (by assumption) ?_
            rotate_left
            · (intro w hSw; (try dsimp only at hSw); go_simp; first | done | with_reducible rfl)
            try simp only [Act.put, List.setIfInBounds_toArray, List.set_cons_zero, List.set_cons_succ]
            refine take_d (i := 29) (v := ?_) (some 99) rfl (by kernel_rfl) (by kernel_rfl) (by kernel_rfl) (by kernel_rfl) (fun _ _ _ h => h) (Or.inl ⟨by kernel_rfl, ?_⟩) (by assumption) ?_
            rotate_left
            · (intro w hSw; (try dsimp only at hSw); go_simp; first | done | with_reducible rfl)
            try simp only [Act.put, List.setIfInBounds_toArray, List.set_cons_zero, List.set_cons_succ]
            refine take_d (i := 30) (v := ?_) (some 100) rfl (by kernel_rfl) (by kernel_rfl) (by kernel_rfl) (by kernel_rfl) (fun _ _ _ h => h) (Or.inl ⟨by kernel_rfl, ?_⟩) (by assumption) ?_
            rotate_left
            · (intro w hSw; (try dsimp only at hSw); go_simp; first | done | with_reducible rfl)
            try simp only [Act.put, List.setIfInBounds_toArray, List.set_cons_zero, List.set_cons_succ]
            refine take_d (i := 31) (v := ?_) (some 101) rfl (by kernel_rfl) (by kernel_rfl) (by kernel_rfl) (by kernel_rfl) (fun _ _ _ h => h) (Or.inl ⟨by kernel_rfl, ?_⟩) (by assumption) ?_
            rotate_left
            · (intro w hSw; (try dsimp only at hSw); go_simp; first | done | with_reducible rfl)
            try simp only [Act.put, List.setIfInBounds_toArray, List.set_cons_zero, List.set_cons_succ]
            refine take_d (i := 32) (v := ?_) (some 102) rfl (by kernel_rfl) (by kernel_rfl) (by kernel_rfl) (by kernel_rfl) (fun _ _ _ h => h) (Or.inl ⟨by kernel_rfl, ?_⟩) (by assumption) ?_
            rotate_left
            · (intro w hSw; (try dsimp only at hSw); go_simp; first | done | with_reducible rfl)
            try simp only [Act.put, List.setIfInBounds_toArray, List.set_cons_zero, List.set_cons_succ]
            refine take_d (i := 33) (v := ?_) (some 103) rfl (by kernel_rfl) (by kernel_rfl) (by kernel_rfl) (by kernel_rfl) (fun _ _ _ h => h) (Or.inl ⟨by kernel_rfl, ?_⟩) (by assumption) ?_
            rotate_left
            · (intro w hSw; (try dsimp only at hSw); go_simp; first | done | with_reducible rfl)
            try simp only [Act.put, List.setIfInBounds_toArray, List.set_cons_zero, List.set_cons_succ]
            refine take_d (i := 34) (v := undef) (some 104) rfl (by kernel_rfl) (by kernel_rfl) (by kernel_rfl) (by kernel_rfl) (fun _ _ _ h => h) (Or.inr ⟨by kernel_rfl, rfl⟩) (by assumption) ?_
            try simp only [Act.put, List.setIfInBounds_toArray, List.set_cons_zero, List.set_cons_succ]
            refine take_d (i := 35) (v := undef) (some 105) rfl (by kernel_rfl) (by kernel_rfl) (by kernel_rfl) (by kernel_rfl) (fun _ _ _ h => h) (Or.inr ⟨by kernel_rfl, rfl⟩) (by assumption) ?_
            try simp only [Act.put, List.setIfInBounds_toArray, List.set_cons_zero, List.set_cons_succ]
            refine take_d (i := 36) (v := undef) (some 106) rfl (by kernel_rfl) (by kernel_rfl) (by kernel_rfl) (by kernel_rfl) (fun _ _ _ h => h) (Or.inr ⟨by kernel_rfl, rfl⟩) (by assumption) ?_
            try simp only [Act.put, List.setIfInBounds_toArray, List.set_cons_zero, List.set_cons_succ]
            refine take_d (i := 37) (v := undef) (some 107) rfl (by kernel_rfl) (by kernel_rfl) (by kernel_rfl) (by kernel_rfl) (fun _ _ _ h => h) (Or.inr ⟨by kernel_rfl, rfl⟩) (by assumption) ?_
            try simp only [Act.put, List.setIfInBounds_toArray, List.set_cons_zero, List.set_cons_succ]
            refine take_d (i := 38) (v := undef) (some 108) rfl (by kernel_rfl) (by kernel_rfl) (by kernel_rfl) (by kernel_rfl) (fun _ _ _ h => h) (Or.inr ⟨by kernel_rfl, rfl⟩) (by assumption) ?_
            try simp only [Act.put, List.setIfInBounds_toArray, List.set_cons_zero, List.set_cons_succ]
            refine take_d (i := 39) (v := undef) (some 109) rfl (by kernel_rfl) (by kernel_rfl) (by kernel_rfl) (by kernel_rfl) (fun _ _ _ h => h) (Or.inr ⟨by kernel_rfl, rfl⟩) (by assumption) ?_
            try simp only [Act.put, List.setIfInBounds_toArray, List.set_cons_zero, List.set_cons_succ]
            refine take_d (i := 40) (v := undef) (some 110) rfl (by kernel_rfl) (by kernel_rfl) (by kernel_rfl) (by kernel_rfl) (fun _ _ _ h => h) (Or.inr ⟨by kernel_rfl, rfl⟩) (by assumption) ?_
            try simp only [Act.put, List.setIfInBounds_toArray, List.set_cons_zero, List.set_cons_succ]
            refine take_d (i := 41) (v := undef) (some 111) rfl (by kernel_rfl) (by kernel_rfl) (by kernel_rfl) (by kernel_rfl) (fun _ _ _ h => h) (Or.inr ⟨by kernel_rfl, rfl⟩) (by assumption) ?_
            try simp only [Act.put, List.setIfInBounds_toArray, List.set_cons_zero, List.set_cons_succ]
            refine take_d (i := 42) (v := undef) (some 112) rfl (by kernel_rfl) (by kernel_rfl) (by kernel_rfl) (by kernel_rfl) (fun _ _ _ h => h) (Or.inr ⟨by kernel_rfl, rfl⟩) (by assumption) ?_
            try simp only [Act.put, List.setIfInBounds_toArray, List.set_cons_zero, List.set_cons_succ]
            refine take_d (i := 43) (v := undef) (some 113) rfl (by kernel_rfl) (by kernel_rfl) (by kernel_rfl) (by kernel_rfl) (fun _ _ _ h => h) (Or.inr ⟨by kernel_rfl, rfl⟩) (by assumption) ?_
            try simp only [Act.put, List.setIfInBounds_toArray, List.set_cons_zero, List.set_cons_succ]
            refine take_d (i := 44) (v := ?_) (some 114) rfl (by kernel_rfl) (by kernel_rfl) (by kernel_rfl) (by kernel_rfl) (fun _ _ _ h => h) (Or.inl ⟨by kernel_rfl, ?_⟩) (by assumption) ?_
            rotate_left
            · (intro w hSw; (try dsimp only at hSw); go_simp; first | done | with_reducible rfl)
            try simp only [Act.put, List.setIfInBounds_toArray, List.set_cons_zero, List.set_cons_succ]
            refine take_d (i := 45) (v := ?_) (some 115) rfl (by kernel_rfl) (by kernel_rfl) (by kernel_rfl) (by kernel_rfl) (fun _ _ _ h => h) (Or.inl ⟨by kernel_rfl, ?_⟩) (by assumption) ?_
            rotate_left
            · (intro w hSw; (try dsimp only at hSw); go_simp; first | done | with_reducible rfl)
            try simp only [Act.put, List.setIfInBounds_toArray, List.set_cons_zero, List.set_cons_succ]
            refine take_d (i := 46) (v := ?_) (some 6) rfl (by kernel_rfl) (by kernel_rfl) (by kernel_rfl) (by kernel_rfl) (fun _ _ _ h => h) (Or.inl ⟨by kernel_rfl, ?_⟩) (by assumption) ?_
            rotate_left
            · (intro w hSw; (try dsimp only at hSw); go_simp; first | done | with_reducible rfl)
            try simp only [Act.put, List.setIfInBounds_toArray, List.set_cons_zero, List.set_cons_succ]
            refine wpAnyH_done (by kernel_rfl) ?_ _
            clear k0 k1 k2 k3
            go_wp2_with fail
            go_ret
            exact ⟨rfl, HBW.out.trans ((HB7.out.trans (HB8.out.mono HB7.out.size)).mono HBW.out.size)⟩
end Go.Proofs.Ytfhdaihladgchaa
