/- Several texts of this proof, laid together. Conditions: as each says. -/
import Derived.Test.YtagiddbfhlokcaaGreatDoorMBS
/- The lines' rows, by the program: the walk. Conditions: the text's length; the readers of values. -/
namespace Go.Proofs.YtagiddbfhlokcaaGreatDoor.Ser
open Go.RowKit Go.Sort
set_option maxRecDepth 100000
theorem split76 (t : List UInt8) (mx : Int) (w : World) (ht : t.length ≤ 1073741824) (h4 : w.cell? ⟨4, 0, none⟩ = some (.int .i64 mx)) :
    Calls Tryz.prog 76 #[.string (bs t), .string ⟨#[10]⟩] w fun e w' => e = .returned (.slice (some ⟨w.heap.size, 0, none⟩) (sp t).length (sp t).length) ∧ w' = w.alloc (.cells (strs (sp t)).toArray 9) := by
  have e1 : (Lib.splitB ⟨#[10]⟩ 0 (Lib.countB (bs t) ⟨#[10]⟩) (bs t)).map (·.data.toList) = sp t := by
    rw [Lib.splitB_data]
    show Lib.splitK [10] 0 (Lib.count (bs t).data.toList [10]) (bs t).data.toList = _
    rw [bs_list]
    exact split_sp t
  have e2 : Lib.countB (bs t) ⟨#[10]⟩ + 1 = (sp t).length := by
    rw [← e1, List.length_map, Lib.splitB_all _ (by decide) 0 _ _ rfl]
  have e3 : (Lib.splitB ⟨#[10]⟩ 0 (Lib.countB (bs t) ⟨#[10]⟩) (bs t)).map Value.string = strs (sp t) := by
    rw [← e1]
    unfold strs
    rw [List.map_map]
    apply List.map_congr_left
    intro a _
    show Value.string a = Value.string (bs a.data.toList)
    rw [← bs_eta]
  have := Tryz.strings_Split (bs t) ⟨#[10]⟩ mx w (by rw [bs_size]; omega) h4 (by decide)
  rw [e2, e3] at this
  exact this
theorem trim77 (l : List UInt8) (w : World) (hl : l.length ≤ 1073741824) : Calls Tryz.prog 77 #[.string (bs l), .string ⟨#[10]⟩] w fun e w' => e = .returned (.string (bs (Lib.trimSuffix l [10]))) ∧ w = w' := by
  refine (Tryz.strings_TrimSuffix (bs l) ⟨#[10]⟩ w (by rw [bs_size]; omega)).mono ?_
  rintro e w' ⟨rfl, h⟩
  refine ⟨?_, h.symm⟩
  rw [bs_list]
  rfl
theorem trimS_len (l : List UInt8) : (Lib.trimSuffix l [10]).length ≤ l.length := by
  unfold Lib.trimSuffix
  split <;> simp
theorem info76 : (Tryz.prog.info? 76).map (fun i => (i.zero, i.size, i.bytes)) = some (some (.agg #[.int .i64 0, .string ⟨#[]⟩, .slice none 0 0, .slice none 0 0, .int .i64 0]), 5, 80) := by kernel_rfl
theorem info38 : (Tryz.prog.info? 38).map (fun i => (i.zero, i.size, i.bytes)) = some (some (.agg #[.int .i64 0, .int .i64 0]), 2, 16) := by kernel_rfl
theorem info27 : (Tryz.prog.info? 27).map (fun i => (i.zero, i.size, i.bytes)) = some (some (.agg #[.string ⟨#[]⟩, .slice none 0 0, .slice none 0 0, .int .i64 0]), 4, 72) := by kernel_rfl
def RowsPost (S : BS) (w : World) (e : Ending) (w' : World) : Prop :=
  Below w.heap.size w w' ∧ ∃ v7 v8 es, e = .returned (.tuple #[v7, v8]) ∧ w'.ownsRow w.heap.size 76 5 v7 es.length (es.flatMap encN) ∧ w'.ownsRow w.heap.size 38 2 v8 S.2.length (S.2.flatMap encX) ∧ Rows2 w' es S.1
structure RMem (es : List (Int × Ro)) (S : BS) (v7 v8 : Value) (B : Nat) (w wr : World) : Prop where
  o7 : wr.ownsRow B 76 5 v7 es.length (es.flatMap encN)
  o8 : wr.ownsRow B 38 2 v8 S.2.length (S.2.flatMap encX)
  rows : Rows2 wr es S.1
  a7 : ∀ x ∈ es, Away v7.ownBlock x.2
  a8 : ∀ x ∈ es, Away v8.ownBlock x.2
  ap : ∀ g, v7.ownBlock = some g → v8.ownBlock ≠ some g
  bel : Below B w wr
theorem RMem.later {es : List (Int × Ro)} {S : BS} {v7 v8 : Value} {B : Nat} {w wr w' : World} (h : RMem es S v7 v8 B w wr) (hB : B ≤ wr.heap.size) (hb : Below wr.heap.size wr w') : RMem es S v7 v8 B w w' :=
  ⟨own_later h.o7 hb, own_later h.o8 hb, h.rows.later hb, h.a7, h.a8, h.ap, h.bel.trans (hb.mono hB)⟩
theorem numb_slice {e : TypeId} {size : Nat} {w : World} {base : Nat} {v : Value} {n : Nat} {xs : List Value} (h : w.ownsRow base e size v n xs) : ∃ a cap, v = .slice a n cap := by
  rcases h.2 with ⟨rfl, hx⟩ | ⟨g, cap, cur, rfl, _⟩
  · subst hx; exact ⟨none, 0, rfl⟩
  · exact ⟨_, _, rfl⟩
/-- Behind an append to the faults. -/
theorem RMem.addF {es : List (Int × Ro)} {S : BS} {v7 v8 v1 : Value} {B : Nat} {w wr w' : World} {o : Obj} {p : Int × Int} {n : Nat} {xs : List Value} (h : RMem es S v7 v8 B w wr) (hB : B ≤ wr.heap.size) (hg : (wr.alloc o).grownBy w' v8.ownBlock)
    (hat : v1.ownBlock = v8.ownBlock ∨ v1.ownBlock = some (wr.alloc o).heap.size) (hown : w'.ownsRow B 38 2 v1 n xs) (hn : n = S.2.length + 1) (hx : xs = S.2.flatMap encX ++ encX p) : RMem es (S.1, S.2 ++ [p]) v7 v1 B w w' := by
  subst hn hx
  have hal : Below wr.heap.size wr (wr.alloc o) := (Below.refl _ _).alloc (Nat.le_refl _) o
  have hr := h.rows.later hal
  have hsz : wr.heap.size + 1 = (wr.alloc o).heap.size := by simp
  refine ⟨(own_later h.o7 hal).kept hg ?_, ?_, hr.kept hg h.a8, h.a7, ?_, ?_, (h.bel.alloc hB o).grown hg (by omega) (fun j hj => (h.o8.lt j hj).1)⟩
  · cases hv : v7.ownBlock with
    | none => exact .inl rfl
    | some g => exact .inr fun e => h.ap g hv e.symm
  · rw [List.length_append, List.flatMap_append]
    simpa using hown
  · rcases hat with h1 | h1
    · rw [h1]; exact h.a8
    · rw [h1]; exact hr.away (Nat.le_refl _)
  · intro g hv e
    rcases hat with h1 | h1
    · rw [h1] at e; exact h.ap g hv e
    · rw [h1] at e
      have := (h.o7.lt g hv).2
      injection e with e
      omega
/-- Behind an append to the rows. -/
theorem RMem.addR {es : List (Int × Ro)} {S : BS} {v7 v8 v1 : Value} {B : Nat} {w wr w' : World} {o : Obj} {x : Int × Ro} {y : Int × LR} {n : Nat} {xs : List Value} (h : RMem es S v7 v8 B w wr) (hB : B ≤ wr.heap.size) (hg : (wr.alloc o).grownBy w' v7.ownBlock)
    (hat : v1.ownBlock = v7.ownBlock ∨ v1.ownBlock = some (wr.alloc o).heap.size) (hown : w'.ownsRow B 76 5 v1 n xs) (hn : n = es.length + 1) (hx : xs = es.flatMap encN ++ encN x)
    (hxy : x.1 = y.1 ∧ RoIs wr x.2 y.2) (hx7 : Away v7.ownBlock x.2) (hx8 : Away v8.ownBlock x.2) : RMem (es ++ [x]) (S.1 ++ [y], S.2) v1 v8 B w w' := by
  subst hn hx
  have hal : Below wr.heap.size wr (wr.alloc o) := (Below.refl _ _).alloc (Nat.le_refl _) o
  have hr := (h.rows.later hal).snoc ⟨hxy.1, hxy.2.later hal⟩
  have hsz : wr.heap.size + 1 = (wr.alloc o).heap.size := by simp
  have m7 : ∀ z ∈ es ++ [x], Away v7.ownBlock z.2 := fun z hz => by
    rcases List.mem_append.1 hz with hz | hz
    · exact h.a7 z hz
    · simp at hz; subst hz; exact hx7
  have m8 : ∀ z ∈ es ++ [x], Away v8.ownBlock z.2 := fun z hz => by
    rcases List.mem_append.1 hz with hz | hz
    · exact h.a8 z hz
    · simp at hz; subst hz; exact hx8
  refine ⟨?_, (own_later h.o8 hal).kept hg ?_, hr.kept hg m7, ?_, m8, ?_, (h.bel.alloc hB o).grown hg (by omega) (fun j hj => (h.o7.lt j hj).1)⟩
  · rw [List.length_append, List.flatMap_append]
    simpa using hown
  · cases hv : v8.ownBlock with
    | none => exact .inl rfl
    | some g => exact .inr fun e => h.ap g e.symm hv
  · rcases hat with h1 | h1
    · rw [h1]; exact m7
    · rw [h1]; exact hr.away (Nat.le_refl _)
  · intro g hv e
    rcases hat with h1 | h1
    · rw [h1] at hv; exact h.ap g hv e
    · rw [h1] at hv
      have := (h.o8.lt g e).2
      injection hv with hv
      omega
def InRw (V : List UInt8 → Value × Int) (now : Int) (Ls : List (List UInt8)) (B : Nat) (w : World) (v7 v8 i : Value) (wr : World) : Prop :=
  ∃ (k : Nat) (es : List (Int × Ro)), i = .int .i64 k ∧ k ≤ Ls.length ∧ es.length ≤ k ∧ (bst V now Ls k).2.length ≤ k ∧ RMem es (bst V now Ls k) v7 v8 B w wr
end Go.Proofs.YtagiddbfhlokcaaGreatDoor.Ser
/- The lines' rows, by the program: the walk. Conditions: the text's length; the readers of values. -/
namespace Go.Proofs.YtagiddbfhlokcaaGreatDoor.Ser
open Go.RowKit Go.Sort
set_option maxRecDepth 100000
theorem strs_cell {w : World} {g : Nat} {L : List (List UInt8)} (h : w.heap[g]? = some (.cells (strs L).toArray 9 (0, 0))) {i : Nat} (hi : i < L.length) : w.cell? ⟨g, i, none⟩ = some (.string (bs (L.getD i []))) := by
  have := Lib.cell_of_heap h i
  rw [this]
  unfold strs
  simp [hi]
set_option maxHeartbeats 8000000 in
theorem rows31 {V : List UInt8 → Value × Int} (now : Int) (l : List UInt8) (hl : l.length ≤ 1073741824) (w : World) (HV : Readers V w) (mx : Int) (h4 : w.cell? ⟨4, 0, none⟩ = some (.int .i64 mx)) :
    Calls Tryz.prog 31 #[.string (bs l), .int .i64 now] w (RowsPost (batP V now (rln [] l)) w) := by
  obtain ⟨S, hS⟩ : ∃ S, batP V now (rln [] l) = S := ⟨_, rfl⟩
  rw [hS]
  obtain ⟨t, ht⟩ : ∃ t, Lib.trimSuffix l [10] = t := ⟨_, rfl⟩
  have htl : t.length ≤ l.length := by rw [← ht]; exact trimS_len l
  have M77 := Lib.hid (trim77 l w hl)
  rw [ht] at M77
  have M76 := Lib.hid (split76 t mx w (by omega) h4)
  have HVV := Lib.hid HV
  have HS := Lib.hid hS
  have HT := Lib.hid ht
  have HLL := Lib.hid (rln_len l [])
  clear hS ht HV h4
  go_enter Tryz.func31, Tryz.ntmps31
  go_wp2_with fail
  refine M77.out.mono ?_
  rintro e w' ⟨rfl, rfl⟩
  go_wp2_with fail
  refine M76.out.mono ?_
  rintro e w1 ⟨rfl, hw1⟩
  have hb1 : Below w.heap.size w w1 := by rw [hw1]; exact (Below.refl _ _).alloc (Nat.le_refl _) _
  have hk1 : w1.heap[w.heap.size]? = some (.cells (strs (sp t)).toArray 9 (0, 0)) := by rw [hw1]; exact newest _ _
  have HB1 := Lib.hid hb1
  have HK1 := Lib.hid hk1
  have hsz1 := lt_of_block hk1
  clear hw1 hb1 hk1
  rcases list_cases l with hl0 | ⟨c, r, hl0⟩
  · have he0 := bs_nil hl0
    have HSS : Hid (S = ([], [])) := Lib.hid (by rw [← HS.out, hl0]; rfl)
    clear hl0
    go_wp2_with fail
    go_loopw [7, 8, 25] (fun v7 v8 i wx => v7 = .slice none 0 0 ∧ v8 = .slice none 0 0 ∧ i = .int .i64 0 ∧ w1 = wx) (fun _ _ _ _ => 0)
    case atStart => exact ⟨rfl, rfl, rfl, rfl⟩
    case round =>
      obtain ⟨rfl, rfl, rfl, rfl⟩ := hrel
      go_wp2_with fail
      go_ret2
      rw [HSS.out]
      exact ⟨HB1.out, _, _, [], rfl, World.ownsRow_nil _ _ _ _, World.ownsRow_nil _ _ _ _, .nil⟩
  · obtain ⟨_, _, hem, _, _, _⟩ := bs_head hl0
    have HLS : Hid (rln [] l = sp t) := Lib.hid (by rw [← HT.out]; exact lines_eq (by rw [hl0]; simp))
    obtain ⟨N, hN⟩ : ∃ N, (sp t).length = N := ⟨_, rfl⟩
    have HNN := Lib.hid hN
    have hNl : N ≤ l.length + 1 := by
      have := HLL.out.2
      rw [HLS.out, hN] at this
      exact this
    rw [hN]
    clear hl0 hN
    by_cases h1000 : 1000 < N
    · have g1000 : (1000 : Int) < (N : Int) := by omega
      have HSS : Hid (S = ([], [(0, 4)])) := Lib.hid (by rw [← HS.out, HLS.out]; unfold batP; rw [HNN.out, if_pos h1000])
      clear h1000
      go_wp2_with fail
      go_ret2
      rw [HSS.out]
      refine ⟨HB1.out.alloc (by omega) _, _, _, [], rfl, World.ownsRow_nil _ _ _ _, ⟨rfl, .inr ⟨w1.heap.size, 1, _, rfl, by omega, newest _ _, Nat.le_refl _, by decide, rfl, rfl⟩⟩, .nil⟩
    · have g1000 : (N : Int) ≤ 1000 := by omega
      have HSS : Hid (S = bst V now (sp t) N) := Lib.hid (by rw [← HS.out, HLS.out]; unfold batP; rw [HNN.out, if_neg h1000])
      clear h1000
      go_wp2_with fail
      go_loopw [7, 8, 25] (fun v7 v8 i wx => InRw V now (sp t) w1.heap.size w1 v7 v8 i wx) (fun _ _ i _ => N - (intOf i).toNat)
      case atStart => exact ⟨0, [], rfl, Nat.zero_le _, Nat.le_refl _, Nat.le_refl _, World.ownsRow_nil _ _ _ _, World.ownsRow_nil _ _ _ _, .nil, (fun x hx => nomatch hx), (fun x hx => nomatch hx), (fun g hg => nomatch hg), Below.refl _ _⟩
      case round =>
        obtain ⟨k, es, rfl, hk, hes, hfl, hm⟩ := hrel
        rename World => wl
        rw [HNN.out] at hk
        have HM := Lib.hid hm
        obtain ⟨a7, c7, hv7⟩ := numb_slice hm.o7
        obtain ⟨a8, c8, hv8⟩ := numb_slice hm.o8
        subst hv7 hv8
        have hszl : w1.heap.size ≤ wl.heap.size := hm.bel.size
        obtain ⟨S0, hS0⟩ : ∃ S0, bst V now (sp t) k = S0 := ⟨_, rfl⟩
        rw [hS0] at hfl HM ⊢
        have HS0 := Lib.hid hS0
        obtain ⟨ne, hne⟩ : ∃ n, es.length = n := ⟨_, rfl⟩
        obtain ⟨nf, hnf⟩ : ∃ n, S0.2.length = n := ⟨_, rfl⟩
        rw [hne] at hes HM ⊢
        rw [hnf] at hfl HM ⊢
        have HNE := Lib.hid hne
        have HNF := Lib.hid hnf
        by_cases hlt : k < N
        · obtain ⟨p, hp⟩ : ∃ p, (sp t).getD k [] = p := ⟨_, rfl⟩
          have hc : wl.cell? ⟨w.heap.size, k, none⟩ = some (.string (bs p)) := by
            rw [← hp, hm.bel.cell (p := ⟨w.heap.size, k, none⟩) hsz1]
            exact strs_cell HK1.out (by rw [HNN.out]; exact hlt)
          have hpl : p.length ≤ l.length := by
            have hmem : p ∈ sp t := by
              rw [← hp, List.getD_eq_getElem?_getD, List.getElem?_eq_getElem (by rw [HNN.out]; exact hlt)]
              exact List.getElem_mem _
            have := HLL.out.1 p (by rw [HLS.out]; exact hmem)
            simpa using this
          have hkz : (k : Int) < (N : Int) := by omega
          have HLT := Lib.hid hlt
          have HBS : Hid (bst V now (sp t) (k + 1) = bstep V now S0 k p) := Lib.hid (by rw [bst, HS0.out, hp])
          have HQUIET : Hid (noise p = true → InRw V now (sp t) w1.heap.size w1 (.slice a7 ne c7) (.slice a8 nf c8) (.int .i64 ((k : Int) + 1)) wl) := Lib.hid (fun h => by
            have hb : bst V now (sp t) (k + 1) = S0 := by rw [HBS.out, bstep, if_pos h]
            refine ⟨k + 1, es, by go_num, by rw [HNN.out]; exact HLT.out, by rw [HNE.out]; omega, by rw [hb, HNF.out]; omega, ?_⟩
            rw [hb]; exact HM.out)
          clear hm hS0 hne hnf hp hlt hk
          rcases list_cases p with hpe | ⟨ch, r, hpe⟩
          · have he := bs_nil hpe
            have HQ := Lib.hid (HQUIET.out (by rw [hpe]; rfl))
            clear hpe
            go_wp2_with fail
            exact ⟨HQ.out, by simp [intOf]; omega⟩
          · obtain ⟨hlt0, hg, hem2, h0i, h1i, htl2⟩ := bs_head hpe
            by_cases h35 : ch = 35
            · have c35 : ((ch.toNat : Int) == 35) = true := byte_eq ch 35 (by decide) h35
              have HQ := Lib.hid (HQUIET.out (by rw [hpe, h35]; rfl))
              clear hpe h35 htl2
              go_wp2_with fail
              exact ⟨HQ.out, by simp [intOf]; omega⟩
            · have c35 : ((ch.toNat : Int) == 35) = false := byte_ne ch 35 (by decide) h35
              have HNO : Hid (noise p = false) := Lib.hid (by rw [hpe]; simp [noise, headIs, h35])
              have M15 := Lib.hid (parse15 p (by omega) now wl (HVV.out.later (HB1.out.trans (HM.out.bel.mono (by omega)))))
              obtain ⟨R, hR⟩ : ∃ R, lineP V now p = R := ⟨_, rfl⟩
              rw [hR] at M15
              have HRR := Lib.hid hR
              clear hpe h35 htl2 hR
              go_wp2_with fail
              refine M15.out.mono ?_
              intro e w2 hpost
              obtain ⟨hb2, ro, rfl, hro, hpast⟩ := rowPost_ro hpost
              obtain ⟨nm, ra, rn, rc, rfa, rm, rfc, rt⟩ := ro
              have HRO := Lib.hid hro
              have HPAST := Lib.hid hpast
              have hsz2 := hb2.size
              have HM2 := Lib.hid (HM.out.later hszl hb2)
              clear hpost hb2 hro hpast hc
              go_upto_region 13 with (fail)
              refine wp_gen (fun wx => Below w2.heap.size w2 wx ∧ wx.heap[w2.heap.size]? = some (.cells #[.string nm, .slice ra rn rc, .slice rfa rm rfc, .int .i64 rt] 27 (0, 0))) ⟨(Below.refl _ _).alloc (Nat.le_refl _) _, newest _ _⟩ ?_
              rintro w3 ⟨hb3, hk3⟩
              have HM3 := Lib.hid (HM2.out.later (by omega) hb3)
              have HRO3 := Lib.hid (HRO.out.later hb3)
              have hsz3 := hb3.size
              have HA7 : Hid (Away (Value.slice a7 ne c7).ownBlock ⟨nm, ra, rn, rc, rfa, rm, rfc, rt⟩) := Lib.hid (HPAST.out.away fun g hg => (HM.out.o7.lt g hg).2)
              have HA8 : Hid (Away (Value.slice a8 nf c8).ownBlock ⟨nm, ra, rn, rc, rfa, rm, rfc, rt⟩) := Lib.hid (HPAST.out.away fun g hg => (HM.out.o8.lt g hg).2)
              have ho7 := HM3.out.o7
              have ho8 := HM3.out.o8
              rw [HNE.out] at ho7
              rw [HNF.out] at ho8
              have HO7 := Lib.hid ho7
              have HO8 := Lib.hid ho8
              have hB3 : w1.heap.size ≤ w3.heap.size := by omega
              clear ho7 ho8
              by_cases her : R.1 = 0
              · have hk0 : w3.cell? ⟨w2.heap.size, 0, none⟩ = some (.string nm) := Lib.cell_of_heap hk3 0
                have hk1' : w3.cell? ⟨w2.heap.size, 1, none⟩ = some (.slice ra rn rc) := Lib.cell_of_heap hk3 1
                have hk2' : w3.cell? ⟨w2.heap.size, 2, none⟩ = some (.slice rfa rm rfc) := Lib.cell_of_heap hk3 2
                have hk3' : w3.cell? ⟨w2.heap.size, 3, none⟩ = some (.int .i64 rt) := Lib.cell_of_heap hk3 3
                have HBN : Hid (bst V now (sp t) (k + 1) = (S0.1 ++ [((k : Int) + 1, R)], S0.2)) := Lib.hid (by
                  rw [HBS.out, bstep, HNO.out, HRR.out]; simp [her])
                rw [her]
                obtain ⟨i0, hi, hz0, hz1, hz2⟩ := info_parts info76
                have HI := Lib.hid hi
                have HZ0 := Lib.hid hz0
                have HZ1 := Lib.hid hz1
                have HZ2 := Lib.hid hz2
                have HER := Lib.hid her
                clear hi hz0 hz1 hz2 hk3 hb3 her
                go_wp2_with ((at_builtin; go_must (refine wpList_append_own_at _ rfl (.tmp 45) (.tmp 50) 72 rfl w1.heap.size 76 i0 _ 5 80 Tryz.underlying72 HI.out HZ0.out HZ1.out HZ2.out rfl (by omega) _ ne _ rfl (World.ownsRow.alloc HO7.out _) ⟨w3.heap.size, 0, none⟩ 1 1 [.int .i64 ((k : Int) + 1), .string nm, .slice ra rn rc, .slice rfa rm rfc, .int .i64 rt] rfl rfl (World.news_of_block (cs := #[.int .i64 ((k : Int) + 1), .string nm, .slice ra rn rc, .slice rfa rm rfc, .int .i64 rt]) (t := 76) (fr := (0, 0)) (heap_alloc_new w3 _)) (by simp [Value.oneCell']) (by unfold maxLen; omega) (by omega) (by simp; omega) ?_); intro vn w6 hown1 hgrow1 hnn hat; clear hnn))
                have HMN := Lib.hid (HM3.out.addR (x := ((k : Int) + 1, ⟨nm, ra, rn, rc, rfa, rm, rfc, rt⟩)) (y := ((k : Int) + 1, R)) hB3 hgrow1 hat hown1 (by rw [HNE.out]) rfl ⟨rfl, HRO3.out⟩ HA7.out HA8.out)
                refine ⟨⟨k + 1, es ++ [((k : Int) + 1, ⟨nm, ra, rn, rc, rfa, rm, rfc, rt⟩)], by go_num, by rw [HNN.out]; exact HLT.out, ?_, ?_, ?_⟩, by simp [intOf]; omega⟩
                rotate_left 2
                · rw [HBN.out]; exact HMN.out
                · rw [List.length_append, HNE.out]; simp; omega
                · rw [HBN.out]; simp only; rw [HNF.out]; omega
              · have hern : (R.1 == 0) = false := by simpa using her
                have HBN : Hid (bst V now (sp t) (k + 1) = (S0.1, S0.2 ++ [((k : Int) + 1, R.1)])) := Lib.hid (by
                  rw [HBS.out, bstep, HNO.out, HRR.out]; simp [her])
                obtain ⟨er, her2⟩ : ∃ er, R.1 = er := ⟨_, rfl⟩
                rw [her2] at HBN hern ⊢
                obtain ⟨i0, hi, hz0, hz1, hz2⟩ := info_parts info38
                have HI := Lib.hid hi
                have HZ0 := Lib.hid hz0
                have HZ1 := Lib.hid hz1
                have HZ2 := Lib.hid hz2
                clear hi hz0 hz1 hz2 hk3 hb3 her her2
                go_wp2_with ((at_builtin; go_must (refine wpList_append_own_at _ rfl (.tmp 52) (.tmp 57) 34 rfl w1.heap.size 38 i0 _ 2 16 Tryz.underlying34 HI.out HZ0.out HZ1.out HZ2.out rfl (by omega) _ nf _ rfl (World.ownsRow.alloc HO8.out _) ⟨w3.heap.size, 0, none⟩ 1 1 [.int .i64 ((k : Int) + 1), .int .i64 er] rfl rfl (World.news_of_block (cs := #[.int .i64 ((k : Int) + 1), .int .i64 er]) (t := 38) (fr := (0, 0)) (heap_alloc_new w3 _)) (by simp [Value.oneCell']) (by unfold maxLen; omega) (by omega) (by simp; omega) ?_); intro vn w6 hown1 hgrow1 hnn hat; clear hnn))
                have HMN := Lib.hid (HM3.out.addF (p := ((k : Int) + 1, er)) hB3 hgrow1 hat hown1 (by rw [HNF.out]) rfl)
                refine ⟨⟨k + 1, es, by go_num, by rw [HNN.out]; exact HLT.out, ?_, ?_, ?_⟩, by simp [intOf]; omega⟩
                rotate_left 2
                · rw [HBN.out]; exact HMN.out
                · rw [HNE.out]; omega
                · rw [HBN.out]; simp only; rw [List.length_append, HNF.out]; simp; omega
        · have hkN : k = N := by omega
          have HEQ : Hid (S = S0) := Lib.hid (by rw [HSS.out, ← HS0.out, hkN])
          have hkz : ¬ (k : Int) < (N : Int) := by omega
          have HBL := Lib.hid (HB1.out.trans (HM.out.bel.mono (by omega)))
          clear hm hS0 hne hnf hlt hk hkN
          go_wp2_with fail
          go_ret2
          rw [HEQ.out]
          have e7 := HM.out.o7
          have e8 := HM.out.o8
          refine ⟨HBL.out, _, _, es, rfl, own_down ?_ (Nat.le_of_lt hsz1), own_down ?_ (Nat.le_of_lt hsz1), HM.out.rows⟩
          · rw [HNE.out] at e7 ⊢; exact e7
          · rw [HNF.out] at e8 ⊢; exact e8
end Go.Proofs.YtagiddbfhlokcaaGreatDoor.Ser
/- A batch, by the program: the walk. Conditions: the text's length; the readers of values. -/
namespace Go.Proofs.YtagiddbfhlokcaaGreatDoor.Ser
open Go.RowKit Go.Sort
set_option maxRecDepth 100000
theorem flat_at {α : Type} (enc : α → List Value) (s : Nat) (hs : ∀ x, (enc x).length = s) : ∀ (L : List α) (i : Nat) (hi : i < L.length) (j : Nat), j < s → (L.flatMap enc)[i * s + j]? = (enc L[i])[j]?
  | [], i, hi, _, _ => absurd hi (Nat.not_lt_zero i)
  | x :: L, 0, _, j, hj => by
    rw [List.flatMap_cons, Nat.zero_mul, Nat.zero_add, List.getElem?_append_left (by rw [hs]; exact hj)]
    rfl
  | x :: L, i + 1, hi, j, hj => by
    have ih := flat_at enc s hs L i (by simpa using hi) j hj
    rw [List.flatMap_cons, List.getElem?_append_right (by rw [hs, Nat.succ_mul]; omega), hs, show (i + 1) * s + j - s = i * s + j by rw [Nat.succ_mul]; omega, ih]
    rfl
def encB (x : Int × Ro) : List Value := encR x.2
theorem encB_len (x : Int × Ro) : (encB x).length = 4 := rfl
def BatPost (S : BS) (w : World) (e : Ending) (w' : World) : Prop :=
  Below w.heap.size w w' ∧ ∃ v v8 es, e = .returned (.tuple #[v, v8]) ∧ w'.ownsRow w.heap.size 27 4 v es.length (es.flatMap encB) ∧ w'.ownsRow w.heap.size 38 2 v8 S.2.length (S.2.flatMap encX) ∧ Rows2 w' es S.1
/-- A row's cells in a list. -/
theorem own_get {w : World} {B e s n cap g : Nat} {α : Type} {enc : α → List Value} {L : List α} (h : w.ownsRow B e s (.slice (some ⟨g, 0, none⟩) n cap) n (L.flatMap enc)) (hs : ∀ x, (enc x).length = s) (hn : L.length = n) {i : Nat} (hi : i < L.length) {j : Nat} (hj : j < s) {u : Value} (hu : (enc L[i])[j]? = some u) :
    w.cell? ⟨g, i * s + j, none⟩ = some u := by
  have h1 := flat_at enc s hs L i hi j hj
  rw [hu] at h1
  exact (own_cell h h1 (by omega)).1
def InBt (es : List (Int × Ro)) (w1 : World) (v i : Value) (wr : World) : Prop :=
  ∃ k : Nat, i = .int .i64 k ∧ k ≤ es.length ∧ wr.ownsRow w1.heap.size 27 4 v k ((es.take k).flatMap encB) ∧ Below w1.heap.size w1 wr
theorem take_flat (es : List (Int × Ro)) {k : Nat} (h : k < es.length) : (es.take (k + 1)).flatMap encB = (es.take k).flatMap encB ++ encB es[k] := by
  rw [List.take_add_one, List.getElem?_eq_getElem h, List.flatMap_append]
  simp only [Option.toList_some, List.flatMap_cons, List.flatMap_nil, List.append_nil]
set_option maxHeartbeats 4000000 in
theorem batch12 {V : List UInt8 → Value × Int} (now : Int) (l : List UInt8) (hl : l.length ≤ 1073741824) (w : World) (HV : Readers V w) (mx : Int) (h4 : w.cell? ⟨4, 0, none⟩ = some (.int .i64 mx)) :
    Calls Tryz.prog 12 #[.string (bs l), .int .i64 now] w (BatPost (batP V now (rln [] l)) w) := by
  have M31 := rows31 now l hl w HV mx h4
  have hSl : (batP V now (rln [] l)).1.length ≤ 1073741825 := by
    unfold batP
    split
    · exact Nat.zero_le _
    · have := (bst_len V now (rln [] l) (rln [] l).length).1
      have := (rln_len l []).2
      omega
  obtain ⟨S, hS⟩ : ∃ S, batP V now (rln [] l) = S := ⟨_, rfl⟩
  rw [hS] at M31 hSl ⊢
  have MR := Lib.hid M31
  clear M31 hS HV h4
  obtain ⟨i0, hi, hz0, hz1, hz2⟩ := info_parts info27
  have HI := Lib.hid hi
  have HZ0 := Lib.hid hz0
  have HZ1 := Lib.hid hz1
  have HZ2 := Lib.hid hz2
  clear hi hz0 hz1 hz2
  go_enter Tryz.func12, Tryz.ntmps12
  go_wp2_with fail
  refine MR.out.mono ?_
  rintro e w1 ⟨hb1, v7, v8, es, rfl, ho7, ho8, hr⟩
  obtain ⟨a7, c7, hv7⟩ := numb_slice ho7
  obtain ⟨a8, c8, hv8⟩ := numb_slice ho8
  subst hv7 hv8
  have hel := hr.length
  obtain ⟨ne, hne⟩ : ∃ n, es.length = n := ⟨_, rfl⟩
  have HNE := Lib.hid hne
  have HO7 := Lib.hid ho7
  have HO8 := Lib.hid ho8
  have HR := Lib.hid hr
  have HB1 := Lib.hid hb1
  have hne2 : ne ≤ 1073741825 := by omega
  have hsz1 := hb1.size
  rw [hne]
  clear ho7 ho8 hr hb1 hel hne hSl
  go_wp2_with fail
  go_loopw [8, 19] (fun v i wx => InBt es w1 v i wx) (fun _ i _ => ne - (intOf i).toNat)
  case atStart => exact ⟨0, rfl, Nat.zero_le _, World.ownsRow_nil _ _ _ _, Below.refl _ _⟩
  case round =>
    obtain ⟨k, rfl, hk, ho, hb⟩ := hrel
    rename World => wl
    rw [HNE.out] at hk
    obtain ⟨a, c, hv⟩ := numb_slice ho
    subst hv
    have HO := Lib.hid ho
    have HB := Lib.hid hb
    have hszl := hb.size
    by_cases hlt : k < ne
    · have hlt2 : k < es.length := by rw [HNE.out]; exact hlt
      have h7 := HO7.out
      rw [HNE.out] at h7
      obtain ⟨g, cap', hv, hgb, hgl⟩ := h7.form (by omega)
      injection hv with hv hv1 hv2
      clear hv1 hv2
      subst hv
      obtain ⟨⟨no, nm, ra, rn, rc, rfa, rm, rfc, rt⟩, hx⟩ : ∃ x, es[k] = x := ⟨_, rfl⟩
      have old : ∀ {j : Nat} {u : Value}, w1.cell? ⟨g, j, none⟩ = some u → wl.cell? ⟨g, j, none⟩ = some u := fun h => (hb.cell (p := ⟨g, _, none⟩) hgl).trans h
      have t0 := old (own_get h7 encN_len HNE.out hlt2 (j := 0) (by decide) (u := .int .i64 no) (by rw [hx]; rfl))
      have t1 := old (own_get h7 encN_len HNE.out hlt2 (j := 1) (by decide) (u := .string nm) (by rw [hx]; rfl))
      have t2 := old (own_get h7 encN_len HNE.out hlt2 (j := 2) (by decide) (u := .slice ra rn rc) (by rw [hx]; rfl))
      have t3 := old (own_get h7 encN_len HNE.out hlt2 (j := 3) (by decide) (u := .slice rfa rm rfc) (by rw [hx]; rfl))
      have t4 := old (own_get h7 encN_len HNE.out hlt2 (j := 4) (by decide) (u := .int .i64 rt) (by rw [hx]; rfl))
      rw [Nat.add_zero] at t0
      have hkz : (k : Int) < (ne : Int) := by omega
      have HX := Lib.hid (take_flat es hlt2)
      rw [hx] at HX
      have HLT := Lib.hid hlt
      clear hx old h7 hb ho hk hlt hlt2 hgb
      go_upto_region 6 with (fail)
      refine wp_gen (fun wx => Below wl.heap.size wl wx ∧ wx.heap[wl.heap.size]? = some (.cells #[.int .i64 no, .string nm, .slice ra rn rc, .slice rfa rm rfc, .int .i64 rt] 76 (0, 0))) ⟨(Below.refl _ _).alloc (Nat.le_refl _) _, newest _ _⟩ ?_
      rintro w3 ⟨hb3, hk3⟩
      have s1 : w3.cell? ⟨wl.heap.size, 1, none⟩ = some (.string nm) := Lib.cell_of_heap hk3 1
      have s2 : w3.cell? ⟨wl.heap.size, 2, none⟩ = some (.slice ra rn rc) := Lib.cell_of_heap hk3 2
      have s3 : w3.cell? ⟨wl.heap.size, 3, none⟩ = some (.slice rfa rm rfc) := Lib.cell_of_heap hk3 3
      have s4 : w3.cell? ⟨wl.heap.size, 4, none⟩ = some (.int .i64 rt) := Lib.cell_of_heap hk3 4
      have hsz3 := hb3.size
      have HO3 := Lib.hid (own_later HO.out hb3)
      have HB3 := Lib.hid (HB.out.trans (hb3.mono hszl))
      clear hb3 hk3 t0 t1 t2 t3 t4
      go_wp2_with ((at_builtin; go_must (refine wpList_append_own_at _ rfl (.tmp 23) (.tmp 26) 33 rfl w1.heap.size 27 i0 _ 4 72 Tryz.underlying33 HI.out HZ0.out HZ1.out HZ2.out rfl (by omega) _ k _ rfl (World.ownsRow.alloc HO3.out _) ⟨w3.heap.size, 0, none⟩ 1 1 [.string nm, .slice ra rn rc, .slice rfa rm rfc, .int .i64 rt] rfl rfl (World.news_of_block (cs := #[.string nm, .slice ra rn rc, .slice rfa rm rfc, .int .i64 rt]) (t := 27) (fr := (0, 0)) (heap_alloc_new w3 _)) (by simp [Value.oneCell']) (by unfold maxLen; omega) (by omega) (by simp; omega) ?_); intro vn w6 hown1 hgrow1 hnn hat; clear hnn))
      have hB6 := (HB3.out.alloc (by omega) (.cells #[.string nm, .slice ra rn rc, .slice rfa rm rfc, .int .i64 rt] 27 (0, 0))).grown hgrow1 (by simp; omega) (fun j hj => (HO3.out.lt j hj).1)
      refine ⟨⟨k + 1, by go_num, by rw [HNE.out]; exact HLT.out, ?_, hB6⟩, by have := HLT.out; simp [intOf]; omega⟩
      rw [HX.out]
      exact hown1
    · have hkz : ¬ (k : Int) < (ne : Int) := by omega
      have hke : k = ne := by omega
      have HRE : Hid ((es.take k).flatMap encB = es.flatMap encB) := Lib.hid (by rw [hke, ← HNE.out, List.take_length])
      have HKE := Lib.hid hke
      clear hlt hke hk ho hb
      go_wp2_with fail
      go_ret2
      have h1 := HO.out
      rw [HRE.out] at h1
      refine ⟨HB1.out.trans (HB.out.mono hsz1), _, _, es, rfl, ?_, own_later HO8.out HB.out, HR.out.later HB.out⟩
      rw [HNE.out, ← HKE.out]
      exact own_down h1 hsz1
end Go.Proofs.YtagiddbfhlokcaaGreatDoor.Ser
