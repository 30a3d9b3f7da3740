/- Several texts of this proof, laid together. Conditions: as each says. -/
import Derived.Test.YtagiddbfhlokcaaGreatDoorMBM
/- Reading a line by the program: the tags, and the whole. Conditions: the text's length; the readers of values. -/
namespace Go.Proofs.YtagiddbfhlokcaaGreatDoor.Ser
open Go.RowKit Go.Sort
set_option maxRecDepth 100000
/-- What comes behind a tag. -/
def nextT (n : Nat) (acc' : List Tg) : List UInt8 → Option (List Tg × List UInt8)
  | [] => none
  | c :: r3 => if c = 44 then tagsP n acc' r3 else if c = 32 then some (acc', r3) else none
section
variable {n : Nat} {acc : List Tg} {r kb r1 vb r2 : List UInt8}
theorem tp_none (h : scan [] r = none) : tagsP (n + 1) acc r = none := by unfold tagsP; rw [h]
theorem tp_bad (h : scan [] r = some (kb, r1)) (hb : (nameB kb && headIs 61 r1) = false) : tagsP (n + 1) acc r = none := by unfold tagsP; rw [h]; simp only; rw [hb]; rfl
theorem tp_vnone (h : scan [] r = some (kb, r1)) (hb : (nameB kb && headIs 61 r1) = true) (hv : scan [] r1.tail = none) : tagsP (n + 1) acc r = none := by
  unfold tagsP; rw [h]; simp only; rw [hb, hv]; rfl
theorem tp_vbad (h : scan [] r = some (kb, r1)) (hb : (nameB kb && headIs 61 r1) = true) (hv : scan [] r1.tail = some (vb, r2)) (hn : nameB vb = false) : tagsP (n + 1) acc r = none := by
  unfold tagsP; rw [h]; simp only; rw [hb, hv]; simp only [if_true]; rw [hn]; rfl
theorem tp_ok (h : scan [] r = some (kb, r1)) (hb : (nameB kb && headIs 61 r1) = true) (hv : scan [] r1.tail = some (vb, r2)) (hn : nameB vb = true) : tagsP (n + 1) acc r = nextT n (acc ++ [(ofL kb, ofL vb)]) r2 := by
  rw [tagsP, h]; simp only; rw [hb, hv]; simp only [if_true]; rw [hn]; simp only [if_true]
  cases r2 <;> rfl
end
/-- Behind an append to the tags. -/
theorem PMem.grownT {name : ByteArray} {tags : List Tg} {fields : List Fd} {v vf : Value} {tm : Int} {w wr w' : World} {o : Obj} (h : PMem name tags fields v vf tm w wr) (hg : (wr.alloc o).grownBy w' v.ownBlock) :
    w'.heap[w.heap.size]? = some (.cells #[.string ⟨#[]⟩, .slice none 0 0, .slice none 0 0, .int .i64 0] 27 (0, 0)) ∧ w'.heap[w.heap.size + 1]? = some (.cells #[.string name, v, vf, .int .i64 tm] 27 (0, 0)) ∧ (∃ k b t, w'.heap[w.heap.size + 2]? = some (.cells #[.int .i64 k, .int .u64 b, .string t] 53 (0, 0))) ∧ RF w' (w.heap.size + 3) vf fields ∧ Below w.heap.size w w' := by
  obtain ⟨k, b, t, h3⟩ := h.val
  have l3 := lt_of_block h3
  have ne : ∀ j, j < w.heap.size + 3 → some j ≠ v.ownBlock := fun j hj e => by have := (h.rt.lt j e.symm).1; omega
  have al : ∀ j, j < wr.heap.size → (wr.alloc o).heap[j]? = wr.heap[j]? := fun j hj => Below.heap_alloc wr o _ hj
  refine ⟨(hg.block _ (by simp; omega) (ne _ (by omega))).trans ((al _ (by omega)).trans h.res), (hg.block _ (by simp; omega) (ne _ (by omega))).trans ((al _ (by omega)).trans h.row), ⟨k, b, t, (hg.block _ (by simp; omega) (ne _ (by omega))).trans ((al _ (by omega)).trans h3)⟩, ?_, ?_⟩
  · refine (World.ownsRow.alloc h.rf o).kept hg ?_
    cases hv : vf.ownBlock with
    | none => exact .inl rfl
    | some g => exact .inr fun e => h.ap g e.symm hv
  · exact (h.bel.alloc h.bel.size o).grown hg (by simp; omega) (fun j hj => by have := (h.rt.lt j hj).1; omega)
theorem PMem.appendT {name : ByteArray} {tags : List Tg} {fields : List Fd} {v vf v1 : Value} {tm : Int} {w wr w' : World} {o : Obj} {p : Tg} {n : Nat} {xs : List Value} (h : PMem name tags fields v vf tm w wr) (hg : (wr.alloc o).grownBy w' v.ownBlock)
    (hat : v1.ownBlock = v.ownBlock ∨ v1.ownBlock = some (wr.alloc o).heap.size) (hown : w'.ownsRow (w.heap.size + 3) 82 2 v1 n xs) (hn : n = tags.length + 1) (hx : xs = tags.flatMap encT ++ encT p) :
    PMem name (tags ++ [p]) fields v1 vf tm w (w'.setCell ⟨w.heap.size + 1, 1, none⟩ v1) := by
  obtain ⟨f0, f1, ⟨k, b, t, f2⟩, f3, f4⟩ := h.grownT hg
  subst hn hx
  refine ⟨by rw [Below.heap_setCell _ _ _ _ (by simp)]; exact f0, ?_, ⟨k, b, t, ?_⟩, ?_, ownsRow_setCell_below f3 (by simp) _, ?_, f4.setCell (by simp) _⟩
  · rw [heap_setCell_same _ _ _ _ _ _ f1]; rfl
  · rw [Below.heap_setCell _ _ _ _ (by simp)]; exact f2
  · rw [RT, List.length_append, List.flatMap_append]
    exact ownsRow_setCell_below (by simpa using hown) (by simp) _
  · intro g hv e
    rcases hat with h1 | h1
    · rw [h1] at hv; exact h.ap g hv e
    · rw [h1] at hv
      have := (h.rf.lt g e).2
      injection hv with hv
      simp at hv
      omega
set_option maxHeartbeats 8000000 in
theorem pass_tag {V : List UInt8 → Value × Int} {now : Int} {L : Nat} (hL : L ≤ 1073741824) {R : LR} {w : World} (HV : Readers V w) {m : Nat} {J : Nat → Act → World → Prop} {Q : Exit → Act → World → Prop} (hret : Rets R w Q)
    (hj0 : ∀ a w', JWrong R w a w' → J 0 a w') (hj1 : ∀ a w' m', m' < m → JField V now L R w m' a w' → J 1 a w') (hj2 : ∀ a w' m', m' < m → JTag V now L R w m' a w' → J 2 a w') (hj3 : ∀ a w', JEnd L R w a w' → J 3 a w') (rest : Code)
    (hr : (Tryz.f15.body.bind firstScope).bind (findLabel · 2) = some (Code.skip.seq rest)) (a : Act) (wr : World) (hJ : JTag V now L R w m a wr) : rest.wp Tryz.prog (Jumps J Q) a wr := by
  change some _ = some _ at hr
  cases hr
  obtain ⟨⟨hd0, hsz, g4, g6, g10⟩, g11, name, tags, v, c, r, n, g0, hm, ⟨hn1, hn2, hn3, hn4, hn5⟩, hlen, hrn, hrm, hR⟩ := hJ
  obtain ⟨fr, rfl, hf⟩ := frame_of166 a hsz hd0
  rw [hf] at g4 g6 g10 g11 g0
  rw [g4, g6, g10, g11, g0]
  obtain ⟨hlt, hg, hem, h0i, h1i, htl⟩ := bs_head (r := c :: r) rfl
  obtain ⟨n, rfl⟩ : ∃ k, n = k + 1 := ⟨n - 1, by omega⟩
  have M39 := Lib.hid (fun w => cut39 r w (by omega))
  have HM := Lib.hid hm
  have HR := Lib.hid hR
  have HRET := Lib.hid hret
  have HJ0 := Lib.hid hj0
  have HJ1 := Lib.hid hj1
  have HJ2 := Lib.hid hj2
  have HJ3 := Lib.hid hj3
  have HVV := Lib.hid HV
  have HN2 := Lib.hid hn2
  have HN3 := Lib.hid hn3
  clear hf hsz hd0 hR hret hj0 hj1 hj2 hj3 HV hm hn2 hn3 hg
  go_wp2_with fail
  refine (M39.out _).mono ?_
  intro e w1 hcp
  obtain ⟨b, s1, ok, rfl, hy, hno, hb1⟩ := cutPost_cases hcp
  have hm1 := HM.out.later hb1
  have HM1 := Lib.hid hm1
  clear hcp hb1 hm1 hlt hem h0i h1i htl
  cases ok with
  | false =>
    have HP : Hid (R = (2, none)) := Lib.hid (by rw [HR.out, tp_none (hno rfl)]; rfl)
    clear hy hno
    go_wp2_with fail
    go_step3
    refine HJ0.out _ _ ?_
    exact ⟨⟨rfl, rfl, rfl, rfl, rfl⟩, 2, rfl, HP.out, HM1.out.res, HM1.out.bel⟩
  | true =>
    obtain ⟨kb, r1, hs, rfl, rfl⟩ := hy rfl
    have hl1 := scan_len _ (Nat.le_refl _) hs
    simp only [List.length_nil, Nat.zero_add] at hl1
    have HS := Lib.hid hs
    have M40 := Lib.hid (fun w => name40 kb (by omega) w)
    obtain ⟨bn, hbn⟩ : ∃ b, nameB kb = b := ⟨_, rfl⟩
    rw [hbn] at M40
    have HBN := Lib.hid hbn
    obtain ⟨bq, hbq⟩ : ∃ b, headIs 61 r1 = b := ⟨_, rfl⟩
    have M41 := Lib.hid (fun w => hasP r1 61 w)
    rw [hbq] at M41
    have HBQ := Lib.hid hbq
    clear hy hno hs hbn hbq
    cases bn with
    | false =>
      have HP : Hid (R = (2, none)) := Lib.hid (by rw [HR.out, tp_bad HS.out (by rw [HBN.out]; rfl)]; rfl)
      go_wp2_with fail
      refine (M40.out _).mono ?_
      rintro e w2 ⟨rfl, hb2⟩
      have HM2 := Lib.hid (HM1.out.later hb2)
      clear hb2
      go_wp2_with fail
      go_step3
      refine HJ0.out _ _ ?_
      exact ⟨⟨rfl, rfl, rfl, rfl, rfl⟩, 2, rfl, HP.out, HM2.out.res, HM2.out.bel⟩
    | true =>
      cases bq with
      | false =>
        have HP : Hid (R = (2, none)) := Lib.hid (by rw [HR.out, tp_bad HS.out (by rw [HBQ.out, Bool.and_false])]; rfl)
        go_wp2_with fail
        refine (M40.out _).mono ?_
        rintro e w2 ⟨rfl, hb2⟩
        have HM2 := Lib.hid (HM1.out.later hb2)
        clear hb2
        go_wp2_with fail
        refine (M41.out _).mono ?_
        rintro e w' ⟨rfl, rfl⟩
        go_wp2_with fail
        go_step3
        refine HJ0.out _ _ ?_
        exact ⟨⟨rfl, rfl, rfl, rfl, rfl⟩, 2, rfl, HP.out, HM2.out.res, HM2.out.bel⟩
      | true =>
        obtain ⟨r2, rfl⟩ : ∃ r2, r1 = 61 :: r2 := by
          have := HBQ.out
          rcases list_cases r1 with e | ⟨c, t, e⟩
          · rw [e] at this; cases this
          · rw [e] at this
            simp only [headIs, decide_eq_true_eq] at this
            exact ⟨t, by rw [e, this]⟩
        simp only [List.length_cons] at hl1
        have HSB : Hid ((nameB kb && headIs 61 (61 :: r2)) = true) := Lib.hid (by rw [HBN.out]; rfl)
        obtain ⟨hlt, hg, hem, h0i, h1i, htl⟩ := bs_head (r := 61 :: r2) rfl
        have M39b := Lib.hid (fun w => cut39 r2 w (by omega))
        go_wp2_with fail
        refine (M40.out _).mono ?_
        rintro e w2 ⟨rfl, hb2⟩
        have HM2 := Lib.hid (HM1.out.later hb2)
        clear hb2
        go_wp2_with fail
        refine (M41.out _).mono ?_
        rintro e w' ⟨rfl, rfl⟩
        go_wp2_with fail
        refine (M39b.out _).mono ?_
        intro e w3 hcp
        obtain ⟨b, s3, ok, rfl, hy, hno, hb3⟩ := cutPost_cases hcp
        have HM3 := Lib.hid (HM2.out.later hb3)
        clear hcp hb3 hlt hg hem h0i h1i htl
        cases ok with
        | false =>
          have HP : Hid (R = (2, none)) := Lib.hid (by rw [HR.out, tp_vnone HS.out HSB.out (hno rfl)]; rfl)
          clear hy hno
          go_wp2_with fail
          go_step3
          refine HJ0.out _ _ ?_
          exact ⟨⟨rfl, rfl, rfl, rfl, rfl⟩, 2, rfl, HP.out, HM3.out.res, HM3.out.bel⟩
        | true =>
          obtain ⟨vb, rd, hs2, rfl, rfl⟩ := hy rfl
          have hl2 := scan_len _ (Nat.le_refl _) hs2
          simp only [List.length_nil, Nat.zero_add] at hl2
          have HS2 : Hid (scan [] (61 :: r2).tail = some (vb, rd)) := Lib.hid hs2
          have M40b := Lib.hid (fun w => name40 vb (by omega) w)
          obtain ⟨bn, hbn⟩ : ∃ b, nameB vb = b := ⟨_, rfl⟩
          rw [hbn] at M40b
          have HBN2 := Lib.hid hbn
          clear hy hno hs2 hbn
          cases bn with
          | false =>
            have HP : Hid (R = (2, none)) := Lib.hid (by rw [HR.out, tp_vbad HS.out HSB.out HS2.out HBN2.out]; rfl)
            go_wp2_with fail
            refine (M40b.out _).mono ?_
            rintro e w4 ⟨rfl, hb4⟩
            have HM4 := Lib.hid (HM3.out.later hb4)
            clear hb4
            go_wp2_with fail
            go_step3
            refine HJ0.out _ _ ?_
            exact ⟨⟨rfl, rfl, rfl, rfl, rfl⟩, 2, rfl, HP.out, HM4.out.res, HM4.out.bel⟩
          | true =>
            have HRR : Hid (R = tagsR V now L name (nextT n (tags ++ [(ofL kb, ofL vb)]) rd)) := Lib.hid (by rw [HR.out, tp_ok HS.out HSB.out HS2.out HBN2.out])
            rcases list_cases rd with hrd | ⟨c2, r3, hrd⟩
            · have he0 := bs_nil hrd
              have HP : Hid (R = (2, none)) := Lib.hid (by rw [HRR.out, hrd]; rfl)
              clear hrd
              go_wp2_with fail
              refine (M40b.out _).mono ?_
              rintro e w4 ⟨rfl, hb4⟩
              have HM4 := Lib.hid (HM3.out.later hb4)
              clear hb4
              go_wp2_with fail
              go_step3
              refine HJ0.out _ _ ?_
              exact ⟨⟨rfl, rfl, rfl, rfl, rfl⟩, 2, rfl, HP.out, HM4.out.res, HM4.out.bel⟩
            · obtain ⟨hlt, hg, hem, h0i, h1i, htl⟩ := bs_head hrd
              have hl3 : r3.length + 1 = rd.length := by rw [hrd]; rfl
              have HRD := Lib.hid hrd
              clear htl hrd
              go_wp2_with fail
              refine (M40b.out _).mono ?_
              rintro e w4 ⟨rfl, hb4⟩
              have hm4 := HM3.out.later hb4
              have HM4 := Lib.hid hm4
              clear hb4
              obtain ⟨d0, d1, d2, d3⟩ := hm4.cells
              obtain ⟨fa, fc, hvf⟩ := hm4.rt.slice
              subst hvf
              have hsz5 := hm4.size
              obtain ⟨i0, hi, hz0, hz1, hz2⟩ := info_parts info82
              have HI := Lib.hid hi
              have HZ0 := Lib.hid hz0
              have HZ1 := Lib.hid hz1
              have HZ2 := Lib.hid hz2
              clear hi hz0 hz1 hz2 hm4
              go_upto_region 15 with ((at_builtin; go_must (refine wpList_append_own_at _ rfl (.tmp 80) (.tmp 84) 22 rfl (w.heap.size + 3) 82 i0 _ 2 32 Tryz.underlying22 HI.out HZ0.out HZ1.out HZ2.out rfl (by omega) _ tags.length _ rfl (World.ownsRow.alloc HM4.out.rt _) ⟨w4.heap.size, 0, none⟩ 1 1 [.string (ofL kb), .string (ofL vb)] rfl rfl (World.news_of_block (cs := #[.string (ofL kb), .string (ofL vb)]) (t := 82) (fr := (0, 0)) (heap_alloc_new w4 _)) (by simp [Value.oneCell']) (by unfold maxLen; omega) (by omega) (by simp; omega) ?_); intro vn w6 hown1 hgrow1 hnn hat; clear hnn; obtain ⟨gv, cv, rfl, _, _⟩ := hown1.form (by omega); have hg6 := HM4.out.grownT hgrow1; have d6 : w6.cell? ⟨w.heap.size + 1, 1, none⟩ = some (.slice fa tags.length fc) := (Lib.cell_of_heap hg6.2.1 1); have z6 : w6.frozen? ⟨w.heap.size + 1, 1, none⟩ = false := (Lib.frozen_of_heap hg6.2.1 1); have HMA := Lib.hid (HM4.out.appendT (p := (ofL kb, ofL vb)) hgrow1 hat hown1 rfl rfl); clear hown1 hgrow1 hat hg6))
              refine wp_gen (fun wx => PMem name (tags ++ [(ofL kb, ofL vb)]) [] (.slice (some ⟨gv, 0, none⟩) (tags.length + 1) cv) (.slice none 0 0) now w wx) HMA.out ?_
              clear HMA d6 z6 d0 d1 d2 d3 hsz5 HM4
              intro w7 hm7
              have HM7 := Lib.hid hm7
              have HOK : Hid (Okay L name (tags ++ [(ofL kb, ofL vb)]) []) := Lib.hid ⟨hn1, fun p hp => by
                rcases List.mem_append.1 hp with hp | hp
                · exact HN2.out p hp
                · simp at hp
                  subst hp
                  exact ⟨name_sized HBN.out, name_sized HBN2.out⟩, (fun p hp => nomatch hp), by simp; omega, Nat.zero_le _⟩
              clear hm7
              by_cases h44 : c2 = 44
              · have c44 : ((c2.toNat : Int) == 44) = true := byte_eq c2 44 (by decide) h44
                have HP : Hid (R = tagsR V now L name (tagsP n (tags ++ [(ofL kb, ofL vb)]) r3)) := Lib.hid (by rw [HRR.out, HRD.out, nextT, if_pos h44])
                clear h44
                go_wp2_with fail
                go_step3
                refine HJ2.out _ _ r3.length (by omega) ?_
                exact ⟨⟨rfl, rfl, rfl, rfl, rfl⟩, rfl, name, _, _, c2, r3, n, by rw [← HRD.out]; rfl, HM7.out, HOK.out, by simp; omega, by omega, Nat.le_refl _, HP.out⟩
              · have c44 : ((c2.toNat : Int) == 44) = false := byte_ne c2 44 (by decide) h44
                by_cases h32 : c2 = 32
                · have c32 : ((c2.toNat : Int) != 32) = false := by rw [h32]; rfl
                  have HP : Hid (R = finP name (tags ++ [(ofL kb, ofL vb)]) (fieldsP V now L [] r3)) := Lib.hid (by rw [HRR.out, HRD.out, nextT, if_neg h44, if_pos h32]; rfl)
                  clear h44 h32
                  go_wp2_with fail
                  go_step3
                  rename_i K hK
                  refine hK _ _ (pass_field hL HVV.out (m := m) HRET.out HJ0.out HJ1.out HJ3.out _ rfl _ _ ?_)
                  exact ⟨⟨rfl, rfl, rfl, rfl, rfl⟩, rfl, name, _, [], _, _, c2, r3, L, by rw [← HRD.out]; rfl, HM7.out, HOK.out, by simp; omega, by omega, by omega, HP.out⟩
                · have c32 : ((c2.toNat : Int) != 32) = true := byte_bne c2 32 (by decide) h32
                  have HP : Hid (R = (2, none)) := Lib.hid (by rw [HRR.out, HRD.out, nextT, if_neg h44, if_neg h32]; rfl)
                  clear h44 h32
                  go_wp2_with fail
                  go_step3
                  refine HJ0.out _ _ ?_
                  exact ⟨⟨rfl, rfl, rfl, rfl, rfl⟩, 2, rfl, HP.out, HM7.out.res, HM7.out.bel⟩
end Go.Proofs.YtagiddbfhlokcaaGreatDoor.Ser
/- Reading a line by the program: the whole. Conditions: the text's length; the readers of values. -/
namespace Go.Proofs.YtagiddbfhlokcaaGreatDoor.Ser
open Go.RowKit Go.Sort
set_option maxRecDepth 100000
def szA (a : Act) : Nat := match a.tmps.getD 0 undef with
  | .string s => s.size
  | _ => 0
def JAll (V : List UInt8 → Value × Int) (now : Int) (L : Nat) (R : LR) (w : World) : Nat → Act → World → Prop
  | 0, a, w' => JWrong R w a w'
  | 1, a, w' => ∃ m, JField V now L R w m a w'
  | 2, a, w' => ∃ m, JTag V now L R w m a w'
  | 3, a, w' => JEnd L R w a w'
  | _, _, _ => False
def muL (l : Nat) (a : Act) (_ : World) : Nat := match l with
  | 0 => 0
  | 3 => 1
  | _ => 2 + szA a
theorem JField.tight {V : List UInt8 → Value × Int} {now : Int} {L : Nat} {R : LR} {w : World} {m : Nat} {a : Act} {w' : World} (h : JField V now L R w m a w') : ∃ k, szA a = k + 1 ∧ k ≤ m ∧ JField V now L R w k a w' := by
  obtain ⟨hf, h11, name, tags, fields, v, vf, c, r, n, g0, hm, hok, hlen, hrn, hrm, hR⟩ := h
  exact ⟨r.length, by unfold szA; rw [g0]; simp only; rw [bs_size]; rfl, hrm, hf, h11, name, tags, fields, v, vf, c, r, n, g0, hm, hok, hlen, hrn, Nat.le_refl _, hR⟩
theorem JTag.tight {V : List UInt8 → Value × Int} {now : Int} {L : Nat} {R : LR} {w : World} {m : Nat} {a : Act} {w' : World} (h : JTag V now L R w m a w') : ∃ k, szA a = k + 1 ∧ k ≤ m ∧ JTag V now L R w k a w' := by
  obtain ⟨hf, h11, name, tags, v, c, r, n, g0, hm, hok, hlen, hrn, hrm, hR⟩ := h
  exact ⟨r.length, by unfold szA; rw [g0]; simp only; rw [bs_size]; rfl, hrm, hf, h11, name, tags, v, c, r, n, g0, hm, hok, hlen, hrn, Nat.le_refl _, hR⟩
theorem wp_skip_seq {P : Program} {c : Code} {Q : Exit → Act → World → Prop} {a : Act} {w : World} (h : c.wp P Q a w) : (Code.skip.seq c).wp P Q a w := wp_seq (wp_skip h)
theorem PMem.setName {name : ByteArray} {tags : List Tg} {fields : List Fd} {v vf : Value} {tm : Int} {w wr : World} (nm : ByteArray) (h : PMem name tags fields v vf tm w wr) : PMem nm tags fields v vf tm w (wr.setCell ⟨w.heap.size + 1, 0, none⟩ (.string nm)) := by
  obtain ⟨k0, b0, t0, h3⟩ := h.val
  refine ⟨by rw [Below.heap_setCell _ _ _ _ (by simp)]; exact h.res, ?_, ⟨k0, b0, t0, by rw [Below.heap_setCell _ _ _ _ (by simp)]; exact h3⟩, ownsRow_setCell_below h.rt (by simp) _, ownsRow_setCell_below h.rf (by simp) _, h.ap, h.bel.setCell (by simp) _⟩
  rw [heap_setCell_same _ _ _ _ _ _ h.row]; rfl
theorem lp_none {V : List UInt8 → Value × Int} {now : Int} {l : List UInt8} (h : scan [] l = none) : lineP V now l = (2, none) := by unfold lineP; rw [h]
theorem lp_bad {V : List UInt8 → Value × Int} {now : Int} {l nb r : List UInt8} (h : scan [] l = some (nb, r)) (hn : nameB nb = false) : lineP V now l = (2, none) := by
  unfold lineP; rw [h]; simp only; rw [hn]; rfl
/-- What comes behind the name. -/
def nextN (V : List UInt8 → Value × Int) (now : Int) (L : Nat) (name : ByteArray) : List UInt8 → LR
  | [] => (2, none)
  | c :: r1 => if c = 32 then finP name [] (fieldsP V now L [] r1) else if c = 44 then tagsR V now L name (tagsP L [] r1) else (2, none)
theorem lp_ok {V : List UInt8 → Value × Int} {now : Int} {l nb r : List UInt8} (h : scan [] l = some (nb, r)) (hn : nameB nb = true) : lineP V now l = nextN V now l.length (ofL nb) r := by
  unfold lineP; rw [h]; simp only; rw [hn]; simp only [if_true]
  cases r with
  | nil => rfl
  | cons c r =>
    rw [nextN]
    by_cases h32 : c = 32
    · simp only [h32, if_true]
    · simp only [h32, if_false]
      by_cases h44 : c = 44
      · simp only [h44, if_true]
        unfold tagsR
        cases tagsP l.length [] r <;> rfl
      · simp only [h44, if_false]
theorem start15 (w : World) (now : Int) : PMem ⟨#[]⟩ [] [] (.slice none 0 0) (.slice none 0 0) now w (((w.alloc (.cells #[.string ⟨#[]⟩, .slice none 0 0, .slice none 0 0, .int .i64 0] 27)).alloc (.cells #[.string ⟨#[]⟩, .slice none 0 0, .slice none 0 0, .int .i64 now] 27)).alloc (.cells #[.int .i64 0, .int .u64 0, .string ⟨#[]⟩] 53)) := by
  have a1 := newest w (.cells #[.string ⟨#[]⟩, .slice none 0 0, .slice none 0 0, .int .i64 0] 27 (0, 0))
  obtain ⟨w1, h1⟩ : ∃ w1, w.alloc (.cells #[.string ⟨#[]⟩, .slice none 0 0, .slice none 0 0, .int .i64 0] 27 (0, 0)) = w1 := ⟨_, rfl⟩
  have s1 : w1.heap.size = w.heap.size + 1 := by rw [← h1]; simp
  have b1 : Below w.heap.size w w1 := by rw [← h1]; exact (Below.refl _ _).alloc (Nat.le_refl _) _
  rw [h1] at a1 ⊢
  have a2 := newest w1 (.cells #[.string ⟨#[]⟩, .slice none 0 0, .slice none 0 0, .int .i64 now] 27 (0, 0))
  have o2 : (w1.alloc (.cells #[.string ⟨#[]⟩, .slice none 0 0, .slice none 0 0, .int .i64 now] 27 (0, 0))).heap[w.heap.size]? = some (.cells #[.string ⟨#[]⟩, .slice none 0 0, .slice none 0 0, .int .i64 0] 27 (0, 0)) := (Below.heap_alloc _ _ _ (by omega)).trans a1
  obtain ⟨w2, h2⟩ : ∃ w2, w1.alloc (.cells #[.string ⟨#[]⟩, .slice none 0 0, .slice none 0 0, .int .i64 now] 27 (0, 0)) = w2 := ⟨_, rfl⟩
  have s2 : w2.heap.size = w.heap.size + 2 := by rw [← h2]; simp [s1]
  have b2 : Below w.heap.size w w2 := by rw [← h2]; exact b1.alloc b1.size _
  rw [h2] at a2 o2 ⊢
  rw [s1] at a2
  have a3 := newest w2 (.cells #[.int .i64 0, .int .u64 0, .string ⟨#[]⟩] 53 (0, 0))
  rw [s2] at a3
  exact ⟨(Below.heap_alloc _ _ _ (by omega)).trans o2, (Below.heap_alloc _ _ _ (by omega)).trans a2, ⟨0, 0, ⟨#[]⟩, a3⟩, World.ownsRow_nil _ _ _ _, World.ownsRow_nil _ _ _ _, (fun g h => nomatch h), b2.alloc b2.size _⟩
set_option maxHeartbeats 8000000 in
theorem parse15 {V : List UInt8 → Value × Int} (l : List UInt8) (hl : l.length ≤ 1073741824) (now : Int) (w : World) (HV : Readers V w) :
    Calls Tryz.prog 15 #[.string (bs l), .int .i64 now] w (RowPost (lineP V now l) w) := by
  obtain ⟨R, hR⟩ : ∃ R, lineP V now l = R := ⟨_, rfl⟩
  rw [hR]
  obtain ⟨L, hL⟩ : ∃ L, l.length = L := ⟨_, rfl⟩
  have HR := Lib.hid hR
  have HL := Lib.hid hL
  have HVV := Lib.hid HV
  have hl' : L ≤ 1073741824 := by omega
  have M39 := Lib.hid (fun w => cut39 l w (by omega))
  clear hR hL HV
  go_enter Tryz.func15, Tryz.ntmps15
  go_wp2_with fail
  refine wp_scope_labels (JAll V now L R w) muL ?_ ?_
  · go_upto_region 6 with (fail)
    refine wp_gen (fun wx => PMem ⟨#[]⟩ [] [] (.slice none 0 0) (.slice none 0 0) now w wx) (start15 w now) ?_
    intro w0 hm0
    have HM0 := Lib.hid hm0
    clear hm0
    go_wp2_with fail
    refine (M39.out _).mono ?_
    intro e w1 hcp
    obtain ⟨b, s1, ok, rfl, hy, hno, hb1⟩ := cutPost_cases hcp
    have hm1 := HM0.out.later hb1
    have HM1 := Lib.hid hm1
    have HM2 := Lib.hid (hm1.setName b)
    obtain ⟨d0, d1, d2, d3⟩ := hm1.cells
    obtain ⟨z0, z1, z2, z3⟩ := hm1.frees
    clear hcp hb1 hm1
    cases ok with
    | false =>
      have HP : Hid (R = (2, none)) := Lib.hid (by rw [← HR.out, lp_none (hno rfl)])
      clear hy hno
      go_wp2_with fail
      go_step3
      exact ⟨⟨rfl, rfl, rfl, rfl, rfl⟩, 2, rfl, HP.out, HM2.out.res, HM2.out.bel⟩
    | true =>
      obtain ⟨nb, r, hs, rfl, rfl⟩ := hy rfl
      have hl1 := scan_len _ (Nat.le_refl _) hs
      simp only [List.length_nil, Nat.zero_add] at hl1
      have HS := Lib.hid hs
      have M40 := Lib.hid (fun w => name40 nb (by omega) w)
      obtain ⟨bn, hbn⟩ : ∃ b, nameB nb = b := ⟨_, rfl⟩
      rw [hbn] at M40
      have HBN := Lib.hid hbn
      clear hy hno hs hbn
      cases bn with
      | false =>
        have HP : Hid (R = (2, none)) := Lib.hid (by rw [← HR.out, lp_bad HS.out HBN.out])
        go_wp2_with fail
        refine (M40.out _).mono ?_
        rintro e w2 ⟨rfl, hb2⟩
        have HM3 := Lib.hid (HM2.out.later hb2)
        clear hb2
        go_wp2_with fail
        go_step3
        exact ⟨⟨rfl, rfl, rfl, rfl, rfl⟩, 2, rfl, HP.out, HM3.out.res, HM3.out.bel⟩
      | true =>
        have HRR : Hid (R = nextN V now L (ofL nb) r) := Lib.hid (by rw [← HR.out, lp_ok HS.out HBN.out, HL.out])
        have HOK : Hid (Okay L (ofL nb) [] []) := Lib.hid ⟨name_sized HBN.out, (fun p hp => nomatch hp), (fun p hp => nomatch hp), Nat.zero_le _, Nat.zero_le _⟩
        rcases list_cases r with hrd | ⟨c2, r3, hrd⟩
        · have he0 := bs_nil hrd
          have HP : Hid (R = (2, none)) := Lib.hid (by rw [HRR.out, hrd]; rfl)
          clear hrd
          go_wp2_with fail
          refine (M40.out _).mono ?_
          rintro e w2 ⟨rfl, hb2⟩
          have HM3 := Lib.hid (HM2.out.later hb2)
          clear hb2
          go_wp2_with fail
          go_step3
          exact ⟨⟨rfl, rfl, rfl, rfl, rfl⟩, 2, rfl, HP.out, HM3.out.res, HM3.out.bel⟩
        · obtain ⟨hlt, hg, hem, h0i, h1i, htl⟩ := bs_head hrd
          have hl3 : r3.length + 1 = r.length := by rw [hrd]; rfl
          have hle : r3.length + 1 ≤ L := by have := HL.out; omega
          have HRD := Lib.hid hrd
          clear htl hrd
          by_cases h32 : c2 = 32
          · have c32 : ((c2.toNat : Int) == 32) = true := byte_eq c2 32 (by decide) h32
            have HP : Hid (R = finP (ofL nb) [] (fieldsP V now L [] r3)) := Lib.hid (by rw [HRR.out, HRD.out, nextN, if_pos h32])
            clear h32
            go_wp2_with fail
            refine (M40.out _).mono ?_
            rintro e w2 ⟨rfl, hb2⟩
            have HM3 := Lib.hid (HM2.out.later hb2)
            clear hb2
            go_wp2_with fail
            go_step3
            exact ⟨r3.length, ⟨rfl, rfl, rfl, rfl, rfl⟩, rfl, _, [], [], _, _, c2, r3, L, by rw [← HRD.out]; rfl, HM3.out, HOK.out, by simp; omega, by omega, Nat.le_refl _, HP.out⟩
          · have c32 : ((c2.toNat : Int) == 32) = false := byte_ne c2 32 (by decide) h32
            by_cases h44 : c2 = 44
            · have c44 : ((c2.toNat : Int) != 44) = false := by rw [h44]; rfl
              have HP : Hid (R = tagsR V now L (ofL nb) (tagsP L [] r3)) := Lib.hid (by rw [HRR.out, HRD.out, nextN, if_neg h32, if_pos h44])
              clear h32 h44
              go_wp2_with fail
              refine (M40.out _).mono ?_
              rintro e w2 ⟨rfl, hb2⟩
              have HM3 := Lib.hid (HM2.out.later hb2)
              clear hb2
              go_wp2_with fail
              go_step3
              rename_i K hK
              refine hK _ _ (pass_tag hl' HVV.out (m := r3.length) rets15 (fun a2 w2 h => h) (fun a2 w2 m' _ h => ⟨m', h⟩) (fun a2 w2 m' _ h => ⟨m', h⟩) (fun a2 w2 h => h) _ rfl _ _ ?_)
              exact ⟨⟨rfl, rfl, rfl, rfl, rfl⟩, rfl, _, [], _, c2, r3, L, by rw [← HRD.out]; rfl, HM3.out, HOK.out, by simp; omega, by omega, Nat.le_refl _, HP.out⟩
            · have c44 : ((c2.toNat : Int) != 44) = true := byte_bne c2 44 (by decide) h44
              have HP : Hid (R = (2, none)) := Lib.hid (by rw [HRR.out, HRD.out, nextN, if_neg h32, if_neg h44])
              clear h32 h44
              go_wp2_with fail
              refine (M40.out _).mono ?_
              rintro e w2 ⟨rfl, hb2⟩
              have HM3 := Lib.hid (HM2.out.later hb2)
              clear hb2
              go_wp2_with fail
              go_step3
              exact ⟨⟨rfl, rfl, rfl, rfl, rfl⟩, 2, rfl, HP.out, HM3.out.res, HM3.out.bel⟩
  · intro l' a w' hJ
    match l', hJ with
    | 0, hJ => exact ⟨_, rfl, wp_skip_seq (pass_wrong (rets_jumps rets15) _ rfl a w' hJ)⟩
    | 1, hJ =>
      obtain ⟨m, hJ⟩ := hJ
      obtain ⟨k, hk, _, hJ⟩ := hJ.tight
      refine ⟨_, rfl, wp_skip_seq (pass_field hl' HVV.out (m := k) rets15 (fun a2 w2 h => ⟨h, ?_⟩) (fun a2 w2 m' hm h => ⟨⟨m', h⟩, ?_⟩) (fun a2 w2 h => ⟨h, ?_⟩) _ rfl a w' hJ)⟩
      · show 0 < 2 + szA a; omega
      · obtain ⟨k2, h1, h2, _⟩ := h.tight
        show 2 + szA a2 < 2 + szA a; omega
      · show 1 < 2 + szA a; omega
    | 2, hJ =>
      obtain ⟨m, hJ⟩ := hJ
      obtain ⟨k, hk, _, hJ⟩ := hJ.tight
      refine ⟨_, rfl, wp_skip_seq (pass_tag hl' HVV.out (m := k) rets15 (fun a2 w2 h => ⟨h, ?_⟩) (fun a2 w2 m' hm h => ⟨⟨m', h⟩, ?_⟩) (fun a2 w2 m' hm h => ⟨⟨m', h⟩, ?_⟩) (fun a2 w2 h => ⟨h, ?_⟩) _ rfl a w' hJ)⟩
      · show 0 < 2 + szA a; omega
      · obtain ⟨k2, h1, h2, _⟩ := h.tight
        show 2 + szA a2 < 2 + szA a; omega
      · obtain ⟨k2, h1, h2, _⟩ := h.tight
        show 2 + szA a2 < 2 + szA a; omega
      · show 1 < 2 + szA a; omega
    | 3, hJ => exact ⟨_, rfl, wp_skip_seq (pass_end hl' (rets_jumps rets15) _ rfl a w' hJ)⟩
    | n + 4, hJ => exact hJ.elim
end Go.Proofs.YtagiddbfhlokcaaGreatDoor.Ser
