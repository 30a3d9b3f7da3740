/- Parse, by the reference. Condition: the text's length. -/
import Derived.Test.YthiniiemhifcoaaP
namespace Go.Proofs.Ythiniiemhifcoaa
open Go.RowKit Go.Sort
theorem scan_suffix : ∀ (n : Nat) {acc l b r : List UInt8}, l.length ≤ n → scan acc l = some (b, r) → ∃ p, l = p ++ r
  | n, acc, [], b, r, _, h => by
    simp [scan] at h
    obtain ⟨_, rfl⟩ := h
    exact ⟨[], rfl⟩
  | 0, acc, c :: l, b, r, hn, h => by simp at hn
  | n + 1, acc, c :: l, b, r, hn, h => by
    by_cases h92 : c.toNat = 92
    · cases l with
      | nil => rw [scan_end _ _ h92] at h; cases h
      | cons d l =>
        cases hs : spec d with
        | true =>
          rw [scan_esc _ _ _ _ h92 hs] at h
          obtain ⟨p, hp⟩ := scan_suffix n (by simp at hn; omega) h
          exact ⟨c :: d :: p, by rw [hp]; rfl⟩
        | false => rw [scan_bad _ _ _ _ h92 hs] at h; cases h
    · cases hs : spec c with
      | true =>
        rw [scan_stop _ _ _ h92 hs] at h
        simp at h
        obtain ⟨_, rfl⟩ := h
        exact ⟨[], rfl⟩
      | false =>
        rw [scan_plain _ _ _ h92 hs] at h
        obtain ⟨p, hp⟩ := scan_suffix n (by simp at hn; omega) h
        exact ⟨c :: p, by rw [hp]; rfl⟩
theorem drop_suffix {s : ByteArray} {k : Nat} {p r : List UInt8} (h : s.data.toList.drop k = p ++ r) : s.data.toList.drop (s.size - r.length) = r := by
  have h1 : s.data.toList = s.data.toList.take k ++ (p ++ r) := by rw [← h, List.take_append_drop]
  have h2 : s.size = (s.data.toList.take k ++ p).length + r.length := by
    have := congrArg List.length h1
    simp at this ⊢
    omega
  rw [h1, ← List.append_assoc, h2]
  rw [show (s.data.toList.take k ++ p).length + r.length - r.length = (s.data.toList.take k ++ p).length by omega]
  exact List.drop_left
theorem partPost_cases {s : ByteArray} {k0 : Nat} {w : World} {e : Ending} {w' : World} (hk0 : k0 ≤ s.size) (h : PartPost s (scan [] (s.data.toList.drop k0)) w e w') : ∃ b z ok, e = .returned (.tuple #[.string b, .int .i64 z, .bool ok]) ∧
    (ok = true → ∃ bl m, z = ((m : Nat) : Int) ∧ m ≤ s.size ∧ scan [] (s.data.toList.drop k0) = some (bl, s.data.toList.drop m) ∧ b = ofL bl ∧ k0 ≤ m ∧ bl.length ≤ s.size) ∧ (ok = false → scan [] (s.data.toList.drop k0) = none ∧ b = ⟨#[]⟩) ∧ Below w.heap.size w w' := by
  obtain ⟨hb, h⟩ := h
  cases ho : scan [] (s.data.toList.drop k0) with
  | none =>
    rw [ho] at h
    obtain ⟨z, rfl⟩ := h
    exact ⟨_, _, _, rfl, (fun h => nomatch h), fun _ => ⟨rfl, rfl⟩, hb⟩
  | some p =>
    obtain ⟨b, r⟩ := p
    rw [ho] at h
    simp only at h
    obtain ⟨p, hp⟩ := scan_suffix _ (Nat.le_refl _) ho
    have hl := scan_len _ (Nat.le_refl _) ho
    simp at hl
    have hd := drop_suffix hp
    refine ⟨_, _, _, h, fun _ => ⟨b, s.size - r.length, rfl, by omega, by rw [hd], rfl, ?_, by omega⟩, (fun h => nomatch h), hb⟩
    have := congrArg List.length hp
    simp at this
    omega
/-- The parser's memory while it goes: its result's cells, the series that grows at block S, and the tags. -/
def MemS (S : Nat) (name : ByteArray) (tags : List Tg) (v : Value) (w wr : World) : Prop :=
  w.heap.size < S ∧ wr.heap[w.heap.size]? = some (.cells #[.string ⟨#[]⟩, .slice none 0 0] 24 (0, 0)) ∧ wr.heap[S]? = some (.cells #[.string name, v] 24 (0, 0)) ∧
    wr.ownsRow (S + 1) 34 2 v tags.length (tagCells tags) ∧ Below w.heap.size w wr
theorem MemS.later {S : Nat} {name : ByteArray} {tags : List Tg} {v : Value} {w wr w' : World} (h : MemS S name tags v w wr) (hb : Below wr.heap.size wr w') : MemS S name tags v w w' := by
  obtain ⟨hS, h0, h1, h2, h3⟩ := h
  exact ⟨hS, (hb.block _ (lt_of_block h0)).trans h0, (hb.block _ (lt_of_block h1)).trans h1, own_later h2 hb, h3.trans (hb.mono h3.size)⟩
theorem MemS.done {S : Nat} {name : ByteArray} {tags : List Tg} {a : Option Addr} {cap : Nat} {w wr : World} (h : MemS S name tags (.slice a tags.length cap) w wr) : ∀ wz : World, wz = (wr.setCell ⟨w.heap.size, 0, none⟩ (.string name)).setCell ⟨w.heap.size, 1, none⟩ (.slice a tags.length cap) →
    wz.cell? ⟨w.heap.size, 0, none⟩ = some (.string name) ∧ wz.cell? ⟨w.heap.size, 1, none⟩ = some (.slice a tags.length cap) ∧ Below w.heap.size w wz ∧ TagsAt wz a tags.length (kOf tags) (vOf tags) := by
  rintro wz rfl
  obtain ⟨hS, h0, h1, h2, h3⟩ := h
  have g1 := heap_setCell_same wr w.heap.size 0 _ _ (.string name) h0
  have g2 := heap_setCell_same _ w.heap.size 1 _ _ (.slice a tags.length cap) g1
  exact ⟨by simp [World.cell?, g2], by simp [World.cell?, g2], (h3.setCell (Nat.le_refl _) _).setCell (Nat.le_refl _) _, own_tags (ownsRow_setCell_below (ownsRow_setCell_below h2 (by simp; omega) _) (by simp; omega) _)⟩
theorem MemS.grown {S : Nat} {name : ByteArray} {tags : List Tg} {v : Value} {w wr w' : World} {o : Obj} (h : MemS S name tags v w wr) (hg : (wr.alloc o).grownBy w' v.ownBlock) :
    w'.heap[w.heap.size]? = some (.cells #[.string ⟨#[]⟩, .slice none 0 0] 24 (0, 0)) ∧ w'.heap[S]? = some (.cells #[.string name, v] 24 (0, 0)) ∧ Below w.heap.size w w' := by
  obtain ⟨hS, h0, h1, h2, h3⟩ := h
  have l0 := lt_of_block h0
  have l1 := lt_of_block h1
  have ne : ∀ j, j < S + 1 → some j ≠ v.ownBlock := fun j hj e => by have := (h2.lt j e.symm).1; omega
  refine ⟨(hg.block _ (by simp; omega) (ne _ (by omega))).trans ((Below.heap_alloc wr o _ (by omega)).trans h0), (hg.block _ (by simp; omega) (ne _ (by omega))).trans ((Below.heap_alloc wr o _ (by omega)).trans h1), ?_⟩
  exact (h3.alloc h3.size o).grown hg (by simp; omega) (fun j hj => by have := (h2.lt j hj).1; omega)
theorem MemS.append {S : Nat} {name k x : ByteArray} {tags : List Tg} {v v1 : Value} {w w' : World} {n : Nat} {xs : List Value} (hS : w.heap.size < S) (h0 : w'.heap[w.heap.size]? = some (.cells #[.string ⟨#[]⟩, .slice none 0 0] 24 (0, 0))) (h1 : w'.heap[S]? = some (.cells #[.string name, v] 24 (0, 0)))
    (hb : Below w.heap.size w w') (hown : w'.ownsRow (S + 1) 34 2 v1 n xs) (hn : n = tags.length + 1) (hx : xs = tagCells tags ++ [.string k, .string x]) :
    MemS S name (tags ++ [(k, x)]) v1 w (w'.setCell ⟨S, 1, none⟩ v1) := by
  subst hn hx
  refine ⟨hS, by rw [Below.heap_setCell _ _ _ _ (by simp; omega)]; exact h0, ?_, ?_, hb.setCell (by simp; omega) _⟩
  · rw [heap_setCell_same _ _ _ _ _ _ h1]; rfl
  · rw [tagCells_snoc, List.length_append]
    exact ownsRow_setCell_below hown (by simp) _
def InParseS (t name : ByteArray) (S : Nat) (w : World) (u5 : Value) (wr : World) : Prop :=
  ∃ (tags : List Tg) (v : Value) (k : Nat), u5 = .int .i64 k ∧ k ≤ t.size ∧ parse t.data.toList = fin name (ploop tags (t.data.toList.drop k)) ∧ 2 * tags.length ≤ k ∧
    tags.length ≤ 9 ∧ (∀ p ∈ tags, p.1.size ≤ t.size ∧ p.2.size ≤ t.size) ∧ MemS S name tags v w wr
set_option maxRecDepth 100000 in
set_option maxHeartbeats 1000000 in
theorem parse18 (t : ByteArray) (w : World) (hs : t.size ≤ 1048576) : Calls Try.prog 18 #[.string t] w (ParsePost (parse t.data.toList) w) := by
  obtain ⟨i0, hi, hz0, hz1, hz2⟩ := info_parts info34
  have HI := Lib.hid hi
  have HZ0 := Lib.hid hz0
  have HZ1 := Lib.hid hz1
  have HZ2 := Lib.hid hz2
  clear hi hz0 hz1 hz2
  go_enter Try.func18, Try.ntmps18
  go_wp2_with fail
  refine (part t 0 _ (by omega) (by omega)).mono ?_
  intro e w1 hcp
  obtain ⟨name, zz, ok0, rfl, hok, hno, hb⟩ := partPost_cases (by omega) hcp
  have hb0 : Below w.heap.size w w1 := ((Below.refl _ _).alloc (Nat.le_refl _) _).trans (hb.mono (by simp))
  have hlt : w.heap.size < w1.heap.size := Nat.lt_of_lt_of_le (by simp) hb.size
  have g0 : w1.heap[w.heap.size]? = some (.cells #[.string ⟨#[]⟩, .slice none 0 0] 24 (0, 0)) := (hb.block _ (by simp)).trans (heap_alloc_new w _)
  have hm0 : MemS w1.heap.size name [] (.slice none 0 0) w (w1.alloc (.cells #[.string name, .slice none 0 0] 24)) :=
    ⟨hlt, (Below.heap_alloc _ _ _ hlt).trans g0, heap_alloc_new w1 _, World.ownsRow_nil _ _ _ _, hb0.alloc (by omega) _⟩
  obtain ⟨S, hSe⟩ : ∃ S, w1.heap.size = S := ⟨_, rfl⟩
  rw [hSe] at hm0 hlt
  have HSE := Lib.hid hSe
  have HM0 := Lib.hid hm0
  clear hcp hb hb0 g0
  cases ok0 with
  | false =>
    have HP : Hid (parse t.data.toList = none) := Lib.hid (by
      have := (hno rfl).1
      simp only [List.drop_zero] at this
      simp only [parse, this])
    clear hok hno hm0
    go_wp2_with fail
    have hm0 := HM0.out
    obtain ⟨w2, hw2⟩ : ∃ w2, w1.alloc (.cells #[.string name, .slice none 0 0] 24) = w2 := ⟨_, rfl⟩
    rw [hw2] at hm0
    try rw [hw2]
    have z0 : w2.frozen? ⟨w.heap.size, 0, none⟩ = false := by simp [World.frozen?, hm0.2.1]
    have z1 : w2.frozen? ⟨w.heap.size, 1, none⟩ = false := by simp [World.frozen?, hm0.2.1]
    have c0 : w2.cell? ⟨w.heap.size, 0, none⟩ = some (.string ⟨#[]⟩) := by simp [World.cell?, hm0.2.1]
    have c1 : w2.cell? ⟨w.heap.size, 1, none⟩ = some (.slice none 0 0) := by simp [World.cell?, hm0.2.1]
    have HF := Lib.hid (fail_world hm0.2.2.2.2 hm0.2.1)
    clear hm0
    go_loopw [5] (fun _ wr => wr = w2) (fun _ _ => 0)
    case atStart => rfl
    case round =>
      subst hrel
      go_wp2_with fail
      refine bodyPost_ret (results18 _ _ w.heap.size _ _ rfl (HF.out _ rfl).1 (HF.out _ rfl).2.1) rfl ?_
      refine ⟨(HF.out _ rfl).2.2, ?_⟩
      rw [HP.out]
      rfl
  | true =>
    obtain ⟨bl, m0, rfl, hm0z, hsc, rfl, _, hbl⟩ := hok rfl
    have hst : InParseS t (ofL bl) S w (.int .i64 m0) (w1.alloc (.cells #[.string (ofL bl), .slice none 0 0] 24)) :=
      ⟨[], _, m0, rfl, hm0z, by simp only [List.drop_zero] at hsc; simp only [parse, hsc], by simp, by simp, (fun p hp => (nomatch hp)), hm0⟩
    have HST := Lib.hid hst
    obtain ⟨name, hname⟩ : ∃ name, ofL bl = name := ⟨_, rfl⟩
    have hnm : name.size ≤ t.size := by rw [← hname, ofL_size]; exact hbl
    rw [hname] at HST HM0 hm0 ⊢
    clear hst hok hno hm0 hsc
    clear hname
    go_wp2_with fail
    go_loopw [5] (fun u5 wr => InParseS t name S w u5 wr) (fun u5 _ => t.size - (intOf u5).toNat)
    case atStart => exact HST.out
    case round =>
      obtain ⟨tags, v, k, rfl, hk, hpar, htk, ht9, htz, hmem⟩ := hrel
      obtain ⟨a, cap, rfl⟩ := own_slice hmem.2.2.2.1
      have HTZ := Lib.hid htz
      have HM := Lib.hid hmem
      have HY := Lib.hid hpar
      have hsz := hmem.2.2.2.2.size
      have hltS : S < wr.heap.size := lt_of_block hmem.2.2.1
      have z0 : wr.frozen? ⟨w.heap.size, 0, none⟩ = false := by simp [World.frozen?, hmem.2.1]
      have z1 : wr.frozen? ⟨w.heap.size, 1, none⟩ = false := by simp [World.frozen?, hmem.2.1]
      have c0 : wr.cell? ⟨w.heap.size, 0, none⟩ = some (.string ⟨#[]⟩) := by simp [World.cell?, hmem.2.1]
      have c1 : wr.cell? ⟨w.heap.size, 1, none⟩ = some (.slice none 0 0) := by simp [World.cell?, hmem.2.1]
      have d0 : wr.cell? ⟨S, 0, none⟩ = some (.string name) := by simp [World.cell?, hmem.2.2.1]
      have d1 : wr.cell? ⟨S, 1, none⟩ = some (.slice a tags.length cap) := by simp [World.cell?, hmem.2.2.1]
      have HF := Lib.hid (fail_world hmem.2.2.2.2 hmem.2.1)
      clear htz hmem hpar
      by_cases hlt : k < t.size
      · obtain ⟨c, hcc⟩ : ∃ c, t[k] = c := ⟨_, rfl⟩
        have HT := Lib.hid (drop_cons t k hlt)
        rw [hcc] at HT
        by_cases h44 : c.toNat = 44
        · have hc44 : ((c.toNat : Int) != 44) = false := by simp; omega
          have H44 := Lib.hid h44
          clear h44
          go_wp2_with fail
          refine (part t (k + 1) _ (by omega) (by omega)).mono ?_
          intro e w3 hcp
          obtain ⟨kb, z, ok1, rfl, hok, hno, hb⟩ := partPost_cases (by omega) hcp
          have hm3 := HM.out.later hb
          have HM3 := Lib.hid hm3
          clear z0 z1 c0 c1 d0 d1 HF
          have z0 : w3.frozen? ⟨w.heap.size, 0, none⟩ = false := by simp [World.frozen?, hm3.2.1]
          have z1 : w3.frozen? ⟨w.heap.size, 1, none⟩ = false := by simp [World.frozen?, hm3.2.1]
          have c0 : w3.cell? ⟨w.heap.size, 0, none⟩ = some (.string ⟨#[]⟩) := by simp [World.cell?, hm3.2.1]
          have c1 : w3.cell? ⟨w.heap.size, 1, none⟩ = some (.slice none 0 0) := by simp [World.cell?, hm3.2.1]
          have d0 : w3.cell? ⟨S, 0, none⟩ = some (.string name) := by simp [World.cell?, hm3.2.2.1]
          have d1 : w3.cell? ⟨S, 1, none⟩ = some (.slice a tags.length cap) := by simp [World.cell?, hm3.2.2.1]
          have HF := Lib.hid (fail_world hm3.2.2.2.2 hm3.2.1)
          clear hm3 hcp
          cases ok1 with
          | false =>
            have HP := Lib.hid (ploop_key_none tags c (t.data.toList.drop (k + 1)) H44.out (hno rfl).1)
            clear hok hno
            go_wp2_with fail
            refine bodyPost_ret (results18 _ _ w.heap.size _ _ rfl (HF.out _ rfl).1 (HF.out _ rfl).2.1) rfl ?_
            refine ⟨(HF.out _ rfl).2.2, ?_⟩
            rw [HY.out, HT.out, HP.out]
            rfl
          | true =>
            obtain ⟨bk, m, rfl, hm, hsc, rfl, hkm, hbk⟩ := hok rfl
            clear hok hno
            by_cases hend : m < t.size
            · have hend' : ¬ (t.size : Int) ≤ (m : Int) := by omega
              obtain ⟨d, hdd⟩ : ∃ d, t[m] = d := ⟨_, rfl⟩
              have hdc := drop_cons t m hend
              rw [hdd] at hdc
              rw [hdc] at hsc
              by_cases h61 : d.toNat = 61
              · have hc61 : ((d.toNat : Int) != 61) = false := by simp; omega
                have H61 := Lib.hid h61
                have HSC := Lib.hid hsc
                clear h61 hsc hdc
                go_wp2_with fail
                refine (part t (m + 1) _ (by omega) (by omega)).mono ?_
                intro e w5 hcp
                obtain ⟨vb, z, ok2, rfl, hok, hno, hb⟩ := partPost_cases (by omega) hcp
                have hm5 := HM3.out.later hb
                have HM5 := Lib.hid hm5
                clear z0 z1 c0 c1 d0 d1 HF
                have z0 : w5.frozen? ⟨w.heap.size, 0, none⟩ = false := by simp [World.frozen?, hm5.2.1]
                have z1 : w5.frozen? ⟨w.heap.size, 1, none⟩ = false := by simp [World.frozen?, hm5.2.1]
                have c0 : w5.cell? ⟨w.heap.size, 0, none⟩ = some (.string ⟨#[]⟩) := by simp [World.cell?, hm5.2.1]
                have c1 : w5.cell? ⟨w.heap.size, 1, none⟩ = some (.slice none 0 0) := by simp [World.cell?, hm5.2.1]
                have d0 : w5.cell? ⟨S, 0, none⟩ = some (.string name) := by simp [World.cell?, hm5.2.2.1]
                have d1 : w5.cell? ⟨S, 1, none⟩ = some (.slice a tags.length cap) := by simp [World.cell?, hm5.2.2.1]
                have HF := Lib.hid (fail_world hm5.2.2.2.2 hm5.2.1)
                have z4 : w5.frozen? ⟨S, 1, none⟩ = false := by simp [World.frozen?, hm5.2.2.1]
                have hltS5 : S < w5.heap.size := lt_of_block hm5.2.2.1
                clear hm5 hcp
                cases ok2 with
                | false =>
                  have HP := Lib.hid (ploop_val_none tags c d _ _ _ H44.out HSC.out H61.out (hno rfl).1)
                  clear hok hno
                  go_wp2_with fail
                  refine bodyPost_ret (results18 _ _ w.heap.size _ _ rfl (HF.out _ rfl).1 (HF.out _ rfl).2.1) rfl ?_
                  refine ⟨(HF.out _ rfl).2.2, ?_⟩
                  rw [HY.out, HT.out, HP.out]
                  rfl
                | true =>
                  obtain ⟨bv, m2, rfl, hm2, hsc2, rfl, hkm2, hbv⟩ := hok rfl
                  have HSC2 := Lib.hid hsc2
                  clear hok hno hsc2
                  by_cases h8 : 8 < tags.length
                  · have HP := Lib.hid (fin_many name tags (c :: t.data.toList.drop (k + 1)) h8)
                    have h8' : (8 : Int) < (tags.length : Int) := by omega
                    go_wp2_with fail
                    refine bodyPost_ret (results18 _ _ w.heap.size _ _ rfl (HF.out _ rfl).1 (HF.out _ rfl).2.1) rfl ?_
                    refine ⟨(HF.out _ rfl).2.2, ?_⟩
                    rw [HY.out, HT.out, HP.out]
                    rfl
                  · have h8' : ¬ (8 : Int) < (tags.length : Int) := by omega
                    go_wp2_with ((at_builtin; go_must (refine wpList_append_own _ rfl (.tmp 75) (.tmp 79) 22 rfl (S + 1) 34 i0 _ 2 32 Try.underlying22 HI.out HZ0.out HZ1.out HZ2.out rfl (by omega) _ tags.length _ rfl (World.ownsRow.alloc HM5.out.2.2.2.1 _) ⟨w5.heap.size, 0, none⟩ 1 1 [.string (ofL bk), .string (ofL bv)] rfl rfl (World.news_of_block (cs := #[.string (ofL bk), .string (ofL bv)]) (t := 34) (fr := (0, 0)) (heap_alloc_new w5 _)) (by simp [Value.oneCell']) (by unfold maxLen; omega) (by omega) (by simp; omega) ?_); intro v1 w7 hown1 hgrow1 hnn; clear hnn; obtain ⟨gv, cv, rfl, _, _⟩ := hown1.form (by omega); obtain ⟨f0, f1, f2⟩ := HM5.out.grown hgrow1; have d7 : w7.cell? ⟨S, 1, none⟩ = some (.slice a tags.length cap) := (by simp [World.cell?, f1]); have z8 : w7.frozen? ⟨S, 1, none⟩ = false := (by simp [World.frozen?, f1]); have HMA := Lib.hid (MemS.append HM5.out.1 f0 f1 f2 hown1 rfl rfl); clear hown1 hgrow1 f0 f1 f2))
                    go_roundw
                    case rel =>
                      refine ⟨tags ++ [(ofL bk, ofL bv)], _, m2, rfl, hm2, ?_, by simp; omega, by simp; omega, ?_, HMA.out⟩
                      · rw [HY.out, HT.out, ploop_step _ c d _ _ _ _ _ H44.out HSC.out H61.out HSC2.out]
                      · intro p hp
                        rcases List.mem_append.1 hp with hp | hp
                        · exact HTZ.out p hp
                        · simp at hp
                          subst hp
                          exact ⟨by rw [ofL_size]; exact hbk, by rw [ofL_size]; exact hbv⟩
                    case measure => simp [intOf]; omega
              · have hc61 : ((d.toNat : Int) != 61) = true := by simp; omega
                have HP := Lib.hid (ploop_key_ne tags c d _ _ _ H44.out hsc h61)
                clear h61 hsc hdc
                go_wp2_with fail
                refine bodyPost_ret (results18 _ _ w.heap.size _ _ rfl (HF.out _ rfl).1 (HF.out _ rfl).2.1) rfl ?_
                refine ⟨(HF.out _ rfl).2.2, ?_⟩
                rw [HY.out, HT.out, HP.out]
                rfl
            · have hend' : (t.size : Int) ≤ (m : Int) := by omega
              rw [show t.data.toList.drop m = [] from List.drop_eq_nil_of_le (by simp; omega)] at hsc
              have HP := Lib.hid (ploop_key_end tags c _ _ H44.out hsc)
              clear hsc
              go_wp2_with fail
              refine bodyPost_ret (results18 _ _ w.heap.size _ _ rfl (HF.out _ rfl).1 (HF.out _ rfl).2.1) rfl ?_
              refine ⟨(HF.out _ rfl).2.2, ?_⟩
              rw [HY.out, HT.out, HP.out]
              rfl
        · have hc44 : ((c.toNat : Int) != 44) = true := by simp; omega
          have HP := Lib.hid (ploop_stop tags c (t.data.toList.drop (k + 1)) h44)
          clear h44
          go_wp2_with fail
          refine bodyPost_ret (results18 _ _ w.heap.size _ _ rfl (HF.out _ rfl).1 (HF.out _ rfl).2.1) rfl ?_
          refine ⟨(HF.out _ rfl).2.2, ?_⟩
          rw [HY.out, HT.out, HP.out]
          rfl
      · have HE := Lib.hid (show t.data.toList.drop k = [] from List.drop_eq_nil_of_le (by simp; omega))
        go_wp2_with fail
        refine (rformed name a tags.length cap (kOf tags) (vOf tags) _ (by omega) (by unfold maxLen; omega) (sizes_of HTZ.out (by unfold maxLen; omega)) (own_tags (by exact HM.out.2.2.2.1))).mono ?_
        rintro e w3 ⟨rfl, hb2⟩
        have hm3 := HM.out.later hb2
        clear z0 z1 c0 c1 d0 d1 HF
        have z0 : w3.frozen? ⟨w.heap.size, 0, none⟩ = false := by simp [World.frozen?, hm3.2.1]
        have z1 : w3.frozen? ⟨w.heap.size, 1, none⟩ = false := by simp [World.frozen?, hm3.2.1]
        have c0 : w3.cell? ⟨w.heap.size, 0, none⟩ = some (.string ⟨#[]⟩) := by simp [World.cell?, hm3.2.1]
        have c1 : w3.cell? ⟨w.heap.size, 1, none⟩ = some (.slice none 0 0) := by simp [World.cell?, hm3.2.1]
        have d0 : w3.cell? ⟨S, 0, none⟩ = some (.string name) := by simp [World.cell?, hm3.2.2.1]
        have d1 : w3.cell? ⟨S, 1, none⟩ = some (.slice a tags.length cap) := by simp [World.cell?, hm3.2.2.1]
        have HF := Lib.hid (fail_world hm3.2.2.2.2 hm3.2.1)
        have HD3 := Lib.hid hm3.done
        clear hm3 hb2
        cases hfm : formedB name tags.length (kOf tags) (vOf tags) with
        | false =>
          have HFM := Lib.hid hfm
          clear hfm
          go_wp2_with fail
          refine bodyPost_ret (results18 _ _ w.heap.size _ _ rfl (HF.out _ rfl).1 (HF.out _ rfl).2.1) rfl ?_
          refine ⟨(HF.out _ rfl).2.2, ?_⟩
          rw [HY.out, HE.out, ploop_end]
          simp only [fin, HFM.out]
          rfl
        | true =>
          have HFM := Lib.hid hfm
          clear hfm
          go_wp2_with fail
          refine bodyPost_ret (results18 _ _ w.heap.size _ _ rfl (HD3.out _ rfl).1 (HD3.out _ rfl).2.1) rfl ?_
          refine ⟨(HD3.out _ rfl).2.2.1, ?_⟩
          rw [HY.out, HE.out, ploop_end]
          simp only [fin, HFM.out]
          exact ⟨_, _, rfl, (HD3.out _ rfl).2.2.2⟩
end Go.Proofs.Ythiniiemhifcoaa
