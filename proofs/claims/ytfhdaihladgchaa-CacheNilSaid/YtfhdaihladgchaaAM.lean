/- Columns: all columns of a cache in order, their points in new rows. Condition: what it holds is in its bounds. -/
import Derived.Test.YtfhdaihladgchaaAL
namespace Go.Proofs.Ytfhdaihladgchaa
open Go.RowKit Go.Sort Go.Maps
theorem key_form {w : World} {base n : Nat} {v : Value} {xs : List Value} (h : w.ownsRow base 63 2 v n xs) : ∃ a c, v = .slice a n c := by
  rcases h.2 with ⟨h1, h2⟩ | ⟨g, c, cur, h1, _⟩
  · exact ⟨none, 0, by rw [h1, h2]⟩
  · exact ⟨_, c, h1⟩
theorem row_lower {w : World} {b b' n size : Nat} {t : TypeId} {v : Value} {xs : List Value} (h : w.ownsRow b t size v n xs) (hb : b' ≤ b) : w.ownsRow b' t size v n xs := by
  refine ⟨h.1, ?_⟩
  rcases h.2 with hh | ⟨g', c, cur, hh, h1, hrest⟩
  · exact .inl hh
  · exact .inr ⟨g', c, cur, hh, Nat.le_trans hb h1, hrest⟩
theorem types_apart {w : World} {b b' n n' z z' : Nat} {t t' : TypeId} {u v : Value} {xs ys : List Value} (hu : w.ownsRow b t z u n xs) (hv : w.ownsRow b' t' z' v n' ys) (ht : t ≠ t') {k : Nat} (hk : u.ownBlock = some k) : v.ownBlock ≠ some k := fun e => by
  rcases hu.2 with ⟨rfl, _⟩ | ⟨g, c, cur, rfl, _, hg, _⟩
  · cases hk
  · cases hk
    rcases hv.2 with ⟨rfl, _⟩ | ⟨g', c', cur', rfl, _, hg', _⟩
    · cases e
    · cases e
      rw [hg'] at hg
      simp at hg
      exact ht hg.2.symm
theorem key_cells {w : World} {base n c : Nat} {a : Option Addr} {ks : List Ky} (h : w.ownsRow base 63 2 (.slice a n c) n (ks.flatMap encP)) (hl : ks.length = n) (k : Nat) (p : Ky) (hp : ks[k]? = some p) : ∃ g, a = some ⟨g, 0, none⟩ ∧ w.cell? ⟨g, k * 2, none⟩ = some (.string p.1) ∧ w.cell? ⟨g, k * 2 + 1, none⟩ = some (.string p.2) := by
  obtain ⟨hk, rfl⟩ := List.getElem?_eq_some_iff.1 hp
  rcases h.2 with ⟨_, h0⟩ | ⟨g, c', cur, hv, _⟩
  · omega
  · injection hv with e1 e2 e3
    subst e1
    refine ⟨g, rfl, ?_, ?_⟩
    · rw [h.cellAt (k * 2) (by omega), flat_get ks (k * 2) (by omega), show k * 2 / 2 = k by omega, show k * 2 % 2 = 0 by omega]
      rw [getElem!_pos ks.toArray k (by simpa using hk)]; simp [encP]
    · rw [h.cellAt (k * 2 + 1) (by omega), flat_get ks (k * 2 + 1) (by omega), show (k * 2 + 1) / 2 = k by omega, show (k * 2 + 1) % 2 = 1 by omega]
      rw [getElem!_pos ks.toArray k (by simpa using hk)]; simp [encP]
theorem cols_len {w : World} {S : Nat → Prop} {c m : Nat} {L : List Col} {most size : Int} (h : CacheAt w S c m L most size) : L.length ≤ total L := by
  have : ∀ l : List Col, (∀ x ∈ l, x.l ≠ []) → l.length ≤ (l.map fun x => x.l.length).sum := by
    intro l
    induction l with
    | nil => intro _; exact Nat.le_refl _
    | cons x r ih =>
      intro hl
      have h1 := ih fun y hy => hl y (by simp [hy])
      have h2 : 0 < x.l.length := List.length_pos_iff.2 (hl x (by simp))
      simp only [List.map_cons, List.sum_cons, List.length_cons]
      omega
  exact this L fun x hx => (h.col x hx).2.2.1
theorem colsP_snoc {L : List Col} {ks : List Ky} {k : Nat} {x : Ky} (h : ks[k]? = some x) : colsP L (ks.take (k + 1)) = colsP L (ks.take k) ++ [(x.1, x.2, ptsOf (look L x.1 x.2))] := by
  obtain ⟨hk, rfl⟩ := List.getElem?_eq_some_iff.1 h
  unfold colsP
  rw [List.take_succ_eq_append_getElem hk, List.map_append]; rfl
def ColsOwn (w : World) (Ro : List RC) (wr : World) : Prop := ∀ y ∈ Ro, wr.ownsRow w.heap.size 33 4 y.v y.l.length (ptC y.l)
def InCols (w : World) (L : List Col) (ks : List Ky) (v : Value) (n : Nat) (q i : Value) (wr : World) : Prop :=
  ∃ (k : Nat) (Ro : List RC), k ≤ n ∧ i = .int .i64 k ∧ Ro.map pc = colsP L (ks.take k) ∧ Ro.length = k ∧ wr.ownsRow w.heap.size 55 3 q k (rcC Ro) ∧ ColsOwn w Ro wr ∧ wr.ownsRow w.heap.size 63 2 v n (ks.flatMap encP) ∧ Below w.heap.size w wr
def ColsPost (w : World) (L : List Col) (e : Ending) (w' : World) : Prop :=
  ∃ (v : Value) (Ro : List RC) (ks : List Ky), e = .returned v ∧ KeysOf L ks ∧ SortedKs ks ∧ Ro.map pc = colsP L ks ∧ w'.ownsRow w.heap.size 55 3 v Ro.length (rcC Ro) ∧ ColsOwn w Ro w' ∧ Below w.heap.size w w'
set_option maxHeartbeats 4000000 in
set_option maxRecDepth 100000 in
theorem columnsC (w : World) (S : Nat → Prop) (c m : Nat) (L : List Col) (most size : Int) (h : CacheAt w S c m L most size) (hn : total L ≤ 1000000000000) :
    Calls Try.prog 19 #[.pointer (some ⟨c, 0, none⟩)] w (ColsPost w L) := by
  obtain ⟨j0, y0', hi', hz0', hz1', hz2', hz3'⟩ := zparts55
  have HJ := Lib.hid hi'
  have HJ0 := Lib.hid hz0'
  have HJ1 := Lib.hid hz1'
  have HJ2 := Lib.hid hz2'
  have HJ3 := Lib.hid hz3'
  have hll : L.length ≤ 1000000000000 := Nat.le_trans (cols_len h) hn
  have hb0 := (Below.refl w.heap.size w).alloc (Nat.le_refl _) (.cells #[.map (some m)] 58)
  have hm0 : (w.alloc (.cells #[.map (some m)] 58)).heap[w.heap.size]? = some (.cells #[.map (some m)] 58 (0, 0)) := heap_alloc_new w _
  have hsk := sortedKeys (w.alloc (.cells #[.map (some m)] 58)) w.heap.size m L (by simp) (by simp only [World.cell?, hm0]; rfl) (h.later hb0).map h.sizes hll
  have HSK := Lib.hid hsk
  have HB0 := Lib.hid hb0
  have HH := Lib.hid h
  have HLL := Lib.hid hll
  have HN := Lib.hid hn
  have hblk := h.blk
  have c2 : w.cell? ⟨c, 2, none⟩ = some (.map (some m)) := by simp [World.cell?, hblk]
  clear hi' hz0' hz1' hz2' hz3' h hn hll hb0 hm0 hsk hblk
  go_enter Try.func19, Try.ntmps19
  go_wp2_with fail
  refine (mapsKeys (some m) w).mono ?_
  rintro e w1 ⟨rfl, rfl⟩
  go_wp2_with fail
  refine HSK.out.mono ?_
  rintro e w2 ⟨v, ks, rfl, hK, hSo, hr, hb⟩
  have hr' := row_lower (b' := w.heap.size) hr (by simp)
  have hb' := HB0.out.trans (hb.mono (by simp))
  obtain ⟨n, hnn⟩ : ∃ n, ks.length = n := ⟨_, rfl⟩
  rw [hnn] at hr'
  obtain ⟨ka, kc, rfl⟩ := key_form hr'
  have hn9 : n ≤ 1000000000000 := by rw [← hnn]; exact Nat.le_trans hK.len HLL.out
  have HK := Lib.hid hK
  have HSO := Lib.hid hSo
  have HR' := Lib.hid hr'
  have HB' := Lib.hid hb'
  have HNN := Lib.hid hnn
  clear hK hSo hr hb hr' hb' hnn c2
  go_wp2_with fail
  go_loopw [4, 17] (fun q i wr => InCols w L ks (.slice ka n kc) n q i wr) (fun _ i _ => n - (intOf i).toNat)
  case atStart => exact ⟨0, [], Nat.zero_le _, rfl, rfl, rfl, World.ownsRow_nil _ _ _ _, (fun y hy => nomatch hy), HR'.out, HB'.out⟩
  case round =>
    obtain ⟨k, Ro, hkn, rfl, hmap, hrol, hout, hco, hkr, hbw⟩ := hrel
    have HMAP := Lib.hid hmap
    have HROL := Lib.hid hrol
    have HOUT := Lib.hid hout
    have HCO := Lib.hid hco
    have HKR := Lib.hid hkr
    have HBW := Lib.hid hbw
    clear hmap hrol hout hco hkr hbw
    by_cases hlt : k < n
    · obtain ⟨x, hx⟩ : ∃ x, ks[k]? = some x := ⟨_, List.getElem?_eq_getElem (by rw [HNN.out]; exact hlt)⟩
      obtain ⟨g, rfl, q0, q1⟩ := key_cells HKR.out HNN.out k x hx
      obtain ⟨se, fi⟩ := x
      have hsz : se.size ≤ maxLen ∧ fi.size ≤ maxLen := by
        obtain ⟨d, hd, he⟩ := (HK.out.mem (se, fi)).1 (List.mem_of_getElem? hx)
        cases he
        exact HH.out.sizes d hd
      have hk1 : (wr.alloc (.cells #[.string se, .string fi] 63)).heap[wr.heap.size]? = some (.cells #[.string se, .string fi] 63 (0, 0)) := heap_alloc_new wr _
      have hb1 := (Below.refl wr.heap.size wr).alloc (Nat.le_refl _) (.cells #[.string se, .string fi] 63)
      have hh1 := HH.out.later (HBW.out.trans (hb1.mono HBW.out.size))
      have hout1 := row55_later HOUT.out hb1
      have hs1 : (wr.alloc (.cells #[.string se, .string fi] 63)).heap.size = wr.heap.size + 1 := by simp
      obtain ⟨w1, hw1⟩ : ∃ w1, wr.alloc (.cells #[.string se, .string fi] 63) = w1 := ⟨_, rfl⟩
      obtain ⟨kb, hkb⟩ : ∃ kb, wr.heap.size = kb := ⟨_, rfl⟩
      rw [hw1] at hk1 hb1 hh1 hout1 hs1
      rw [hkb] at hk1 hs1
      have hSP : ∀ w', w'.heap[c]? = w1.heap[c]? → w'.heap[m]? = w1.heap[m]? → w'.heap[kb]? = w1.heap[kb]? → w'.cell? ⟨c, 2, none⟩ = some (.map (some m)) ∧ w'.cell? ⟨kb, 0, none⟩ = some (.string se) ∧ w'.cell? ⟨kb, 1, none⟩ = some (.string fi) ∧ (Instr.lookup 58 (.map (some m)) (.agg #[.string se, .string fi]) false).run Try.prog w' = .ok (valOf (look L se fi)) w' := fun w' e1 e2 e3 => by
        have h2 := e1.trans hh1.blk
        have h3 := e3.trans hk1
        exact ⟨by simp [World.cell?, h2], by simp [World.cell?, h3], by simp [World.cell?, h3], lookup_map hh1 e2 se fi hsz.1 hsz.2⟩
      have hcl : c < w1.heap.size ∧ m < w1.heap.size ∧ kb < w1.heap.size := ⟨heap_lt hh1.blk, by obtain ⟨es, cl, hm, _⟩ := hh1.map; exact heap_lt hm, heap_lt hk1⟩
      have hne9 : (∀ b, u4.ownBlock = some b → b ≠ c ∧ b ≠ m ∧ b ≠ kb) := fun b hb => by
        have h1 := HOUT.out.lt b hb
        have h2 := heap_lt HH.out.blk
        have h3 : m < w.heap.size := by obtain ⟨es, cl, hm, _⟩ := HH.out.map; exact heap_lt hm
        omega
      obtain ⟨hrow, _⟩ := valOf_row hh1 se fi
      obtain ⟨v, hv⟩ : ∃ v, valOf (look L se fi) = v := ⟨_, rfl⟩
      obtain ⟨l, hl⟩ : ∃ l, ptsOf (look L se fi) = l := ⟨_, rfl⟩
      have hln : l.length ≤ 1000000000000 := by rw [← hl]; exact Nat.le_trans (len_le HH.out se fi) HN.out
      rw [hv] at hrow hSP
      rw [hl] at hrow
      have HSRC := Lib.hid (show SrcN w1.drew 4 v l.length (ptC l) from row_src (base := 0) (ownsRow_same hrow fun _ _ => rfl))
      have HSP := Lib.hid hSP
      have HSB := Lib.hid (fun w' (hb : Below w1.heap.size w1 w') => hSP w' (hb.block c hcl.1) (hb.block m hcl.2.1) (hb.block kb hcl.2.2))
      have HCL := Lib.hid hcl
      have HNE9 := Lib.hid hne9
      have HOUT1 := Lib.hid hout1
      have HB1 := Lib.hid hb1
      have HLN := Lib.hid hln
      have HL := Lib.hid hl
      have HX := Lib.hid hx
      have HS1 := Lib.hid hs1
      have HKB := Lib.hid hkb
      obtain ⟨k0, k1, k2, k3⟩ := hSP _ rfl rfl rfl
      clear hsz hk1 hb1 hh1 hout1 hs1 hSP hcl hne9 hrow hv hl hln hx
      go_wp2_with fail
      clear hw1 hkb
      go_region_held3 (fun w' => w'.cell? ⟨c, 2, none⟩ = some (.map (some m)) ∧ w'.cell? ⟨kb, 0, none⟩ = some (.string se) ∧ w'.cell? ⟨kb, 1, none⟩ = some (.string fi) ∧ (Instr.lookup 58 (.map (some m)) (.agg #[.string se, .string fi]) false).run Try.prog w' = .ok v w') (first | exact HS9.out | exact HS3.out | exact HS2.out | exact HSB.out _ ((Below.refl _ _).drew) | go_keep)
        (first
          | (go_at_call 26; refine (clone _ v l HSRC.out HLN.out).mono ?_; rintro e w2 ⟨v', rfl, hr2, hb2⟩; obtain ⟨a2, d2, rfl⟩ := row_form hr2; have HB2 := Lib.hid (((Below.refl w1.heap.size w1).drew).trans hb2); have HR2 := Lib.hid hr2; have HS2 := Lib.hid (HSB.out _ HB2.out); have HB3 := Lib.hid (HB2.out.alloc HB2.out.size (.cells #[.string se, .string fi, .slice a2 l.length d2] 55)); have HA3 := Lib.hid ((Below.refl w2.heap.size w2).alloc (Nat.le_refl _) (.cells #[.string se, .string fi, .slice a2 l.length d2] 55)); have HS3 := Lib.hid (HSB.out _ HB3.out); have HOUT3 := Lib.hid (row55_later (row55_later HOUT1.out HB2.out) HA3.out); have HSRC3 := Lib.hid (SrcN.of_block (size := 3) (m := 1) (heap_alloc_new w2 (.cells #[.string se, .string fi, .slice a2 l.length d2] 55)) rfl (by simp [Value.oneCell']) 1); clear hr2 hb2)
          | (refine step_append_srcN rfl _ _ 46 rfl w.heap.size 55 j0 y0' 3 56 Try.underlying46 HJ.out HJ0.out HJ1.out HJ2.out HJ3.out (by omega) _ k _ rfl HOUT3.out _ 1 _ rfl HSRC3.out (by unfold maxLen; omega) (by omega) (by have h1 := HB3.out.size; have h2 := HB1.out.size; have h3 := HBW.out.size; omega) ?_; intro a9 c9 w9 hr9 hg9 hat9; have HR9 := Lib.hid hr9; have HG9 := Lib.hid hg9; have HBK := Lib.hid (fun b (h1 : b < w1.heap.size) (h2 : u4.ownBlock ≠ some b) => (hg9.block b (Nat.lt_of_lt_of_le h1 HB3.out.size) (fun e => h2 e.symm)).trans (HB3.out.block b h1)); have HS9 := Lib.hid (HSP.out w9 (HBK.out c HCL.out.1 (fun e => (HNE9.out c e).1 rfl)) (HBK.out m HCL.out.2.1 (fun e => (HNE9.out m e).2.1 rfl)) (HBK.out kb HCL.out.2.2 (fun e => (HNE9.out kb e).2.2 rfl))); clear hr9 hg9 hat9))
      clear k0 k1 k2 k3
      go_wp2_with fail
      go_roundw
      case rel =>
        have hap : ∀ (z n' : Nat) (u : Value) (xs : List Value) (b' z' : Nat) (t : TypeId), t ≠ 55 → (w2.alloc (.cells #[.string se, .string fi, .slice a2 l.length d2] 55)).ownsRow b' t z' u n' xs → u.ownBlock = some z → w9.heap[z]? = (w2.alloc (.cells #[.string se, .string fi, .slice a2 l.length d2] 55)).heap[z]? := fun z n' u xs b' z' t ht hu hg => HG9.out.block z (hu.lt z hg).2 (fun e => types_apart hu HOUT3.out ht hg e.symm)
        have hb3 : Below wr.heap.size wr (w2.alloc (.cells #[.string se, .string fi, .slice a2 l.length d2] 55)) := HB1.out.trans (HB3.out.mono HB1.out.size)
        have hbw3 := HBW.out.trans (hb3.mono HBW.out.size)
        refine ⟨k + 1, Ro ++ [⟨se, fi, .slice a2 l.length d2, l⟩], by omega, by go_num, ?_, by rw [List.length_append, HROL.out]; rfl, ?_, fun y hy => ?_, ?_, hbw3.grown HG9.out hbw3.size (fun b hb => (HOUT3.out.lt b hb).1)⟩
        · rw [List.map_append, HMAP.out, colsP_snoc HX.out, HL.out]; rfl
        · rw [rcC_append]; exact HR9.out
        · rcases List.mem_append.1 hy with hy | hy
          · have h3 := row_later (HCO.out y hy) hb3
            exact ownsRow_same h3 fun z hz => hap z _ _ _ _ _ _ (by decide) h3 hz
          · have hy' := List.mem_singleton.1 hy
            rw [hy']
            have h3 := row_lower (b' := w.heap.size) (row_later HR2.out HA3.out) (by have h2 := HB1.out.size; have h3 := HBW.out.size; show w.heap.size ≤ w1.heap.size; omega)
            exact ownsRow_same h3 fun z hz => hap z _ _ _ _ _ _ (by decide) h3 hz
        · have h3 := row_later HKR.out hb3
          exact ownsRow_same h3 fun z hz => hap z _ _ _ _ _ _ (by decide) h3 hz
      case measure => simp [intOf]; omega
    · have hk : k = n := by omega
      have HKN := Lib.hid hk
      have hout := HOUT.out
      obtain ⟨oa, oc, rfl⟩ := row55_form hout
      clear hk hout
      go_wp2_with fail
      go_ret
      have htk : ks.take k = ks := List.take_of_length_le (by rw [HNN.out, HKN.out]; exact Nat.le_refl _)
      have hmap := HMAP.out
      rw [htk] at hmap
      exact ⟨_, Ro, ks, rfl, HK.out, HSO.out, hmap, by rw [HROL.out]; exact HOUT.out, HCO.out, HBW.out⟩
end Go.Proofs.Ytfhdaihladgchaa
