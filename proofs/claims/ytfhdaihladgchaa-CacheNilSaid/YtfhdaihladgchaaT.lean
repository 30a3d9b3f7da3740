/- A range of a column is taken out of the cache; all is. Conditions: what the cache holds is in its bounds. -/
import Derived.Test.YtfhdaihladgchaaS
import Derived.Deep.RegionHeld3
import Derived.Maps.OwnSet
namespace Go.Proofs.Ytfhdaihladgchaa
open Go.RowKit Go.WideMaps
/-- What is left behind a range. -/
def cutL (l : List Pt) (a b : Int) : List Pt := l.take (loI l a) ++ l.drop (endI l a b)
theorem lo_le_end (l : List Pt) (a b : Int) : loI l a ≤ endI l a b := Nat.le_max_left _ _
theorem end_le (l : List Pt) (a b : Int) : endI l a b ≤ l.length := Nat.max_le.2 ⟨loI_le l a, hiI_le l b⟩
theorem cutL_sub (l : List Pt) (a b : Int) : (cutL l a b).Sublist l := by
  have h := lo_le_end l a b
  have h1 : l.drop (endI l a b) = (l.drop (loI l a)).drop (endI l a b - loI l a) := by rw [List.drop_drop]; congr 1; omega
  have h2 : (cutL l a b).Sublist (l.take (loI l a) ++ l.drop (loI l a)) := by
    unfold cutL
    rw [h1]
    exact (List.Sublist.refl _).append (List.drop_sublist _ _)
  rwa [List.take_append_drop] at h2
theorem cutL_len (l : List Pt) (a b : Int) : (cutL l a b).length + (endI l a b - loI l a) = l.length := by
  have h := lo_le_end l a b
  have h1 := end_le l a b
  unfold cutL
  rw [List.length_append, List.length_take, List.length_drop]
  omega
/-- What a map's deletion leaves. -/
structure Gone (w4 w6 : World) (v : Value) (m : Nat) (L : List Col) (s f : ByteArray) : Prop where
  map : w6.ownsMap Try.prog 63 rowE m L.length ((DataW.map (L.map ent)).del (kL s f))
  os : w6.os = w4.os
  tape : w6.tape = w4.tape
  output : w6.output = w4.output
  size : w4.heap.size ≤ w6.heap.size
  block : ∀ k, k < w4.heap.size → v.ownBlock ≠ some k → k ≠ m → w6.heap[k]? = w4.heap[k]?
theorem CacheAt.gone {w4 w6 : World} {S : Nat → Prop} {c m : Nat} {L : List Col} {most size : Int} (h : CacheAt w4 S c m L most size) {s f : ByteArray} (hs : s.size ≤ maxLen) (hf : f.size ≤ maxLen) (hld : Gone w4 w6 (valOf (look L s f)) m L s f) (sz' : Int) :
    CacheAt (w6.setCell ⟨c, 1, none⟩ (.int .i64 sz')) (With S w4 (w6.setCell ⟨c, 1, none⟩ (.int .i64 sz'))) c m (dropC L s f) most sz' ∧ Turns S w4 (w6.setCell ⟨c, 1, none⟩ (.int .i64 sz')) := by
  have hcl := heap_lt h.blk
  have hrow := (valOf_row h s f).1
  obtain ⟨es, cl, hm, _⟩ := h.map
  have hml := heap_lt hm
  have hcm : c ≠ m := fun e => by have h1 := h.blk; rw [e, hm] at h1; cases h1
  have hvc : ∀ {n : Nat} {v : Value} {xs : List Value}, w4.ownsRow 0 33 4 v n xs → v.ownBlock ≠ some c := fun hw e => by
    obtain ⟨cur, hcur⟩ := row_block hw e
    rw [h.blk] at hcur
    simp at hcur
  have hvm : ∀ {n : Nat} {v : Value} {xs : List Value}, w4.ownsRow 0 33 4 v n xs → v.ownBlock ≠ some m := fun hw e => by
    obtain ⟨cur, hcur⟩ := row_block hw e
    rw [hm] at hcur
    cases hcur
  have hc6 : w6.heap[c]? = some (.cells #[.int .i64 most, .int .i64 size, .map (some m)] 60 (0, 0)) := (hld.block c hcl (hvc hrow) hcm).trans h.blk
  have hset : ∀ k, k ≠ c → (w6.setCell ⟨c, 1, none⟩ (.int .i64 sz')).heap[k]? = w6.heap[k]? := fun k hk => RowKit.Below.heap_setCell _ _ _ _ hk
  have hsize : (w6.setCell ⟨c, 1, none⟩ (.int .i64 sz')).heap.size = w6.heap.size := by simp
  have hT : Turns S w4 (w6.setCell ⟨c, 1, none⟩ (.int .i64 sz')) := by
    refine ⟨hld.os, hld.tape, hld.output, by rw [hsize]; exact hld.size, fun k hk hn => ?_⟩
    have h1 : k ≠ c := fun e => hn (e ▸ h.here.1)
    have h2 : k ≠ m := fun e => hn (e ▸ h.here.2)
    rw [hset k h1]
    refine hld.block k hk (fun e => hn ?_) h2
    cases he : look L s f with
    | none => rw [he] at e; cases e
    | some x => rw [he] at e; exact h.mine x (look_mem he).1 k e
  have hmem : ∀ x, x ∈ dropC L s f → x ∈ L ∧ isCol s f x = false := fun x hx => by
    have := List.mem_filter.1 hx
    exact ⟨this.1, by simpa using this.2⟩
  have hmap := (hld.map.setCell (Ne.symm hcm) (.int .i64 sz') : (w6.setCell ⟨c, 1, none⟩ (.int .i64 sz')).ownsMap _ _ _ _ _ _)
  refine ⟨⟨?_, ?_, fun x hx => ?_, h.apart.sublist List.filter_sublist, ⟨.inl h.here.1, .inl h.here.2⟩, fun x hx g hg => .inl (h.mine x (hmem x hx).1 g hg)⟩, hT⟩
  · have := heap_setCell_same w6 c 1 _ 60 (.int .i64 sz') hc6
    rw [this]; rfl
  · have e1 : (DataW.map (L.map ent)).del (kL s f) = .map ((dropC L s f).map ent) := by
      show DataW.map ((L.map ent).filter fun p => !p.1.sameKey (kL s f)) = _
      rw [put_dropC h.sizes hs hf]
    rw [e1] at hmap
    obtain ⟨es, cl, h1, h2, h3, h4⟩ := hmap
    refine ⟨es, cl, h1, h2, ?_, h4⟩
    injection h4 with h4
    have := congrArg List.length h4
    rw [length_sorted] at this
    simp at this
    exact Nat.le_of_eq this.symm
  · obtain ⟨h1, h2⟩ := hmem x hx
    obtain ⟨h3, h4⟩ := h.col x h1
    refine ⟨ownsRow_same h3 fun g hg => ?_, h4⟩
    have hgv : (valOf (look L s f)).ownBlock ≠ some g := apart_look h h1 h2 hg
    exact (hset g fun e => hvc h3 (e ▸ hg)).trans (hld.block g (h3.lt g hg).2 hgv fun e => hvm h3 (e ▸ hg))
theorem look_dropC_pts (L : List Col) (s f : ByteArray) (s' f' : ByteArray) : ptsOf (look (dropC L s f) s' f') = if s' = s ∧ f' = f then [] else ptsOf (look L s' f') := by
  by_cases h : s' = s ∧ f' = f
  · rw [if_pos h]
    obtain ⟨rfl, rfl⟩ := h
    rw [look_dropC']; rfl
  · rw [if_neg h, look_dropC L s f s' f' h]
theorem lookup_map {w w' : World} {S : Nat → Prop} {c m : Nat} {L : List Col} {most size : Int} (h : CacheAt w S c m L most size) (hm : w'.heap[m]? = w.heap[m]?) (s f : ByteArray) (hs : s.size ≤ maxLen) (hf : f.size ≤ maxLen) :
    (Instr.lookup 58 (.map (some m)) (kV s f) false).run Try.prog w' = .ok (valOf (look L s f)) w' := by
  obtain ⟨es, cl, hmm, hrest⟩ := h.map
  have hmap : w'.ownsMap Try.prog 63 rowE m L.length (.map (L.map ent)) := ⟨es, cl, hm.trans hmm, hrest⟩
  obtain ⟨v, ps, hr, hv⟩ := hmap.lookup keyed63 Try.underlying58 (zero23 w') (zd := .nil) (zp := []) rfl (key := kV s f) (kl := kL s f) (key63 s f hs hf)
  rw [atKey_look (fun x hx => ⟨(h.col x hx).2.2.2.1, (h.col x hx).2.2.2.2⟩) hs hf] at hv
  rw [hr]
  cases hl : look L s f with
  | none =>
    rw [hl] at hv
    rw [rowE_inj hv (v' := .slice none 0 0) (p' := []) rfl]; rfl
  | some e =>
    rw [hl] at hv
    rw [rowE_inj hv (rowD_of (h.col e (look_mem hl).1).1)]; rfl
theorem val_ne {w : World} {S : Nat → Prop} {c m : Nat} {L : List Col} {most size : Int} (h : CacheAt w S c m L most size) (s f : ByteArray) : (valOf (look L s f)).ownBlock ≠ some c ∧ (valOf (look L s f)).ownBlock ≠ some m ∧ c ≠ m ∧ ∀ g, (valOf (look L s f)).ownBlock = some g → S g := by
  have hrow := (valOf_row h s f).1
  obtain ⟨es, cl, hm, _⟩ := h.map
  refine ⟨fun e => ?_, fun e => ?_, fun e => ?_, fun g hg => ?_⟩
  · obtain ⟨cur, hcur⟩ := row_block hrow e
    rw [h.blk] at hcur
    simp at hcur
  · obtain ⟨cur, hcur⟩ := row_block hrow e
    rw [hm] at hcur
    cases hcur
  · have h1 := h.blk; rw [e, hm] at h1; cases h1
  · cases he : look L s f with
    | none => rw [he] at hg; cases hg
    | some x => rw [he] at hg; exact h.mine x (look_mem he).1 g hg
theorem ret_int {x y : Int} (h : x = y) : Ending.returned (.int .i64 x) = .returned (.int .i64 y) := by rw [h]
def TakePost (w : World) (S : Nat → Prop) (c m : Nat) (L : List Col) (most : Int) (s f : ByteArray) (a b : Int) (e : Ending) (w' : World) : Prop :=
  ∃ L', e = .returned (.int .i64 ((endI (ptsOf (look L s f)) a b - loI (ptsOf (look L s f)) a : Nat) : Int)) ∧ Turns S w w' ∧ CacheAt w' (With S w w') c m L' most (total L') ∧ (∀ s' f', ptsOf (look L' s' f') = if s' = s ∧ f' = f then cutL (ptsOf (look L s f)) a b else ptsOf (look L s' f')) ∧ total L' + (endI (ptsOf (look L s f)) a b - loI (ptsOf (look L s f)) a) = total L
set_option maxRecDepth 100000 in
theorem take (w : World) (S : Nat → Prop) (c m : Nat) (L : List Col) (most : Int) (s f : ByteArray) (a b : Int) (h : CacheAt w S c m L most (total L)) (hs : s.size ≤ maxLen) (hf : f.size ≤ maxLen) (hn : total L ≤ 1000000000000) :
    Calls Try.prog 21 #[.pointer (some ⟨c, 0, none⟩), .string s, .string f, .int .i64 a, .int .i64 b] w (TakePost w S c m L most s f a b) := by
  have hln : (ptsOf (look L s f)).length ≤ 1000000000000 := Nat.le_trans (len_le h s f) hn
  have hb1 : Below w.heap.size w (w.alloc (Obj.cells #[Value.string s, Value.string f] 63)) := (Below.refl _ _).alloc (Nat.le_refl _) _
  have hk1 : (w.alloc (Obj.cells #[Value.string s, Value.string f] 63)).heap[w.heap.size]? = some (.cells #[.string s, .string f] 63 (0, 0)) := heap_alloc_new w _
  obtain ⟨w1, hw1⟩ : ∃ w1, w.alloc (Obj.cells #[Value.string s, Value.string f] 63) = w1 := ⟨_, rfl⟩
  obtain ⟨kb, hkb⟩ : ∃ kb, w.heap.size = kb := ⟨_, rfl⟩
  rw [hw1] at hb1 hk1
  rw [hkb] at hk1
  have hsz1 : w1.heap.size = kb + 1 := by rw [← hw1, ← hkb]; simp
  have hh1 := h.later hb1
  have hS : ∀ w', Below w1.heap.size w1 w' → w'.cell? ⟨c, 2, none⟩ = some (.map (some m)) ∧ w'.cell? ⟨kb, 0, none⟩ = some (.string s) ∧ w'.cell? ⟨kb, 1, none⟩ = some (.string f) ∧ (Instr.lookup 58 (.map (some m)) (.agg #[.string s, .string f]) false).run Try.prog w' = .ok (valOf (look L s f)) w' := fun w' hb => by
    have h1 := hh1.later hb
    have h2 := h1.blk
    have h3 := (hb.block kb (by omega)).trans hk1
    exact ⟨by simp [World.cell?, h2], by simp [World.cell?, h3], by simp [World.cell?, h3], h1.lookup s f hs hf⟩
  obtain ⟨hrow, hris⟩ := valOf_row hh1 s f
  obtain ⟨v, hv⟩ : ∃ v, valOf (look L s f) = v := ⟨_, rfl⟩
  obtain ⟨l, hl⟩ : ∃ l, ptsOf (look L s f) = l := ⟨_, rfl⟩
  rw [hv] at hrow hS
  rw [hl] at hrow hris hln
  have HS := Lib.hid hS
  have HV := Lib.hid hv
  have HL := Lib.hid hl
  have HROW := Lib.hid hrow
  have HRIS := Lib.hid hris
  have HLN := Lib.hid hln
  have HN := Lib.hid hn
  have HH1 := Lib.hid hh1
  have HB1 := Lib.hid hb1
  have HK1 := Lib.hid hk1
  have HSZ1 := Lib.hid hsz1
  have HKB := Lib.hid hkb
  have HH := Lib.hid h
  obtain ⟨k0, k1, k2, k3⟩ := hS _ ((Below.refl _ _).drew)
  clear hln hb1 hk1 hsz1 hh1 hS hrow hris hv hl hn h
  go_enter Try.func21, Try.ntmps21
  go_wp2_with fail
  clear hw1 hkb
  have HROWD := Lib.hid (show w1.drew.ownsRow 0 33 4 v l.length (ptC l) from ownsRow_same HROW.out fun _ _ => rfl)
  go_region_held3 (fun w' => w'.cell? ⟨c, 2, none⟩ = some (.map (some m)) ∧ w'.cell? ⟨kb, 0, none⟩ = some (.string s) ∧ w'.cell? ⟨kb, 1, none⟩ = some (.string f) ∧ (Instr.lookup 58 (.map (some m)) (.agg #[.string s, .string f]) false).run Try.prog w' = .ok v w') (first | exact HS.out _ HB2.out | exact HS.out _ ((Below.refl _ _).drew) | go_keep)
    (first
      | (go_at_call 25; refine (between _ 0 v l a b HROWD.out HRIS.out HLN.out).mono ?_; rintro e w2 ⟨rfl, hb2⟩; have HB2 := Lib.hid (((Below.refl w1.heap.size w1).drew).trans hb2); clear hb2))
  clear k0 k1 k2 k3
  obtain ⟨k0, k1, k2, k3⟩ := HS.out _ HB2.out
  obtain ⟨lo, hlo⟩ : ∃ n, loI l a = n := ⟨_, rfl⟩
  obtain ⟨en, hen⟩ : ∃ n, endI l a b = n := ⟨_, rfl⟩
  have hle : lo ≤ en := by rw [← hlo, ← hen]; exact lo_le_end l a b
  have hel : en ≤ l.length := by rw [← hen]; exact end_le l a b
  rw [hlo, hen]
  have HLO := Lib.hid hlo
  have HEN := Lib.hid hen
  have HLE := Lib.hid hle
  have HEL := Lib.hid hel
  have hen9 : en ≤ 1000000000000 := Nat.le_trans hel HLN.out
  have hlo9 : lo ≤ 1000000000000 := Nat.le_trans hle hen9
  have HH2 := Lib.hid (HH1.out.later HB2.out)
  have HROW2 := Lib.hid (show w2.drew.ownsRow 0 33 4 v l.length (ptC l) from ownsRow_same (row_later HROW.out HB2.out) fun _ _ => rfl)
  have hne := val_ne HH1.out s f
  rw [HV.out] at hne
  have HNE := Lib.hid hne
  have HKBL := Lib.hid (show v.ownBlock ≠ some kb ∧ kb < w2.heap.size ∧ c < w2.heap.size by
    have h1 := HSZ1.out
    have h2 := HB2.out.size
    refine ⟨fun e => ?_, by omega, heap_lt HH2.out.blk⟩
    have hr := (valOf_row HH.out s f).1
    rw [HV.out] at hr
    have := (hr.lt kb e).2
    have := HKB.out
    omega)
  have hS3 : ∀ w', Turns (fun k => v.ownBlock = some k) w2.drew w' → w'.cell? ⟨c, 2, none⟩ = some (.map (some m)) ∧ w'.cell? ⟨kb, 0, none⟩ = some (.string s) ∧ w'.cell? ⟨kb, 1, none⟩ = some (.string f) ∧ (Instr.lookup 58 (.map (some m)) (.agg #[.string s, .string f]) false).run Try.prog w' = .ok v w' := fun w' ht => by
    have h2 := (ht.block c HKBL.out.2.2 HNE.out.1).trans HH2.out.blk
    have h3 := (ht.block kb HKBL.out.2.1 HKBL.out.1).trans ((HB2.out.block kb (by rw [HSZ1.out]; omega)).trans HK1.out)
    have h4 := lookup_map (w' := w') HH2.out (ht.block m (by obtain ⟨es, cl, hm, _⟩ := HH2.out.map; exact heap_lt hm) HNE.out.2.1) s f hs hf
    rw [HV.out] at h4
    exact ⟨by simp [World.cell?, h2], by simp [World.cell?, h3], by simp [World.cell?, h3], h4⟩
  have HS3 := Lib.hid hS3
  clear hlo hen hle hel hne hS3
  go_wp2_with fail
  go_region_held3 (fun w' => w'.cell? ⟨c, 2, none⟩ = some (.map (some m)) ∧ w'.cell? ⟨kb, 0, none⟩ = some (.string s) ∧ w'.cell? ⟨kb, 1, none⟩ = some (.string f) ∧ (Instr.lookup 58 (.map (some m)) (.agg #[.string s, .string f]) false).run Try.prog w' = .ok v w') (first | exact HS3.out _ HT3.out | exact HS3.out _ (Turns.refl _ _) | go_keep)
    (first
      | (go_at_call 36; refine (delete _ 0 v l lo en HROW2.out HLE.out HEL.out HLN.out).mono ?_; rintro e w3 ⟨v', rfl, hr3, hob3, ht3⟩; have HT3 := Lib.hid ht3; have HR3 := Lib.hid hr3; have HOB3 := Lib.hid hob3; clear ht3 hr3 hob3))
  clear k0 k1 k2 k3
  obtain ⟨k0, k1, k2, k3⟩ := HS3.out _ HT3.out
  clear k3
  obtain ⟨va, vc, rfl⟩ := row_form HR3.out
  obtain ⟨l', hl'⟩ : ∃ l', l.take lo ++ l.drop en = l' := ⟨_, rfl⟩
  have hcut : cutL (ptsOf (look L s f)) a b = l' := by rw [HL.out, ← hl', ← HLO.out, ← HEN.out]; rfl
  have hlen : l'.length + (en - lo) = l.length := by
    have h1 := cutL_len l a b
    have h2 : cutL l a b = l' := by rw [← hcut, HL.out]
    rw [h2, HLO.out, HEN.out] at h1
    exact h1
  have hris' : Rises l' := by
    have h2 : cutL l a b = l' := by rw [← hcut, HL.out]
    rw [← h2]
    exact HRIS.out.sublist (cutL_sub l a b)
  rw [hl'] at HR3 HOB3 ⊢
  obtain ⟨n', hn'⟩ : ∃ n, l'.length = n := ⟨_, rfl⟩
  obtain ⟨sz, hsz⟩ : ∃ n, total L = n := ⟨_, rfl⟩
  have hlt : l.length ≤ sz := by rw [← hsz, ← HL.out]; exact len_le HH.out s f
  have hsz9 : sz ≤ 1000000000000 := by rw [← hsz]; exact HN.out
  have HCUT := Lib.hid hcut
  have HLEN := Lib.hid hlen
  have HRIS' := Lib.hid hris'
  have HN' := Lib.hid hn'
  have HSZ := Lib.hid hsz
  have HLT := Lib.hid hlt
  have hc3 : w3.heap[c]? = some (.cells #[.int .i64 most, .int .i64 sz, .map (some m)] 60 (0, 0)) := by
    rw [← hsz]
    exact (HT3.out.block c HKBL.out.2.2 HNE.out.1).trans HH2.out.blk
  have hm3 : w3.drew.ownsMap Try.prog 63 rowE m L.length (.map (L.map ent)) := by
    obtain ⟨es, cl, hm, hrest⟩ := HH2.out.map
    exact ⟨es, cl, (HT3.out.block m (heap_lt hm) HNE.out.2.1).trans hm, hrest⟩
  have HC3 := Lib.hid hc3
  have HM3 := Lib.hid hm3
  rw [hn'] at HR3 HOB3 ⊢
  clear hl' hcut hlen hris' hn' hsz hlt hc3 hm3
  by_cases hz : n' = 0
  · subst hz
    obtain ⟨w4, hrun, hown4, ht4⟩ : ∃ w4, (∀ ty, (Builtin.delete_ #[58, 63] ty #[.map (some m), .agg #[.string s, .string f]]).run Try.prog w3.drew = .ok (.tuple #[]) w4) ∧ w4.ownsMap Try.prog 63 rowE m L.length ((DataW.map (L.map ent)).del (kL s f)) ∧ w3.drew.mapTurned w4 m := by
      obtain ⟨w4, h1, h2, h3⟩ := HM3.out.drop keyed63 Try.underlying58 (key63 s f hs hf) 0
      exact ⟨w4, fun ty => h1, h2, h3⟩
    have hc4 : w4.heap[c]? = some (.cells #[.int .i64 most, .int .i64 sz, .map (some m)] 60 (0, 0)) := (ht4.grown.block c (heap_lt HC3.out) (fun e => HNE.out.2.2.1 (by cases e; rfl))).trans HC3.out
    have c1 : w4.cell? ⟨c, 1, none⟩ = some (.int .i64 sz) := by simp [World.cell?, hc4]
    have f1 : w4.frozen? ⟨c, 1, none⟩ = false := by simp [World.frozen?, hc4]
    have HO4 := Lib.hid hown4
    have HT4 := Lib.hid ht4.grown
    clear hc4 hown4 ht4
    go_wp2_with fail
    go_region
    go_wp2_with fail
    go_ret
    have hl0 : l' = [] := List.eq_nil_of_length_eq_zero HN'.out
    have hgone : Gone w2 w4 (valOf (look L s f)) m L s f := by
      rw [HV.out]
      refine ⟨HO4.out, HT4.out.os.trans HT3.out.os, HT4.out.tape.trans HT3.out.tape, HT4.out.output.trans HT3.out.output, Nat.le_trans HT3.out.size HT4.out.size, fun k hk h1 h2 => ?_⟩
      exact (HT4.out.block k (Nat.lt_of_lt_of_le hk HT3.out.size) (fun e => h2 (by cases e; rfl))).trans (HT3.out.block k hk h1)
    obtain ⟨hc, ht⟩ := HH2.out.gone hs hf hgone ((sz : Int) - ((en : Int) - (lo : Int)))
    have htot := total_dropC (s := s) (f := f) HH.out.uniq
    rw [HSZ.out, HL.out] at htot
    have hll := HLEN.out
    rw [hl0] at hll
    simp only [List.length_nil, Nat.zero_add] at hll
    have hb2 := HB1.out.trans (HB2.out.mono HB1.out.size)
    refine ⟨dropC L s f, ?_, (Turns.of_below hb2).trans ht (fun _ h => .inl h), ?_, fun s' f' => ?_, ?_⟩
    · rw [HL.out, HLO.out, HEN.out]
      exact ret_int (by have := HLE.out; omega)
    · have e1 : ((total (dropC L s f) : Nat) : Int) = (sz : Int) - ((en : Int) - (lo : Int)) := by have := HLE.out; omega
      rw [e1]
      refine hc.more fun k hk => ?_
      rcases hk with hk | hk
      · exact .inl hk
      · exact .inr ⟨Nat.le_trans hb2.size hk.1, hk.2⟩
    · rw [look_dropC_pts, HCUT.out, hl0]
    · rw [HL.out, HLO.out, HEN.out, HSZ.out]; omega
  · obtain ⟨w4, hrun, hown4, ht4⟩ := HM3.out.store keyed63 Try.underlying58 (by unfold maxLen; have := count_le HH.out; have := HN.out; omega) (key63 s f hs hf) (rowD_of HR3.out)
    have hc4 : w4.heap[c]? = some (.cells #[.int .i64 most, .int .i64 sz, .map (some m)] 60 (0, 0)) := (ht4.grown.block c (heap_lt HC3.out) (fun e => HNE.out.2.2.1 (by cases e; rfl))).trans HC3.out
    have c1 : w4.cell? ⟨c, 1, none⟩ = some (.int .i64 sz) := by simp [World.cell?, hc4]
    have f1 : w4.frozen? ⟨c, 1, none⟩ = false := by simp [World.frozen?, hc4]
    have HO4 := Lib.hid hown4
    have HT4 := Lib.hid ht4.grown
    have hz' : 0 < n' := by omega
    unfold kV at hrun
    clear hc4 hown4 ht4
    go_wp2_with fail
    go_region
    go_wp2_with fail
    go_ret
    have hld : Laid w2 w4 (valOf (look L s f)) (.slice va n' vc) m L s f l' := by
      rw [HV.out]
      have h3 := HR3.out
      have hmv : ∀ g, (Value.slice va n' vc).ownBlock = some g → g ≠ m := fun g hg e => HNE.out.2.1 (by rw [← HOB3.out, hg, e])
      refine ⟨HO4.out, ?_, HT4.out.os.trans HT3.out.os, HT4.out.tape.trans HT3.out.tape, HT4.out.output.trans HT3.out.output, Nat.le_trans HT3.out.size HT4.out.size, fun k hk h1 h2 => ?_, .inl HOB3.out⟩
      · rw [HN'.out]
        exact ownsRow_same h3 fun g hg => HT4.out.block g (h3.lt g hg).2 (fun e => hmv g hg (by cases e; rfl))
      · exact (HT4.out.block k (Nat.lt_of_lt_of_le hk HT3.out.size) (fun e => h2 (by cases e; rfl))).trans (HT3.out.block k hk h1)
    have hne' : l' ≠ [] := fun e => by have := HN'.out; rw [e] at this; simp at this; omega
    obtain ⟨hc, ht⟩ := HH2.out.laid hs hf hld HRIS'.out hne' ((sz : Int) - ((en : Int) - (lo : Int)))
    have htot := total_putC (s := s) (f := f) HH.out.uniq (.slice va n' vc) l'
    rw [HSZ.out, HL.out] at htot
    have hll := HLEN.out
    have hb2 := HB1.out.trans (HB2.out.mono HB1.out.size)
    refine ⟨putC L s f (.slice va n' vc) l', ?_, (Turns.of_below hb2).trans ht (fun _ h => .inl h), ?_, fun s' f' => ?_, ?_⟩
    · rw [HL.out, HLO.out, HEN.out]
      exact ret_int (by have := HLE.out; omega)
    · have e1 : ((total (putC L s f (.slice va n' vc) l') : Nat) : Int) = (sz : Int) - ((en : Int) - (lo : Int)) := by have := HLE.out; omega
      rw [e1]
      refine hc.more fun k hk => ?_
      rcases hk with hk | hk
      · exact .inl hk
      · exact .inr ⟨Nat.le_trans hb2.size hk.1, hk.2⟩
    · rw [look_putC, HCUT.out]
    · rw [HL.out, HLO.out, HEN.out, HSZ.out]; omega
end Go.Proofs.Ytfhdaihladgchaa
