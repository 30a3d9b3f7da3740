/- A file gets another name. No condition but the bounds of names and a fuse. -/
import Derived.Test.YtjkgcpbgacdgaaaU
namespace Go.Proofs.Ytjkgcpbgacdgaaa
open Go.RowKit Go.Sort
theorem put_any (L : List Ent) (s : ByteArray) (f : Nat) (v : Value) (bs : List Value) (syn : Int) :
    (DataW.map (L.map ent)).put (key s) (.lit (.int .u64 f)) = .map ((insE ⟨s, f, v, bs, syn⟩ (dropE L s)).map ent) := by
  rw [insE_ent]
  show DataW.map (DataW.insert _ _) = _
  congr 2
  simp only [dropE, List.filter_map]
  rfl
theorem drop_parts {L1 L2 : List Ent} {e : Ent} (hp : (L1 ++ e :: L2).Pairwise fun a b => key a.name ≠ key b.name) : dropE (L1 ++ e :: L2) e.name = L1 ++ L2 := by
  rw [List.pairwise_append] at hp
  obtain ⟨_, h2, h3⟩ := hp
  rw [List.pairwise_cons] at h2
  unfold dropE
  rw [List.filter_append, List.filter_cons]
  have h1 : L1.filter (fun x => !(x.name.data.toList == e.name.data.toList)) = L1 := by
    rw [List.filter_eq_self]
    intro x hx
    have := h3 x hx e (by simp)
    simp only [Bool.not_eq_true', beq_eq_false_iff_ne, ne_eq]
    intro he
    apply this
    simp [key, he]
  have h4 : L2.filter (fun x => !(x.name.data.toList == e.name.data.toList)) = L2 := by
    rw [List.filter_eq_self]
    intro x hx
    have := h2.1 x hx
    simp only [Bool.not_eq_true', beq_eq_false_iff_ne, ne_eq]
    intro he
    apply this
    simp [key, he]
  rw [h1, h4]
  simp
theorem DiskAt.move {w w' : World} {S : Nat → Prop} {d m : Nat} {L : List Ent} {room fuse : Int} {down : Bool} {n : Nat} {e : Ent} (h : DiskAt w S d m L room fuse down) (s t : ByteArray) (hl : look L s = some e)
    (hm : w'.ownsMap Try.prog 9 ptrE m n (((DataW.map (L.map ent)).del (key s)).put (key t) (.lit (.int .u64 e.f)))) (hk : ∀ k, k < w.heap.size → k ≠ m → w'.heap[k]? = w.heap[k]?) : DiskAt w' S d m (insE ⟨t, e.f, e.v, e.bs, e.syn⟩ (dropE (dropE L s) t)) room fuse down := by
  have lt : ∀ {k : Nat} {o : Obj}, w.heap[k]? = some o → k < w.heap.size := fun {k o} hh => by
    rcases Nat.lt_or_ge k w.heap.size with h | h
    · exact h
    · rw [Array.getElem?_eq_none h] at hh; cases hh
  obtain ⟨es, c, hmb⟩ := h.mapBlk
  have hb := h.blk
  have hmem := look_mem hl
  have hfile : ∀ x ∈ L, w'.heap[x.f]? = some (.cells #[x.v, .int .i64 x.syn] 82 (0, 0)) ∧ Loose w' 5 x.v x.bs := by
    intro e he
    obtain ⟨f1, f2⟩ := h.file e he
    refine ⟨?_, f2.same fun g hg => ?_⟩
    · rw [hk _ (lt f1) ?_, f1]
      intro e1; rw [e1, hmb] at f1; cases f1
    · obtain ⟨cur, fz, hc⟩ := f2.cells hg
      refine hk _ (lt hc) ?_
      rintro rfl; rw [hmb] at hc; cases hc
  refine ⟨?_, ?_, ?_, ?_, h.here, ?_⟩
  · rw [hk d (lt hb) ?_, hb]
    rintro rfl; rw [hb] at hmb; cases hmb
  · rw [del_drop, put_any (dropE L s) t e.f e.v e.bs e.syn] at hm
    have := ownsMap_tight hm
    rw [List.length_map] at this
    exact this
  · intro x hx
    rcases insE_mem.1 hx with rfl | hx
    · exact hfile e hmem
    · exact hfile x (drop_mem (drop_mem hx))
  · rw [(insE_perm _ _).pairwise_iff (fun {a b} hab => ⟨fun e => hab.1 e.symm, fun g hg hg' => hab.2 g hg' hg⟩), List.pairwise_cons]
    have hn := look_name hl
    obtain ⟨L1, L2, rfl, _⟩ := look_parts hl
    subst hn
    have hdp := drop_parts h.names
    rw [hdp]
    have hap := h.apart
    rw [(List.perm_middle).pairwise_iff (fun {a b} hab => ⟨fun e => hab.1 e.symm, fun g hg hg' => hab.2 g hg' hg⟩), List.pairwise_cons] at hap
    exact ⟨fun x hx => hap.1 x (drop_mem hx), hap.2.sublist List.filter_sublist⟩
  · intro x hx
    rcases insE_mem.1 hx with rfl | hx
    · exact h.mine e hmem
    · exact h.mine x (drop_mem (drop_mem hx))
theorem keep_cell {w w' : World} {S : Nat → Prop} {d m : Nat} {L : List Ent} {room fuse : Int} {down : Bool} (h : DiskAt w S d m L room fuse down) (ht : w.mapTurned w' m) : w'.cell? ⟨d, 0, none⟩ = some (.map (some m)) := by
  obtain ⟨es, c, hmb⟩ := h.mapBlk
  have hb := h.blk
  have hlt : d < w.heap.size := by
    rcases Nat.lt_or_ge d w.heap.size with h | h
    · exact h
    · rw [Array.getElem?_eq_none h] at hb; cases hb
  have : w'.heap[d]? = w.heap[d]? := ht.grown.block d hlt (fun e => by cases e; rw [hb] at hmb; cases hmb)
  simp [World.cell?, this, hb]
def renE (L : List Ent) (fuse : Int) (down : Bool) (s t : ByteArray) : Int := if (getE L down s).2 = 0 then if nameB t.data.toList then opE fuse else 1 else (getE L down s).2
def renF (L : List Ent) (fuse : Int) (down : Bool) (s t : ByteArray) : Int := if (getE L down s).2 = 0 ∧ nameB t.data.toList = true then opF fuse else fuse
def renD (L : List Ent) (fuse : Int) (down : Bool) (s t : ByteArray) : Bool := if (getE L down s).2 = 0 ∧ nameB t.data.toList = true then opD fuse down else down
def renL (L : List Ent) (fuse : Int) (down : Bool) (s t : ByteArray) : List Ent := if renE L fuse down s t = 0 then match look L s with | some e => insE ⟨t, e.f, e.v, e.bs, e.syn⟩ (dropE (dropE L s) t) | none => L else L
set_option maxRecDepth 100000 in
theorem rename (w : World) (S : Nat → Prop) (d m : Nat) (L : List Ent) (room fuse : Int) (down : Bool) (s t : ByteArray) (hs : s.size ≤ maxLen) (ht : t.size ≤ maxLen) (h : DiskAt w S d m L room fuse down) (hf : -1 ≤ fuse) (hf2 : fuse < 2 ^ 63) (hcount : L.length < maxLen) :
    Calls Try.prog 33 #[.pointer (some ⟨d, 0, none⟩), .string s, .string t] w fun e w' => e = .returned (.int .i64 (renE L fuse down s t)) ∧ Turns S w w' ∧ DiskAt w' S d m (renL L fuse down s t) room (renF L fuse down s t) (renD L fuse down s t) := by
  have HH := Lib.hid h
  have HS := Lib.hid hs
  have HT := Lib.hid ht
  clear h hs ht
  go_enter Try.func33, Try.ntmps33
  go_wp2_with fail
  refine (get w S d m L room fuse down s HS.out HH.out).mono ?_
  rintro e w1 ⟨rfl, hw1⟩
  obtain rfl := hw1.symm
  by_cases hz : (getE L down s).2 = 0
  · have hz0 : ((getE L down s).2 == 0) = true := by simp [hz]
    have HZ := Lib.hid hz
    obtain ⟨e, hl, hge⟩ : ∃ e, look L s = some e ∧ getE L down s = (some e, 0) := by
      unfold getE at hz ⊢
      cases down with
      | true => simp at hz
      | false =>
        simp only [Bool.false_eq_true, if_false] at hz ⊢
        cases hl : look L s with
        | none => rw [hl] at hz; simp at hz
        | some e => exact ⟨e, rfl, rfl⟩
    have HL := Lib.hid hl
    have HGE := Lib.hid hge
    rw [hge]
    clear hz hz0 hl hge
    simp only [ptrOf]
    go_wp2_with fail
    refine (vname t _ HT.out).mono ?_
    rintro e' w3 ⟨rfl, hb3⟩
    have HD3 := Lib.hid (HH.out.later hb3)
    have HT3 := Lib.hid (show Turns S _ w3 from Turns.of_below hb3)
    clear hb3
    cases hb : nameB t.data.toList with
    | false =>
      have HB := Lib.hid hb
      clear hb
      go_wp2_with fail
      go_ret
      have h1 : renE L fuse down s t = 1 := by simp [renE, HGE.out, HB.out]
      refine ⟨by rw [h1]; rfl, HT3.out, ?_⟩
      have h2 : renL L fuse down s t = L := by simp [renL, h1]
      have h3 : renF L fuse down s t = fuse := by simp [renF, HB.out]
      have h4 : renD L fuse down s t = down := by simp [renD, HB.out]
      rw [h2, h3, h4]
      exact HD3.out
    | true =>
      have HB := Lib.hid hb
      clear hb
      have h1 : renE L fuse down s t = opE fuse := by simp [renE, HGE.out, HB.out]
      have h3 : renF L fuse down s t = opF fuse := by simp [renF, HGE.out, HB.out]
      have h4 : renD L fuse down s t = opD fuse down := by simp [renD, HGE.out, HB.out]
      have H1 := Lib.hid h1
      have H3 := Lib.hid h3
      have H4 := Lib.hid h4
      clear h1 h3 h4
      go_wp2_with fail
      refine (operation _ S d m L room fuse down HD3.out hf hf2).mono ?_
      rintro e' w2 ⟨rfl, ho, hd⟩
      have HO := Lib.hid ho
      have HD := Lib.hid hd
      have c0 : w2.cell? ⟨d, 0, none⟩ = some (.map (some m)) := by simp [World.cell?, hd.blk]
      clear ho hd
      by_cases h0 : opE fuse = 0
      · have HZ0 := Lib.hid h0
        have h0b : (opE fuse == 0) = true := by simp [h0]
        clear h0
        go_wp2_with (first
          | (at_delete; refine wpList_delete_own _ rfl _ _ 76 9 rfl 80 (Maps.string_keyed Try.underlying9) Try.underlying76 ptrE m L.length _ rfl HD.out.map _ (key s) rfl (WideMaps.keyOf_string_mk Try.underlying9 HS.out) ?_; intro w4 hown4 hturn4; have c4 : w4.cell? ⟨d, 0, none⟩ = some (.map (some m)) := keep_cell HD.out hturn4)
          | (at_mapUpdate; go_must (refine wpList_mapUpdate_in _ rfl _ _ _ 76 rfl 9 80 (Maps.string_keyed Try.underlying9) Try.underlying76 ptrE m L.length _ rfl hown4 hcount _ _ (key t) rfl rfl (WideMaps.keyOf_string_mk Try.underlying9 HT.out) (.lit (.int .u64 e.f)) [] rfl ?_); intro w5 hown5 hturn5))
        go_ret
        have hmS := HH.out.here.2
        have hg := hturn4.trans hturn5
        have hgr := hg.grown
        have htt : Turns S w2 w5 := Turns.of_grown hgr (fun k hk => by cases hk; exact hmS)
        rw [H3.out, H4.out]
        refine ⟨by rw [H1.out, HZ0.out]; rfl, HT3.out.trans ((HO.out.turns HH.out.here.1).trans htt (fun _ h => .inl h)) (fun _ h => .inl h), ?_⟩
        have h5 : renL L fuse down s t = insE ⟨t, e.f, e.v, e.bs, e.syn⟩ (dropE (dropE L s) t) := by simp [renL, H1.out, HZ0.out, HL.out]
        rw [h5]
        exact HD.out.move s t HL.out hown5 (fun k hk hkm => hgr.block k hk (fun e => hkm (by cases e; rfl)))
      · have HZ0 := Lib.hid h0
        have h0b : (opE fuse == 0) = false := by simp [h0]
        clear h0
        go_wp2_with fail
        go_ret
        rw [H3.out, H4.out]
        refine ⟨by rw [H1.out]; rfl, HT3.out.trans (HO.out.turns HH.out.here.1) (fun _ h => .inl h), ?_⟩
        have h5 : renL L fuse down s t = L := by simp [renL, H1.out, HZ0.out]
        rw [h5]
        exact HD.out
  · have hz0 : ((getE L down s).2 == 0) = false := by simp [hz]
    have HZ := Lib.hid hz
    clear hz
    go_wp2_with fail
    go_ret
    have h1 : renE L fuse down s t = (getE L down s).2 := by simp [renE, HZ.out]
    have h2 : renL L fuse down s t = L := by simp [renL, h1, HZ.out]
    have h3 : renF L fuse down s t = fuse := by simp [renF, HZ.out]
    have h4 : renD L fuse down s t = down := by simp [renD, HZ.out]
    rw [h1, h2, h3, h4]
    exact ⟨rfl, Turns.refl _ _, HH.out⟩
end Go.Proofs.Ytjkgcpbgacdgaaa
