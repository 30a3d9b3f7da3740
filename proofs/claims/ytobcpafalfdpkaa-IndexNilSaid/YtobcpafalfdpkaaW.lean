/- The series with a tag, or without one. Condition: the bounds; a tag's texts are there. -/
import Derived.Test.YtobcpafalfdpkaaV
import Derived.Laws.IdiomRangeMap
namespace Go.Proofs.Ytobcpafalfdpkaa
open Go.RowKit Go.WideMaps Go.Sort
def srOf (μ : Me) (t : BA) : Sr := ((get μ.ss t).getD sv0).sr
theorem both_of {μ : Me} {T : List BA} (h : ∀ t ∈ T, (get μ.ss t).isSome = true) : Both μ T (T.map (srOf μ)) := by
  refine ⟨by simp, fun i t s ht hs => ?_⟩
  rw [List.getElem?_map, ht] at hs
  cases hs
  have := h t (List.mem_of_getElem? ht)
  unfold srOf
  cases hg : get μ.ss t with
  | none => rw [hg] at this; cases this
  | some sv => exact ⟨sv, rfl, rfl⟩
def noTag (key : BA) (p : BA × SV) : Bool := !(p.2.sr.tg key).2
/-- The series with the tag, or without the key. -/
def withT (μ : Me) (key val : BA) : List BA := if val = ⟨#[]⟩ then pickK μ.ss (noTag key) else (textsOf μ key val).map (·.1)
theorem pick_mem {α : Type} {L : List (BA × α)} {pr : BA × α → Bool} {t : BA} (hr : RisingK L) (h : t ∈ pickK L pr) : (get L t).isSome = true := by
  unfold pickK at h
  obtain ⟨p, hp, rfl⟩ := List.mem_map.1 h
  rw [rising_get hr (List.mem_filter.1 hp).1]; rfl
theorem pick_len {α : Type} (L : List (BA × α)) (pr : BA × α → Bool) : (pickK L pr).length ≤ L.length := by
  unfold pickK
  rw [List.length_map]
  exact List.length_filter_le ..
set_option maxRecDepth 100000 in
theorem with11v {w : World} {rv : Value} {μ : BA → Me} (h : Gets w rv μ) (nm key val : BA) (hn : nm.size ≤ maxLen) (hk : key.size ≤ maxLen) (hv : val.size ≤ maxLen) (hbd : Bd (μ nm)) (hne : val ≠ ⟨#[]⟩) (hsub : ∀ p ∈ textsOf (μ nm) key val, (get (μ nm).ss p.1).isSome = true) :
    Calls Try.prog 11 #[rv, .string nm, .string key, .string val] w (SersPost w ((withT (μ nm) key val).map (srOf (μ nm)))) := by
  have hne' : val.toList.isEmpty = false := by
    cases he : val.toList.isEmpty with
    | false => rfl
    | true =>
      rw [List.isEmpty_iff, ByteArray.toList_eq] at he
      exact absurd (ba_eq (b := ⟨#[]⟩) he) hne
  have HWT := Lib.hid (show withT (μ nm) key val = (textsOf (μ nm) key val).map (·.1) by unfold withT; rw [if_neg hne])
  have HG := Lib.hid (h w (Below.refl _ _) nm hn)
  have HB := Lib.hid (both_of (μ := μ nm) (T := (textsOf (μ nm) key val).map (·.1)) fun t ht => by
    obtain ⟨p, hp, rfl⟩ := List.mem_map.1 ht
    exact hsub p hp)
  have HX := Lib.hid (hbd.X key val)
  clear h hn hbd hne hsub
  go_enter Try.func11, Try.ntmps11
  go_wp2_with fail
  refine HG.out.mono ?_
  rintro e w1 ⟨g, a, b, c, rfl, hvw, hb⟩
  have hblk := hvw.blk
  have c1 : w1.cell? ⟨g, 1, none⟩ = some (.map b) := by simp [World.cell?, hblk]
  have hl1 := look69 hvw.tgs key hk
  have hl2 := look74 (hvw.vals key) val hv
  have HS := Lib.hid (sortedO35 (hvw.texts key val) HX.out)
  have HB1 := Lib.hid hb
  have HV := Lib.hid hvw
  clear hblk hvw hb
  go_wp2_with fail
  refine (keys35 (get (valsOf (μ nm) key) val) w1).mono ?_
  rintro e w2 ⟨rfl, rfl⟩
  go_wp2_with fail
  refine HS.out.mono ?_
  rintro e w3 ⟨v, rfl, hr, hb3⟩
  have HY := Lib.hid (some33 (HV.out.later hb3) hr rfl HB.out (by rw [List.length_map]; exact HX.out))
  have HB3 := Lib.hid (HB1.out.trans (hb3.mono HB1.out.size))
  clear hr hb3
  go_wp2_with fail
  refine HY.out.mono ?_
  intro e w4 hp
  have hp2 := hp.from HB3.out
  obtain ⟨v4, L4, rfl, hm4, hr4, hs4, hb4⟩ := hp2
  have HP := Lib.hid hm4
  have HR4 := Lib.hid hr4
  have HS4 := Lib.hid hs4
  have HB4 := Lib.hid hb4
  clear hp hm4 hr4 hs4 hb4
  go_wp2_with fail
  go_ret
  exact ⟨_, L4, rfl, by rw [HWT.out]; exact HP.out, HR4.out, HS4.out, HB4.out⟩
def InWith (w : World) (b r : Nat) (L : List (BA × SV)) (key : BA) (q : Value) (wr : World) : Prop :=
  ∃ (left : Lit → Bool) (cnt : Nat) (T : List BA), wr.ranges Try.prog 9 serE b r L.length (.map (L.map (ent serK))) left cnt ∧ Took L (noTag key) left T ∧ wr.ownsRow r 9 1 q T.length (T.map Value.string) ∧ Below w.heap.size w wr
set_option maxRecDepth 100000 in
set_option maxHeartbeats 1000000 in
theorem with11e {w : World} {rv : Value} {μ : BA → Me} (h : Gets w rv μ) (nm key : BA) (hn : nm.size ≤ maxLen) (hbd : Bd (μ nm)) :
    Calls Try.prog 11 #[rv, .string nm, .string key, .string ⟨#[]⟩] w (SersPost w ((withT (μ nm) key ⟨#[]⟩).map (srOf (μ nm)))) := by
  have HWT := Lib.hid (show withT (μ nm) key ⟨#[]⟩ = pickK (μ nm).ss (noTag key) by unfold withT; rw [if_pos rfl])
  have HG := Lib.hid (h w (Below.refl _ _) nm hn)
  have HBD := Lib.hid hbd.ss
  obtain ⟨i0, hi, hz0, hz1, hz2⟩ := info_parts zinfo9
  have HI := Lib.hid hi
  have HZ0 := Lib.hid hz0
  have HZ1 := Lib.hid hz1
  have HZ2 := Lib.hid hz2
  clear h hn hbd hi hz0 hz1 hz2
  go_enter Try.func11, Try.ntmps11
  go_wp2_with fail
  refine HG.out.mono ?_
  rintro e w1 ⟨g, a, b, c, rfl, hvw, hb⟩
  have hblk := hvw.blk
  have c0 : w1.cell? ⟨g, 0, none⟩ = some (.map a) := by simp [World.cell?, hblk]
  have HB1 := Lib.hid hb
  have HV := Lib.hid hvw
  obtain ⟨ss, hss⟩ : ∃ ss, (μ nm).ss = ss := ⟨_, rfl⟩
  have HSS := Lib.hid hss
  rw [hss] at HBD HWT
  have hser := hvw.ser
  rw [hss] at hser
  clear hblk hvw hb hss
  cases a with
  | none =>
    have hnil : ss = [] := hser
    subst hnil
    have hrg := run_range_nilMap (P := Try.prog) w1 68 9 31 Try.underlying68
    have hnx : ∀ ty, (Instr.next (.pointer (some ⟨w1.heap.size, 0, none⟩)) false ty).run Try.prog (w1.alloc (.mapIter none 0 #[] 0)) = _ := fun ty => run_next_nilMap _ ty 0 0 #[]
    clear hser
    go_wp2_with fail
    clear hrg c0
    go_loopw [10] (fun q wr => q = .slice none 0 0 ∧ wr = w1.alloc (.mapIter none 0 #[] 0)) (fun _ _ => 0)
    case atStart => exact ⟨rfl, rfl⟩
    case round =>
      obtain ⟨rfl, rfl⟩ := hrel
      go_wp2_with fail
      clear hnx
      refine (Try.slices_Sort_string_none none 0 _).mono ?_
      rintro e w2 ⟨rfl, rfl⟩
      have hb3 := (Below.refl w1.heap.size w1).alloc (Nat.le_refl _) (.mapIter none 0 #[] 0)
      have hboth := both_of (μ := μ nm) (T := []) fun t ht => nomatch ht
      have HY := Lib.hid (some33 (HV.out.later hb3) (World.ownsRow_nil _ w1.heap.size 9 1) rfl hboth (Nat.zero_le _))
      have HB3 := Lib.hid (HB1.out.trans (hb3.mono HB1.out.size))
      clear hb3 hboth
      go_wp2_with fail
      refine HY.out.mono ?_
      intro e w4 hp
      have hp2 := hp.from HB3.out
      obtain ⟨v4, L4, rfl, hm4, hr4, hs4, hb4⟩ := hp2
      have HP := Lib.hid hm4
      have HR4 := Lib.hid hr4
      have HS4 := Lib.hid hs4
      have HB4 := Lib.hid hb4
      clear hp hm4 hr4 hs4 hb4
      go_wp2_with fail
      go_ret
      exact ⟨_, L4, rfl, by rw [HWT.out]; exact HP.out, HR4.out, HS4.out, HB4.out⟩
  | some sb =>
    have hown : w1.ownsMap Try.prog 9 serE sb ss.length (.map (ss.map (ent serK))) := MapS.own hser
    have HRI := Lib.hid (MapS.rising hser)
    clear hser
    go_wp2_with (first
      | (at_range; refine wpList_range_own _ rfl _ 68 rfl 9 31 (Maps.string_keyed Try.underlying9) Try.underlying68 _ sb ss.length _ rfl hown ?_; intro w2 hrg0 hg0 hs0)
      | fail)
    go_frame
    have HR := Lib.hid hrg0
    have HSB := Lib.hid hown.lt
    have hb2 : Below w1.heap.size w1 w2 := ⟨hg0.os, hg0.tape, hg0.output, hg0.size, fun k hk => hg0.block k hk (by simp)⟩
    have HB2 := Lib.hid hb2
    clear hrg0 hb2 hown hg0 hs0 c0
    go_loopw [10] (fun q wr => InWith w1 sb w1.heap.size ss key q wr) (fun _ wr => wr.rangeLeft sb w1.heap.size)
    case atStart => exact ⟨_, _, [], HR.out, took_start HRI.out _, World.ownsRow_nil _ _ _ _, HB2.out⟩
    case round =>
      obtain ⟨left, cnt, T, hrg, htk, hrow, hbl⟩ := hrel
      have HG2 := Lib.hid hrg
      have HB := Lib.hid hbl
      have HTK := Lib.hid htk
      have htl := took_len htk
      have hssl := HBD.out
      obtain ⟨n1, hn1⟩ : ∃ n1, T.length = n1 := ⟨_, rfl⟩
      rw [hn1] at hrow htl
      obtain ⟨qa, qc, rfl⟩ := row_form hrow
      have HROW := Lib.hid hrow
      have HN1 := Lib.hid hn1
      clear hrg hbl htk hrow hn1 HR HB2
      go_wp2_with (first
        | (at_next; refine wpList_next_ranges _ rfl _ rfl 9 (Maps.string_keyed Try.underlying9) serE Value.string (fun v : Value => v) (fun k kl hk => by obtain ⟨x, h, _⟩ := key_inv hk; exact ⟨x, h⟩) (fun v y _ => ⟨v, rfl⟩) sb w1.heap.size ss.length _ left cnt rfl HG2.out ?_ ?_)
        | fail)
      · intro _ hl0
        obtain ⟨e1, e2⟩ := took_end HTK.out hl0
        have HS := Lib.hid (sort31r HROW.out HN1.out e1 e2 (pick_rising HRI.out _) (by omega))
        clear hl0 e1 e2
        go_wp2_with fail
        refine HS.out.mono ?_
        rintro e w2 ⟨rfl, hl2, hr2, hg2⟩
        have hb3 := HB.out.grown hg2 HB.out.size (fun b hb => (HROW.out.lt b hb).1)
        have hboth := both_of (μ := μ nm) (T := pickK ss (noTag key)) fun t ht => by rw [HSS.out]; exact pick_mem HRI.out ht
        have HY := Lib.hid (some33 (HV.out.later hb3) hr2 hl2 hboth (by omega))
        have HB3 := Lib.hid (HB1.out.trans (hb3.mono HB1.out.size))
        clear hl2 hr2 hg2 hb3 hboth
        go_wp2_with fail
        refine HY.out.mono ?_
        intro e w4 hp
        have hp2 := hp.from HB3.out
        obtain ⟨v4, L4, rfl, hm4, hr4, hs4, hb4⟩ := hp2
        have HP := Lib.hid hm4
        have HR4 := Lib.hid hr4
        have HS4 := Lib.hid hs4
        have HB4 := Lib.hid hb4
        clear hp hm4 hr4 hs4 hb4
        go_wp2_with fail
        go_ret
        exact ⟨_, L4, rfl, by rw [HWT.out]; exact HP.out, HR4.out, HS4.out, HB4.out⟩
      · intro t c kl yd yp w3 cnt1 hkx hlx hRc hat hrg1 hlt hg1 hs1 hen
        obtain ⟨rfl, sv, hgt, rfl⟩ := came (K := serK) hkx hat hRc
        have hpm := get_some hgt
        have hb1 : Below w1.heap.size w1 w3 := HB.out.trans ⟨hg1.os, hg1.tape, hg1.output, hg1.size, fun k hk => by
          have := HB.out.size
          exact hg1.block k (by omega) (by simp; omega)⟩
        have hsv : SerAt w3 sv := by
          have := (HV.out.later hb1).rows (t, sv) (by rw [HSS.out]; exact hpm)
          exact this
        have hrow1 := HROW.out.kept hg1 (.inr (row_ne_iter HROW.out HG2.out).symm)
        have hv : serK.v sv = .agg #[.string sv.sr.name, .slice (adr sv.a) sv.sr.tags.length sv.c] := rfl
        rw [hv] at hen ⊢
        have hb3 := (Below.refl w3.heap.size w3).alloc (Nat.le_refl _) (.cells #[.string sv.sr.name, .slice (adr sv.a) sv.sr.tags.length sv.c] 31)
        have htg := tag36 (hsv.later hb3).sr key
        have hval : sv.val = .agg #[.string sv.sr.name, .slice (adr sv.a) sv.sr.tags.length sv.c] := rfl
        rw [hval] at htg
        obtain ⟨tv, tb, htb⟩ : ∃ tv tb, sv.sr.tg key = (tv, tb) := ⟨_, _, rfl⟩
        rw [htb] at htg
        simp only at htg
        obtain ⟨sn, hsn⟩ : ∃ sn, sv.sr.tags.length = sn := ⟨_, rfl⟩
        have HPR := Lib.hid (show noTag key (t, sv) = !tb by unfold noTag; rw [htb])
        rw [hsn] at htg hen
        rw [hsn] at hb3
        have HTG := Lib.hid htg
        have HPM := Lib.hid hpm
        have HLX := Lib.hid hlx
        have HB1' := Lib.hid (hb1.trans (hb3.mono hb1.size))
        have HG1 := Lib.hid (hrg1.alloc (.cells #[.string sv.sr.name, .slice (adr sv.a) sn sv.c] 31))
        have HLT := Lib.hid hlt
        have HROW1 := Lib.hid (hrow1.alloc (.cells #[.string sv.sr.name, .slice (adr sv.a) sn sv.c] 31))
        clear hv hkx hlx hRc hat hrg1 hlt hg1 hs1 hgt hpm hb1 hrow1 hsv hb3 htg hval htb
        simp only [hsn]
        clear hsn
        go_wp2_with fail
        refine HTG.out.mono ?_
        rintro e w4 ⟨rfl, hb4⟩
        have hgr4 := World.grownBy.but (row := none) (a := w3.alloc (.cells #[.string sv.sr.name, .slice (adr sv.a) sn sv.c] 31)) (c := w4) ⟨hb4.os, hb4.tape, hb4.output, hb4.size, fun k hk _ => hb4.block k hk⟩
        have HG4 := Lib.hid (HG1.out.kept hgr4 (by simp) (by simp))
        have HROW4 := Lib.hid (row_later HROW1.out hb4)
        have HB4 := Lib.hid (HB1'.out.trans (hb4.mono HB1'.out.size))
        clear hb4 hgr4 hen
        cases tb with
        | false =>
          have hlen2 : n1 < ss.length := by
            have h1 := took_len (took_yes HTK.out HPM.out HLX.out HPR.out)
            rw [List.length_append, HN1.out] at h1
            simp at h1
            omega
          have HA5 := Lib.hid (HROW4.out.alloc (.cells #[.string t] 9))
          have HG5 := Lib.hid (HG4.out.alloc (.cells #[.string t] 9))
          have HB5 := Lib.hid (HB4.out.alloc HB4.out.size (.cells #[.string t] 9))
          have HSRC := Lib.hid (SrcN.of_block (size := 1) (m := 1) (heap_alloc_new w4 (.cells #[.string t] 9)) rfl (by simp [Value.oneCell']) 1)
          go_wp2_with (at_builtin; refine wpList_append_srcN (by rfl) _ _ 32 (by rfl) w1.heap.size 9 i0 (.string ⟨#[]⟩) 1 16 Try.underlying32 HI.out HZ0.out HZ1.out HZ2.out (by rfl) (by omega) (.slice qa n1 qc) n1 (T.map Value.string) (by rfl) HA5.out (.slice (some ⟨w4.heap.size, 0, none⟩) 1 1) 1 [.string t] (by rfl) HSRC.out (by unfold maxLen; omega) (by omega) (by exact HB5.out.size) ?_; intro v8 w8 hr8 hg8 hat8; obtain ⟨a8, c8, rfl⟩ := row_form hr8; have HR8 := Lib.hid hr8; have HG8 := Lib.hid hg8; clear hr8 hg8 hat8)
          go_roundw
          case rel =>
            refine ⟨_, _, T ++ [t], HG5.out.kept HG8.out (row_ne_low HA5.out HSB.out) (row_ne_iter HA5.out HG5.out), took_yes HTK.out HPM.out HLX.out HPR.out, ?_, HB5.out.grown HG8.out HB5.out.size (fun b hb => (HA5.out.lt b hb).1)⟩
            rw [List.length_append, HN1.out, List.map_append]
            exact HR8.out
          case measure =>
            have h1 := HG5.out.kept HG8.out (row_ne_low HA5.out HSB.out) (row_ne_iter HA5.out HG5.out)
            rw [h1.left_eq, HG2.out.left_eq]; exact HLT.out
        | true =>
          go_wp2_with fail
          go_roundw
          case rel => exact ⟨_, _, T, HG4.out, took_no HRI.out HTK.out HPM.out HLX.out HPR.out, by rw [HN1.out]; exact HROW4.out, HB4.out⟩
          case measure => rw [HG4.out.left_eq, HG2.out.left_eq]; exact HLT.out
end Go.Proofs.Ytobcpafalfdpkaa
