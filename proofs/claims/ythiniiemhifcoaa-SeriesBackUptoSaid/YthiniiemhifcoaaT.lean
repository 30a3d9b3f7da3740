/- The walk of SeriesBack. Condition: the bulk that its row takes. -/
import Derived.Test.YthiniiemhifcoaaS
namespace Go.Proofs.Ythiniiemhifcoaa
open Go.RowKit Go.Sort Go.Deep Go.WideShapes Go.ChangeShapes Go.Joins
open Go.ChangeMaps (open_string)
theorem name_sz {l : ByteArray} (h : nameB l.data.toList = true) : l.size ≤ 64 := by have := name_le h; simpa using this
theorem sizes_some {t : List UInt8} {name : ByteArray} {tags : List Tg} (h : parse t = some (name, tags)) : name.size ≤ maxLen ∧ ∀ i, (kOf tags i).size ≤ maxLen ∧ (vOf tags i).size ≤ maxLen := by
  obtain ⟨h1, h2, h3⟩ := formed_parts (parse_some h).1
  refine ⟨by have := name_sz h1; unfold maxLen; omega, sizes_of (n := 64) (fun p hp => ?_) (by unfold maxLen; omega)⟩
  obtain ⟨i, hi, rfl⟩ := List.mem_iff_getElem.1 hp
  obtain ⟨e1, e2⟩ := h3 i hi
  rw [(kOf_get hi).1] at e1
  rw [(kOf_get hi).2] at e2
  exact ⟨name_sz e1, name_sz e2⟩
theorem text_back {t : ByteArray} {name : ByteArray} {tags : List Tg} (h : parse t.data.toList = some (name, tags)) : textB name tags.length (kOf tags) (vOf tags) = (t, 0) := by
  obtain ⟨h1, h2⟩ := parse_some h
  unfold textB
  rw [if_pos h1, h2]
set_option maxHeartbeats 2000000 in
theorem seriesBack_walk (H : Type) (enc : TypeId × Value → H) (W : World) (base : Nat) (v0 v1 : Value) (d0 d1 : DataW H) (p0 p1 : List MemPlace) (h0 : DataW.Trod enc Try.prog W 0 (fun _ => true) true 24 v0 d0 p0) (o0 : Value.okWide Try.prog W .any base 24 v0) (h1 : DataW.Trod enc Try.prog W 0 (fun _ => true) true 9 v1 d1 p1) (o1 : Value.okWide Try.prog W .any base 9 v1) (hk : Rows.uptoSmall H [d0, d1] = true) :
    Calls Try.prog 7 #[v0, v1] W fun e w' => e = .returned (.bool true) ∧ Below W.heap.size W w' := by
  obtain ⟨na, a, n, cap, kf, vf, rfl, hna, hn, hta, hsa⟩ := series_open h0 o0
  obtain ⟨t, rfl, rfl, _, hs⟩ := open_string Try.underlying9 o1 h1
  have ht : t.size ≤ 1048576 := by
    have h2 : Rows.uptoBulkAll [d0, DataW.lit (H := H) (.string t.data.toList)] ≤ 1048576 := of_decide_eq_true hk
    simp only [Rows.uptoBulkAll, Rows.uptoBulk] at h2
    have h3 : t.data.toList.length = t.size := by simp
    omega
  have HTA := Lib.hid hta
  have HSA := Lib.hid hsa
  clear h0 o0 h1 o1 hta hsa hk
  have hle := rTags_le t.data.toList
  have fin2 : ∀ w3 : World, Below W.heap.size W w3 → ∀ (w4 : World) (e : Ending), ParsePost (parse t.data.toList) w3 e w4 → ∃ b cbp, e = .returned (.tuple #[.agg #[.string (rName (parse t.data.toList)), .slice b (rTags (parse t.data.toList)).length cbp], .int .i64 (rErr (parse t.data.toList))]) ∧
      TagsAt w4 b (rTags (parse t.data.toList)).length (kOf (rTags (parse t.data.toList))) (vOf (rTags (parse t.data.toList))) ∧ Below W.heap.size W w4 := by
    intro w3 hb3 w4 e hp
    obtain ⟨b, cbp, h1, h2, hb⟩ := parsePost_cases hp
    exact ⟨b, cbp, h1, h2, hb3.trans (hb.mono hb3.size)⟩
  have HFIN := Lib.hid fin2
  clear fin2
  go_enter Try.func7, Try.ntmps7
  go_wp2_with fail
  refine (awake _).mono ?_
  rintro e w1 ⟨rfl, hb⟩
  have k0 : w1.cell? ⟨W.heap.size, 0, none⟩ = some (.string na) := (hb.cell (by simp)).trans (by simp)
  have k1 : w1.cell? ⟨W.heap.size, 1, none⟩ = some (.slice a n cap) := (hb.cell (by simp)).trans (by simp)
  have hsz : W.heap.size < w1.heap.size := by have := hb.size; simp at this; omega
  have HB1 := Lib.hid (((Below.refl _ _).alloc (Nat.le_refl W.heap.size) (.cells #[.string na, .slice a n cap] 24)).trans (hb.mono (by simp)))
  clear hb
  go_wp2_with fail
  refine (text na a n cap kf vf w1 hn hna HSA.out (by exact HTA.out.later HB1.out)).mono ?_
  rintro e w2 ⟨rfl, hb⟩
  have l0 : w2.cell? ⟨W.heap.size, 0, none⟩ = some (.string na) := (hb.cell hsz).trans k0
  have l1 : w2.cell? ⟨W.heap.size, 1, none⟩ = some (.slice a n cap) := (hb.cell hsz).trans k1
  have hsz2 : W.heap.size < w2.heap.size := Nat.lt_of_lt_of_le hsz hb.size
  have HB2 := Lib.hid (HB1.out.trans (hb.mono (by omega)))
  clear hb k0 k1 hsz
  cases fa : formedB na n kf vf with
  | false =>
    have ea : (textB na n kf vf).2 = 1 := by simp [textB, fa]
    clear fa
    go_wp2_with fail
    refine (parse19 t _ ht).mono ?_
    intro e w5 hp
    obtain ⟨b, cbp, rfl, htb, hb⟩ := HFIN.out _ (by exact HB2.out) _ _ hp
    have HB5 := Lib.hid hb
    have hs5 := hb.size
    clear hp hb
    cases hpt : parse t.data.toList with
    | none =>
      rw [hpt] at htb hle
      have e1 : rName (none : Option (ByteArray × List Tg)) = ⟨#[]⟩ := rfl
      have e2 : rTags (none : Option (ByteArray × List Tg)) = [] := rfl
      have e3 : rErr (none : Option (ByteArray × List Tg)) = 2 := rfl
      rw [e1, e2, e3]
      clear e1 e2 e3 htb hpt hle
      go_wp2_with fail
      go_ret
      exact ⟨rfl, HB5.out.alloc hs5 _⟩
    | some q =>
      obtain ⟨nm, tags⟩ := q
      rw [hpt] at htb hle
      have e1 : rName (some (nm, tags)) = nm := rfl
      have e2 : rTags (some (nm, tags)) = tags := rfl
      have e3 : rErr (some (nm, tags)) = 0 := rfl
      rw [e1, e2, e3]
      rw [e2] at htb hle
      obtain ⟨z1, z2⟩ := sizes_some hpt
      have HTB := Lib.hid htb
      have HZ2 := Lib.hid z2
      have HPT := Lib.hid (text_back hpt)
      clear e1 e2 e3 htb hpt z2
      go_wp2_with fail
      refine (text nm b tags.length cbp (kOf tags) (vOf tags) _ (by omega) z1 HZ2.out (by exact HTB.out.later ((Below.refl _ _).alloc (Nat.le_refl _) _))).mono ?_
      rw [HPT.out]
      rintro e w6 ⟨rfl, hb6⟩
      have HB6 := Lib.hid ((HB5.out.alloc hs5 _).trans (hb6.mono (by simp; omega)))
      clear hb6
      go_wp2_with fail
      go_ret
      exact ⟨rfl, HB6.out⟩
  | true =>
    obtain ⟨tg, hpt, hlen, hget⟩ := parse_text fa
    have ea : (textB na n kf vf).2 = 0 := by simp [textB, fa]
    have eb : (textB na n kf vf).1 = ofL (textTo na kf vf n) := by simp [textB, fa, ofL]
    have hlt := textTo_le fa (Nat.le_refl n)
    have hn8 := (formed_parts fa).2.1
    have hsz4 : (ofL (textTo na kf vf n)).size ≤ 1048576 := by rw [ofL_size]; omega
    have hpt2 : parse (ofL (textTo na kf vf n)).data.toList = some (na, tg) := by rw [show (ofL (textTo na kf vf n)).data.toList = textTo na kf vf n by simp [ofL]]; exact hpt
    have hsame : sameB na na tg.length n (kOf tg) (vOf tg) kf vf = true := sameB_of rfl hlen (fun i hi => hget i (by omega))
    rw [eb]
    obtain ⟨T, hT⟩ : ∃ T, ofL (textTo na kf vf n) = T := ⟨_, rfl⟩
    rw [hT] at hsz4 hpt2 ⊢
    have HPT := Lib.hid hpt2
    have HSM := Lib.hid hsame
    have HLEN := Lib.hid hlen
    have hl8 : tg.length ≤ 8 := by omega
    clear fa hpt hlen hget eb hlt hpt2 hsame hT
    go_wp2_with fail
    refine (parse19 T _ hsz4).mono ?_
    rw [HPT.out]
    intro e w3 hp
    obtain ⟨b, cbp, rfl, htb, hb⟩ := parsePost_cases hp
    have e1 : rName (some (na, tg)) = na := rfl
    have e2 : rTags (some (na, tg)) = tg := rfl
    have e3 : rErr (some (na, tg)) = 0 := rfl
    rw [e1, e2, e3]
    rw [e2] at htb
    have k0 : w3.cell? ⟨W.heap.size, 0, none⟩ = some (.string na) := (hb.cell hsz2).trans l0
    have k1 : w3.cell? ⟨W.heap.size, 1, none⟩ = some (.slice a n cap) := (hb.cell hsz2).trans l1
    have hlt3 : W.heap.size < w3.heap.size := Nat.lt_of_lt_of_le hsz2 hb.size
    have HB3 := Lib.hid (HB2.out.trans (hb.mono (by omega)))
    have HTB3 := Lib.hid htb
    clear e1 e2 e3 hp htb hb l0 l1
    go_wp2_with fail
    refine (same na na b a tg.length n cbp cap (kOf tg) (vOf tg) kf vf _ (by omega) (by exact HTB3.out.later ((Below.refl _ _).alloc (Nat.le_refl _) _)) (by exact (HTA.out.later HB3.out).later ((Below.refl _ _).alloc (Nat.le_refl _) _))).mono ?_
    rw [HSM.out]
    rintro e w4 ⟨rfl, hb⟩
    have HB4 := Lib.hid ((HB3.out.alloc (by omega) _).trans (hb.mono (by simp; omega)))
    clear hb
    go_wp2_with fail
    refine (parse19 t _ ht).mono ?_
    intro e w5 hp
    obtain ⟨b, cbp, rfl, htb, hb⟩ := HFIN.out _ (by exact HB4.out) _ _ hp
    have HB5 := Lib.hid hb
    have hs5 := hb.size
    clear hp hb
    cases hpt : parse t.data.toList with
    | none =>
      rw [hpt] at htb hle
      have e1 : rName (none : Option (ByteArray × List Tg)) = ⟨#[]⟩ := rfl
      have e2 : rTags (none : Option (ByteArray × List Tg)) = [] := rfl
      have e3 : rErr (none : Option (ByteArray × List Tg)) = 2 := rfl
      rw [e1, e2, e3]
      clear e1 e2 e3 htb hpt hle
      go_wp2_with fail
      go_ret
      exact ⟨rfl, HB5.out.alloc hs5 _⟩
    | some q =>
      obtain ⟨nm, tags⟩ := q
      rw [hpt] at htb hle
      have e1 : rName (some (nm, tags)) = nm := rfl
      have e2 : rTags (some (nm, tags)) = tags := rfl
      have e3 : rErr (some (nm, tags)) = 0 := rfl
      rw [e1, e2, e3]
      rw [e2] at htb hle
      obtain ⟨z1, z2⟩ := sizes_some hpt
      have HTB := Lib.hid htb
      have HZ2 := Lib.hid z2
      have HPT := Lib.hid (text_back hpt)
      clear e1 e2 e3 htb hpt z2
      go_wp2_with fail
      refine (text nm b tags.length cbp (kOf tags) (vOf tags) _ (by omega) z1 HZ2.out (by exact HTB.out.later ((Below.refl _ _).alloc (Nat.le_refl _) _))).mono ?_
      rw [HPT.out]
      rintro e w6 ⟨rfl, hb6⟩
      have HB6 := Lib.hid ((HB5.out.alloc hs5 _).trans (hb6.mono (by simp; omega)))
      clear hb6
      go_wp2_with fail
      go_ret
      exact ⟨rfl, HB6.out⟩
end Go.Proofs.Ythiniiemhifcoaa
