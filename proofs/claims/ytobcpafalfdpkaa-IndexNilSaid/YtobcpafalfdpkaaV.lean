/- Keys that are picked out of a map, in whatever order, and sorted; the names of the index. Condition: the bounds. -/
import Derived.Test.YtobcpafalfdpkaaU
import Derived.Sort.OwnSorted
namespace Go.Proofs.Ytobcpafalfdpkaa
open Go.RowKit Go.WideMaps Go.Sort
/-- The keys that have been picked so far. -/
def Took {α : Type} (L : List (BA × α)) (pr : BA × α → Bool) (left : Lit → Bool) (T : List BA) : Prop := T.Nodup ∧ ∀ t, t ∈ T ↔ ∃ p ∈ L, p.1 = t ∧ pr p = true ∧ left (.string t.data.toList) = false
theorem has_mem {α : Type} {K : VK α} {L : List (BA × α)} (hr : RisingK L) {p : BA × α} (hp : p ∈ L) : Maps.has (DataW.map (L.map (ent K))) (.string p.1.data.toList) = true := by
  rw [has_get, rising_get hr hp]; rfl
theorem took_start {α : Type} {K : VK α} {L : List (BA × α)} (hr : RisingK L) (pr : BA × α → Bool) : Took L pr (Maps.has (DataW.map (L.map (ent K)))) [] :=
  ⟨List.nodup_nil, fun t => ⟨(fun h => nomatch h), fun ⟨p, hp, he, _, hl⟩ => by rw [← he, has_mem hr hp] at hl; cases hl⟩⟩
theorem took_yes {α : Type} {L : List (BA × α)} {pr : BA × α → Bool} {left : Lit → Bool} {T : List BA} (h : Took L pr left T) {p : BA × α} (hp : p ∈ L) (hl : left (.string p.1.data.toList) = true) (hpr : pr p = true) : Took L pr (fun z => left z && !z.sameKey (.string p.1.data.toList)) (T ++ [p.1]) := by
  refine ⟨List.nodup_append.2 ⟨h.1, by simp, fun a ha b hb e => ?_⟩, fun t => ?_⟩
  · rw [List.mem_singleton.1 hb] at e
    rw [e] at ha
    obtain ⟨_, _, _, _, hl'⟩ := (h.2 _).1 ha
    rw [hl] at hl'; cases hl'
  · rw [List.mem_append, h.2 t, List.mem_singleton]
    constructor
    · rintro (⟨q, h1, h2, h3, h4⟩ | rfl)
      · exact ⟨q, h1, h2, h3, by show (left (.string t.data.toList) && _) = false; rw [h4]; rfl⟩
      · exact ⟨p, hp, rfl, hpr, by show (_ && !(Lit.string p.1.data.toList).sameKey (.string p.1.data.toList)) = false; rw [sameKey_str]; simp⟩
    · rintro ⟨q, h1, h2, h3, h4⟩
      have h4 : (left (.string t.data.toList) && !(Lit.string t.data.toList).sameKey (.string p.1.data.toList)) = false := h4
      rw [sameKey_str] at h4
      by_cases e : t = p.1
      · exact .inr e
      · rw [decide_eq_false e] at h4
        exact .inl ⟨q, h1, h2, h3, by simpa using h4⟩
theorem took_no {α : Type} {L : List (BA × α)} (hr : RisingK L) {pr : BA × α → Bool} {left : Lit → Bool} {T : List BA} (h : Took L pr left T) {p : BA × α} (hp : p ∈ L) (hl : left (.string p.1.data.toList) = true) (hpr : pr p = false) : Took L pr (fun z => left z && !z.sameKey (.string p.1.data.toList)) T := by
  refine ⟨h.1, fun t => ?_⟩
  rw [h.2 t]
  constructor
  · rintro ⟨q, h1, h2, h3, h4⟩
    exact ⟨q, h1, h2, h3, by show (left (.string t.data.toList) && _) = false; rw [h4]; rfl⟩
  · rintro ⟨q, h1, h2, h3, h4⟩
    have h4 : (left (.string t.data.toList) && !(Lit.string t.data.toList).sameKey (.string p.1.data.toList)) = false := h4
    rw [sameKey_str] at h4
    by_cases e : t = p.1
    · have h5 := rising_get hr h1
      rw [h2, e, rising_get hr hp] at h5
      have h6 : q = p := Prod.ext (h2.trans e) (Option.some.inj h5).symm
      rw [h6, hpr] at h3; cases h3
    · rw [decide_eq_false e] at h4
      exact ⟨q, h1, h2, h3, by simpa using h4⟩
theorem nodup_len {α : Type} [DecidableEq α] : ∀ (a b : List α), a.Nodup → (∀ x ∈ a, x ∈ b) → a.length ≤ b.length
  | [], _, _, _ => Nat.zero_le _
  | x :: r, b, h, hs => by
    have hx := hs x (by simp)
    have h2 := nodup_len r (b.erase x) (List.nodup_cons.1 h).2 fun y hy => (List.mem_erase_of_ne (show y ≠ x from fun e => (List.nodup_cons.1 h).1 (e ▸ hy))).2 (hs y (by simp [hy]))
    rw [List.length_erase_of_mem hx] at h2
    have : 0 < b.length := List.length_pos_of_mem hx
    simp only [List.length_cons]
    omega
theorem took_len {α : Type} {L : List (BA × α)} {pr : BA × α → Bool} {left : Lit → Bool} {T : List BA} (h : Took L pr left T) : T.length ≤ L.length := by
  have := nodup_len T (L.map (·.1)) h.1 fun t ht => by
    obtain ⟨p, hp, rfl, _⟩ := (h.2 t).1 ht
    exact List.mem_map_of_mem hp
  simpa using this
def pickK {α : Type} (L : List (BA × α)) (pr : BA × α → Bool) : List BA := (L.filter pr).map (·.1)
theorem took_end {α : Type} {L : List (BA × α)} {pr : BA × α → Bool} {left : Lit → Bool} {T : List BA} (h : Took L pr left T) (hl : ∀ kl, left kl = false) : T.Nodup ∧ ∀ t, t ∈ T ↔ t ∈ pickK L pr := by
  refine ⟨h.1, fun t => ?_⟩
  rw [h.2 t]
  unfold pickK
  rw [List.mem_map]
  constructor
  · rintro ⟨p, h1, h2, h3, _⟩
    exact ⟨p, List.mem_filter.2 ⟨h1, h3⟩, h2⟩
  · rintro ⟨p, h1, h2⟩
    obtain ⟨h3, h4⟩ := List.mem_filter.1 h1
    exact ⟨p, h3, h2, h4, hl _⟩
theorem pick_rising {α : Type} {L : List (BA × α)} (hr : RisingK L) (pr : BA × α → Bool) : (pickK L pr).Pairwise sLt := by
  unfold pickK
  rw [List.pairwise_map]
  exact List.Pairwise.filter _ hr
theorem sorted_of {T T' : List BA} (hT : T.Nodup) (hm : ∀ t, t ∈ T ↔ t ∈ T') (hr : T'.Pairwise sLt) : (T.map (·.data.toList)).mergeSort (fun x y => decide (x ≤ y)) = T'.map (·.data.toList) := by
  have hp := List.mergeSort_perm (T.map (·.data.toList)) (fun x y => decide (x ≤ y))
  have h1 : ((T.map (·.data.toList)).mergeSort (fun x y => decide (x ≤ y))).Pairwise fun a b => decide (a ≤ b) = true :=
    List.pairwise_mergeSort (fun a b c h1 h2 => by simp at *; exact List.le_trans h1 h2) (fun a b => by simp; exact List.le_total a b) _
  have hnd : (T.map (·.data.toList)).Nodup := by
    unfold List.Nodup
    rw [List.pairwise_map]
    exact hT.imp fun h e => h (ba_eq e)
  have hnd2 := hp.nodup_iff.2 hnd
  have h2 : ((T.map (·.data.toList)).mergeSort (fun x y => decide (x ≤ y))).Pairwise fun a b => a < b := by
    refine (h1.and hnd2).imp fun {a b} h => ?_
    have h3 : a ≤ b := of_decide_eq_true h.1
    rcases Classical.em (a < b) with h4 | h4
    · exact h4
    · exact absurd (List.le_antisymm h3 (List.not_lt.1 h4)) h.2
  have h3 : (T'.map (·.data.toList)).Pairwise fun a b => a < b := by
    rw [List.pairwise_map]
    refine hr.imp fun h => ?_
    unfold sLt at h
    rw [bytesLess_eq, decide_eq_true_eq] at h
    exact h
  refine sorted_unique (r := fun a b : List UInt8 => a < b) (fun a => List.lt_irrefl a) (fun a b c => List.lt_trans) h2 h3 fun x => ?_
  rw [hp.mem_iff, List.mem_map, List.mem_map]
  exact ⟨fun ⟨t, ht, he⟩ => ⟨t, (hm t).1 ht, he⟩, fun ⟨t, ht, he⟩ => ⟨t, (hm t).2 ht, he⟩⟩
theorem enc_map (T : List BA) : (T.map (·.data.toList)).map encStr = T.map Value.string := by
  rw [List.map_map]
  exact List.map_congr_left fun s _ => encStr_ba s
/-- slices.Sort at a row of strings of one's own. -/
theorem sort31r {w : World} {base n : Nat} {v : Value} {T T' : List BA} (h : w.ownsRow base 9 1 v n (T.map Value.string)) (hl : T.length = n) (hT : T.Nodup) (hm : ∀ t, t ∈ T ↔ t ∈ T') (hr : T'.Pairwise sLt) (hn : n < 4611686018427387904) :
    Calls Try.prog 31 #[v] w fun e w' => e = .returned (.tuple #[]) ∧ T'.length = n ∧ w'.ownsRow base 9 1 v n (T'.map Value.string) ∧ w.grownBy w' v.ownBlock := by
  have hso := sorted_of hT hm hr
  have hlen : T'.length = n := by
    have := congrArg List.length hso
    rw [List.length_mergeSort, List.length_map, List.length_map] at this
    omega
  rcases h.2 with ⟨rfl, h0⟩ | ⟨g, cap, cur, rfl, h1, h2, h3, h4, h5, h6⟩
  · refine (Try.slices_Sort_string_none none 0 w).mono ?_
    rintro e w' ⟨rfl, rfl⟩
    subst h0
    have hn' : T' = [] := List.eq_nil_of_length_eq_zero hlen
    rw [hn']
    exact ⟨rfl, rfl, World.ownsRow_nil _ _ _ _, World.grownBy.refl _ _⟩
  · have ht : cur.toList.take (T.map (·.data.toList)).length = (T.map (·.data.toList)).map encStr := by
      rw [enc_map, List.length_map, hl]
      rw [Nat.mul_one] at h6
      exact h6
    have hc := Try.slices_Sort_string g 0 cap (T.map (·.data.toList)) w (holds_of_block h2 ht) (h.lt g rfl).2 (by rw [List.length_map]; omega)
    rw [List.length_map, hl, hso] at hc
    refine hc.mono ?_
    rintro e w' ⟨rfl, q, os, rfl⟩
    have h7 := ownsRow_sorted (n := q) (os := os) (ss := T.map (·.data.toList)) (ts := T'.map (·.data.toList)) (by rw [List.length_map, List.length_map]; omega) h1 h2 (by rw [List.length_map]; omega) h4 h5
    rw [List.length_map, hl, enc_map] at h7
    exact ⟨rfl, hlen, h7, grownBy_sorted _⟩
theorem key_inv {k : Value} {kl : Lit} (h : keyOf Try.prog 9 k = some kl) : ∃ x : BA, k = .string x ∧ kl = .string x.data.toList ∧ x.size ≤ maxLen := by
  rw [keyOf_string Try.underlying9] at h
  unfold mapKey at h
  rw [Try.underlying9] at h
  cases k <;> simp at h
  exact ⟨_, rfl, h.2.symm, h.1⟩
/-- The entry that has come. -/
theorem came {α : Type} {K : VK α} {L : List (BA × α)} {x : BA} {c : Value} {kl : Lit} {y : DataW Unit} {ps : List MemPlace} (hkx : keyOf Try.prog 9 (.string x) = some kl) (hat : ∀ zd, (DataW.map (L.map (ent K))).atKey kl zd = y) (hR : K.R c = some (y, ps)) : kl = .string x.data.toList ∧ ∃ a, get L x = some a ∧ c = K.v a := by
  obtain ⟨x', hx, rfl, _⟩ := key_inv hkx
  injection hx with hx
  subst hx
  refine ⟨rfl, ?_⟩
  have h1 := hat .nil
  have h2 := hat (.lit (.bool true))
  rw [atKey_get] at h1 h2
  cases hg : get L x with
  | none =>
    rw [hg] at h1 h2
    rw [← h1] at h2
    cases h2
  | some a =>
    rw [hg] at h1
    rw [← h1] at hR
    exact ⟨a, rfl, K.inv hR⟩
theorem zinfo9 : (Try.prog.info? 9).map (fun i => (i.zero, i.size, i.bytes)) = some (some (.string ⟨#[]⟩), 1, 16) := by kernel_rfl
def namePr (M : BA → Me) (p : BA × Nat) : Bool := decide (0 < (M p.1).ss.length)
def InNames (w : World) (m : Nat) (L : List (BA × Nat)) (M : BA → Me) (q : Value) (wr : World) : Prop :=
  ∃ (left : Lit → Bool) (cnt : Nat) (T : List BA), wr.ranges Try.prog 9 ptrE m w.heap.size L.length (.map (L.map (ent ptrK))) left cnt ∧ Took L (namePr M) left T ∧ wr.ownsRow w.heap.size 9 1 q T.length (T.map Value.string) ∧ Below w.heap.size w wr
def namesOf (L : List (BA × Nat)) (M : BA → Me) : List BA := pickK L (namePr M)
theorem names10nil (w : World) : Calls Try.prog 10 #[.pointer none] w (StrPost w []) := by
  go_enter Try.func10, Try.ntmps10
  go_wp2_with fail
  go_ret
  exact ⟨_, rfl, World.ownsRow_nil _ _ _ _, Below.refl _ _⟩
set_option maxRecDepth 100000 in
set_option maxHeartbeats 1000000 in
theorem names10 {w : World} {ρ : Nat → Option Role} {x m : Nat} {L : List (BA × Nat)} {M : BA → Me} (h : IdxAt w ρ x m L M) (hn : L.length ≤ 3518437208780) (hbd : ∀ p ∈ L, (M p.1).ss.length ≤ 3518437208780) : Calls Try.prog 10 #[.pointer (some ⟨x, 0, none⟩)] w (StrPost w (namesOf L M)) := by
  have hb := h.blk
  have c0 : w.cell? ⟨x, 0, none⟩ = some (.map (some m)) := by simp [World.cell?, hb]
  have hown : w.ownsMap Try.prog 9 ptrE m L.length (.map (L.map (ent ptrK))) := h.out.own
  obtain ⟨i0, hi, hz0, hz1, hz2⟩ := info_parts zinfo9
  have HI := Lib.hid hi
  have HZ0 := Lib.hid hz0
  have HZ1 := Lib.hid hz1
  have HZ2 := Lib.hid hz2
  have HH := Lib.hid h
  have HRI := Lib.hid h.out.rising
  have HBD := Lib.hid hbd
  clear hb h hbd hi hz0 hz1 hz2
  go_enter Try.func10, Try.ntmps10
  go_wp2_with (first
    | (at_range; refine wpList_range_own _ rfl _ 60 rfl 9 65 (Maps.string_keyed Try.underlying9) Try.underlying60 _ m L.length _ rfl hown ?_; intro w0 hrg0 hg0 hs0)
    | fail)
  go_frame
  have HR := Lib.hid hrg0
  clear hrg0
  go_loopw [3] (fun q wr => InNames w m L M q wr) (fun _ wr => wr.rangeLeft m w.heap.size)
  case atStart => exact ⟨_, _, [], HR.out, took_start HRI.out _, World.ownsRow_nil _ _ _ _, ⟨hg0.os, hg0.tape, hg0.output, hg0.size, fun k hk => hg0.block k hk (by simp)⟩⟩
  case round =>
    obtain ⟨left, cnt, T, hrg, htk, hrow, hbl⟩ := hrel
    have HG := Lib.hid hrg
    have HB := Lib.hid hbl
    have HTK := Lib.hid htk
    have htl := took_len htk
    obtain ⟨n1, hn1⟩ : ∃ n1, T.length = n1 := ⟨_, rfl⟩
    rw [hn1] at hrow htl
    obtain ⟨qa, qc, rfl⟩ := row_form hrow
    have HROW := Lib.hid hrow
    have HN1 := Lib.hid hn1
    clear hrg hbl htk hrow hn1
    go_wp2_with (first
      | (at_next; refine wpList_next_ranges _ rfl _ rfl 9 (Maps.string_keyed Try.underlying9) ptrE Value.string (fun v : Value => v) (fun k kl hk => by obtain ⟨x, h, _⟩ := key_inv hk; exact ⟨x, h⟩) (fun v y _ => ⟨v, rfl⟩) m w.heap.size L.length _ left cnt rfl HG.out ?_ ?_)
      | fail)
    · intro _ hl0
      obtain ⟨e1, e2⟩ := took_end HTK.out hl0
      have HS := Lib.hid (sort31r HROW.out HN1.out e1 e2 (pick_rising HRI.out _) (by omega))
      clear hl0 e1 e2
      go_wp2_with fail
      refine HS.out.mono ?_
      rintro e w2 ⟨rfl, hl2, hr2, hg2⟩
      have HR2 := Lib.hid hr2
      have HL2 := Lib.hid hl2
      have HB2 := Lib.hid (HB.out.grown hg2 HB.out.size (fun b hb => (HROW.out.lt b hb).1))
      clear hl2 hr2 hg2
      go_wp2_with fail
      go_ret
      unfold namesOf
      exact ⟨_, rfl, by rw [HL2.out]; exact HR2.out, HB2.out⟩
    · intro t c kl yd yp w1 cnt1 hkx hlx hRc hat hrg1 hlt hg1 hs1 hen
      obtain ⟨rfl, b, hgt, rfl⟩ := came (K := ptrK) hkx hat hRc
      have hpm := get_some hgt
      have hme := HH.out.meas _ hpm
      have hb1 : Below w.heap.size w w1 := HB.out.trans ⟨hg1.os, hg1.tape, hg1.output, hg1.size, fun k hk => by
        have := HB.out.size
        exact hg1.block k (by omega) (by simp; omega)⟩
      have hvw := hme.view.later hb1
      have hblk := hvw.blk
      have d0 : w1.cell? ⟨b, 0, none⟩ = some (.map (some (M t).sm)) := by simp [World.cell?, hblk]
      have hln := hvw.ser.len Try.underlying68
      have hrow1 := HROW.out.kept hg1 (.inr (row_ne_iter HROW.out HG.out).symm)
      have hbt := HBD.out _ hpm
      simp only at hbt
      obtain ⟨ls, hls⟩ : ∃ ls, (M t).ss.length = ls := ⟨_, rfl⟩
      rw [hls] at hln hbt
      have HLS := Lib.hid hls
      have HPM := Lib.hid hpm
      have HLX := Lib.hid hlx
      have HB1 := Lib.hid hb1
      have HG1 := Lib.hid hrg1
      have HLT := Lib.hid hlt
      have HROW1 := Lib.hid hrow1
      have hen' : (Instr.entry (.pointer (some ⟨w.heap.size, 0, none⟩))).run Try.prog w1 = .ok (.tuple #[.string t, .pointer (some ⟨b, 0, none⟩)]) w1 := hen
      have hv : ptrK.v b = .pointer (some ⟨b, 0, none⟩) := rfl
      rw [hv]
      clear hen hv hkx hlx hRc hat hrg1 hlt hg1 hs1 hgt hpm hme hb1 hvw hblk hrow1 hls
      by_cases h0 : 0 < ls
      · have h0' : (0 : Int) < (ls : Int) := by omega
        have HP := Lib.hid (show namePr M (t, b) = true from decide_eq_true (by rw [HLS.out]; exact h0))
        clear h0
        have hlen2 : n1 < L.length := by
          have h1 := took_len (took_yes HTK.out HPM.out HLX.out HP.out)
          rw [List.length_append, HN1.out] at h1
          simp at h1
          omega
        have HA1 := Lib.hid (HROW1.out.alloc (.cells #[.string t] 9))
        have HG2 := Lib.hid (HG1.out.alloc (.cells #[.string t] 9))
        have HB2 := Lib.hid (HB1.out.alloc HB1.out.size (.cells #[.string t] 9))
        have HSRC := Lib.hid (SrcN.of_block (size := 1) (m := 1) (heap_alloc_new w1 (.cells #[.string t] 9)) rfl (by simp [Value.oneCell']) 1)
        go_wp2_with (at_builtin; refine wpList_append_srcN (by rfl) _ _ 32 (by rfl) w.heap.size 9 i0 (.string ⟨#[]⟩) 1 16 Try.underlying32 HI.out HZ0.out HZ1.out HZ2.out (by rfl) (by omega) (.slice qa n1 qc) n1 (T.map Value.string) (by rfl) HA1.out (.slice (some ⟨w1.heap.size, 0, none⟩) 1 1) 1 [.string t] (by rfl) HSRC.out (by unfold maxLen; omega) (by omega) (by exact HB2.out.size) ?_; intro v8 w8 hr8 hg8 hat8; obtain ⟨a8, c8, rfl⟩ := row_form hr8; have HR8 := Lib.hid hr8; have HG8 := Lib.hid hg8; clear hr8 hg8 hat8)
        go_roundw
        case rel =>
          have hm := HH.out.out.lt
          refine ⟨_, _, T ++ [t], HG2.out.kept HG8.out (row_ne_low HA1.out hm) (row_ne_iter HA1.out HG2.out), took_yes HTK.out HPM.out HLX.out HP.out, ?_, HB2.out.grown HG8.out HB2.out.size (fun b hb => (HA1.out.lt b hb).1)⟩
          rw [List.length_append, HN1.out, List.map_append]
          exact HR8.out
        case measure =>
          have h1 := HG2.out.kept HG8.out (row_ne_low HA1.out HH.out.out.lt) (row_ne_iter HA1.out HG2.out)
          rw [h1.left_eq, HG.out.left_eq]; exact HLT.out
      · have h0' : ¬ (0 : Int) < (ls : Int) := by omega
        have HP := Lib.hid (show namePr M (t, b) = false from decide_eq_false (by rw [HLS.out]; exact h0))
        clear h0
        go_wp2_with fail
        go_roundw
        case rel => exact ⟨_, _, T, HG1.out, took_no HRI.out HTK.out HPM.out HLX.out HP.out, by rw [HN1.out]; exact HROW1.out, HB1.out⟩
        case measure => rw [HG1.out.left_eq, HG.out.left_eq]; exact HLT.out
end Go.Proofs.Ytobcpafalfdpkaa
