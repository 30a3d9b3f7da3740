/- The document's index: Names, Fields, Values, Keys: rising, each once. Condition: the bounds. -/
import Derived.Test.YtobcpafalfdpkaaBD
namespace Go.Proofs.Ytobcpafalfdpkaa
open Go.RowKit Go.WideMaps Go.Sort
theorem put_set {T U : List BA} {s : BA} (h : PutS T s U) (hr : T.Pairwise sLt) : U.Pairwise sLt ∧ (∀ t, t ∈ U ↔ t ∈ T ∨ t = s) ∧ U.length ≤ T.length + 1 := by
  obtain ⟨k, ⟨hk, hlo, hhi⟩, ⟨hs, rfl⟩ | ⟨hs, rfl⟩⟩ := h
  · exact ⟨hr, fun t => ⟨.inl, fun h => h.elim id fun e => by rw [e]; exact List.mem_of_getElem? hs⟩, Nat.le_succ _⟩
  · refine ⟨List.pairwise_append.2 ⟨hr.sublist (List.take_sublist ..), List.pairwise_cons.2 ⟨fun y hy => ?_, hr.sublist (List.drop_sublist ..)⟩, fun a ha b hb => ?_⟩, fun t => ?_, ?_⟩
    · have hkl : k < T.length := by
        rcases Nat.lt_or_ge k T.length with h | h
        · exact h
        · rw [List.drop_eq_nil_of_le h] at hy; cases hy
      have hg := List.getElem?_eq_getElem hkl
      have h1 := hhi _ hg
      have h2 : sLt s T[k] := by
        rcases Classical.em (sLt s T[k]) with h | h
        · exact h
        · exact absurd (by rw [hg, sLt_tri h1 h]) hs
      rw [List.drop_eq_getElem_cons hkl] at hy
      rcases List.mem_cons.1 hy with rfl | hy
      · exact h2
      · have h3 : (T.drop k).Pairwise sLt := hr.sublist (List.drop_sublist ..)
        rw [List.drop_eq_getElem_cons hkl] at h3
        exact sLt_tr h2 ((List.pairwise_cons.1 h3).1 y hy)
    · obtain ⟨j, hj, e⟩ := List.mem_iff_getElem.1 ha
      have hjk : j < k := by rw [List.length_take] at hj; omega
      have hjl : j < T.length := by omega
      have e2 : T[j]? = some a := by rw [List.getElem?_eq_getElem hjl, ← e, List.getElem_take]
      have h1 := hlo j a hjk e2
      rcases List.mem_cons.1 hb with rfl | hb
      · exact h1
      · have h3 := List.pairwise_append.1 (by rw [List.take_append_drop]; exact hr : (T.take k ++ T.drop k).Pairwise sLt)
        exact h3.2.2 a ha b hb
    · rw [List.mem_append, List.mem_cons]
      have h3 : t ∈ T ↔ t ∈ T.take k ∨ t ∈ T.drop k := by rw [← List.mem_append, List.take_append_drop]
      rw [h3]
      constructor
      · rintro (h | h | h)
        · exact .inl (.inl h)
        · exact .inr h
        · exact .inl (.inr h)
      · rintro ((h | h) | h)
        · exact .inl h
        · exact .inr (.inr h)
        · exact .inr (.inl h)
    · rw [List.length_append, List.length_cons, List.length_take, List.length_drop]; omega
/-- A rising list of all that has P. -/
def RSetPost (w : World) (P : BA → Prop) (e : Ending) (w' : World) : Prop := ∃ (v : Value) (U : List BA), e = .returned v ∧ U.Pairwise sLt ∧ (∀ t, t ∈ U ↔ P t) ∧ w'.ownsRow w.heap.size 9 1 v U.length (U.map Value.string) ∧ Below w.heap.size w w'
def InSet (base : Nat) (w : World) (P : Nat → BA → Prop) (c : Nat) (n : Nat) (q i : Value) (wr : World) : Prop := ∃ (k : Nat) (U : List BA), k ≤ n ∧ i = .int .i64 k ∧ U.Pairwise sLt ∧ (∀ t, t ∈ U ↔ P k t) ∧ U.length ≤ c + k ∧ wr.ownsRow base 9 1 q U.length (U.map Value.string) ∧ Below w.heap.size w wr
set_option maxRecDepth 100000 in
set_option maxHeartbeats 1000000 in
theorem rnames20 {w : World} {T : Nat → Prop} {x : Nat} {E : List (BA × SV)} {K : List (BA × BA × Int)} (h : RefAt w T x E K) (hn : E.length ≤ 2000000000000) : Calls Try.prog 20 #[.pointer (some ⟨x, 0, none⟩)] w (RSetPost w fun t => ∃ p ∈ E, p.2.sr.name = t) := by
  obtain ⟨a, n, c, b, m, d, hx, hEn, _, hrow, _⟩ := h.open
  have c0 : w.cell? ⟨x, 0, none⟩ = some (.slice a n c) := by simp [World.cell?, hx]
  have HX := Lib.hid hx
  have HE := Lib.hid hEn
  have HROW := Lib.hid hrow
  rw [hEn] at hn
  clear h hx hEn hrow
  go_enter Try.func20, Try.ntmps20
  go_wp2_with fail
  clear c0
  go_loopw [3, 10] (fun q i wr => InSet w.heap.size w (fun k t => ∃ p ∈ E.take k, p.2.sr.name = t) 0 n q i wr) (fun _ i _ => n - (intOf i).toNat)
  case atStart => exact ⟨0, [], Nat.zero_le _, rfl, List.Pairwise.nil, fun t => ⟨(fun h => nomatch h), fun ⟨p, h, _⟩ => by simp at h⟩, Nat.zero_le _, World.ownsRow_nil _ _ _ _, Below.refl _ _⟩
  case round =>
    obtain ⟨k, U, hkn, rfl, hpw, hmem, hul, hq, hb⟩ := hrel
    by_cases hlt : k < n
    · obtain ⟨p, hp⟩ : ∃ p, E[k]? = some p := ⟨_, List.getElem?_eq_getElem (by rw [HE.out]; exact hlt)⟩
      obtain ⟨g, rfl, _, q1, _⟩ := en_cell (row_later HROW.out hb) HE.out hp
      have hx := (hb.block x (heap_lt HX.out)).trans HX.out
      have c0 : wr.cell? ⟨x, 0, none⟩ = some (.slice (some ⟨g, 0, none⟩) n c) := by simp [World.cell?, hx]
      have HP := Lib.hid (put48 p.2.sr.name hq rfl hb.size (by omega))
      have HPW := Lib.hid hpw
      have HM := Lib.hid hmem
      have HUL := Lib.hid hul
      have HB := Lib.hid hb
      have HPK := Lib.hid hp
      obtain ⟨sn, hsn⟩ : ∃ sn, p.2.sr.name = sn := ⟨_, rfl⟩
      have HSN := Lib.hid hsn
      rw [hsn] at q1 HP
      clear hpw hmem hul hq hb hp hx hsn
      go_wp2_with fail
      refine HP.out.mono ?_
      rintro e w2 ⟨v2, U2, rfl, hput, hr2, hb2⟩
      have HPUT := Lib.hid hput
      have HR2 := Lib.hid hr2
      have HB2 := Lib.hid (HB.out.trans (hb2.mono HB.out.size))
      clear hput hr2 hb2 q1 c0
      go_wp2_with fail
      go_roundw
      case rel =>
        obtain ⟨h1, h2, h3⟩ := put_set HPUT.out HPW.out
        obtain ⟨hk', he'⟩ := List.getElem?_eq_some_iff.1 HPK.out
        refine ⟨k + 1, U2, by omega, by go_num, h1, fun t => ?_, by have := HUL.out; omega, HR2.out, HB2.out⟩
        show t ∈ U2 ↔ ∃ p ∈ E.take (k + 1), p.2.sr.name = t
        rw [h2, HM.out, List.take_succ_eq_append_getElem hk', he']
        constructor
        · rintro (⟨y, hy, e⟩ | rfl)
          · exact ⟨y, List.mem_append.2 (.inl hy), e⟩
          · exact ⟨p, by simp, HSN.out⟩
        · rintro ⟨y, hy, e⟩
          rcases List.mem_append.1 hy with hy | hy
          · exact .inl ⟨y, hy, e⟩
          · rw [List.mem_singleton.1 hy, HSN.out] at e; exact .inr e.symm
      case measure => simp [intOf]; omega
    · have hke : k = n := by omega
      subst hke
      have hall : E.take k = E := by rw [← HE.out, List.take_length]
      obtain ⟨qa, qc, rfl⟩ := row_form hq
      have HQ := Lib.hid hq
      have HB := Lib.hid hb
      have HPW := Lib.hid hpw
      have HM := Lib.hid (fun t => by have h := hmem t; change t ∈ U ↔ ∃ p ∈ E.take k, p.2.sr.name = t at h; rw [h, hall] : ∀ t, t ∈ U ↔ ∃ p ∈ E, p.2.sr.name = t)
      clear hq hb hall hlt hpw hmem
      go_wp2_with fail
      go_ret
      exact ⟨_, U, rfl, HPW.out, HM.out, HQ.out, HB.out⟩
set_option maxRecDepth 100000 in
set_option maxHeartbeats 1000000 in
theorem rfields47 {w : World} {T : Nat → Prop} {x : Nat} {E : List (BA × SV)} {K : List (BA × BA × Int)} (h : RefAt w T x E K) (nm : BA) (hn : K.length ≤ 2000000000000) : Calls Try.prog 47 #[.pointer (some ⟨x, 0, none⟩), .string nm] w (RSetPost w fun t => ∃ p ∈ K, p.1 = nm ∧ p.2.1 = t) := by
  obtain ⟨a0, n0, c0', a, n, c, hx, _, hEn, _, hrow⟩ := h.open
  have c0 : w.cell? ⟨x, 1, none⟩ = some (.slice a n c) := by simp [World.cell?, hx]
  have HX := Lib.hid hx
  have HE := Lib.hid hEn
  have HROW := Lib.hid hrow
  rw [hEn] at hn
  clear h hx hEn hrow
  go_enter Try.func47, Try.ntmps47
  go_wp2_with fail
  clear c0
  go_loopw [5, 12] (fun q i wr => InSet w.heap.size w (fun k t => ∃ p ∈ K.take k, p.1 = nm ∧ p.2.1 = t) 0 n q i wr) (fun _ i _ => n - (intOf i).toNat)
  case atStart => exact ⟨0, [], Nat.zero_le _, rfl, List.Pairwise.nil, fun t => ⟨(fun h => nomatch h), fun ⟨p, h, _⟩ => by simp at h⟩, Nat.zero_le _, World.ownsRow_nil _ _ _ _, Below.refl _ _⟩
  case round =>
    obtain ⟨k, U, hkn, rfl, hpw, hmem, hul, hq, hb⟩ := hrel
    by_cases hlt : k < n
    · obtain ⟨p, hp⟩ : ∃ p, K[k]? = some p := ⟨_, List.getElem?_eq_getElem (by rw [HE.out]; exact hlt)⟩
      obtain ⟨g, rfl, q0, q1, _⟩ := ki_cell (row_later HROW.out hb) HE.out hp
      have hx := (hb.block x (heap_lt HX.out)).trans HX.out
      have c0 : wr.cell? ⟨x, 1, none⟩ = some (.slice (some ⟨g, 0, none⟩) n c) := by simp [World.cell?, hx]
      have HP := Lib.hid (put48 p.2.1 hq rfl hb.size (by omega))
      have HPW := Lib.hid hpw
      have HM := Lib.hid hmem
      have HUL := Lib.hid hul
      have HQ := Lib.hid hq
      have HB := Lib.hid hb
      have HPK := Lib.hid hp
      obtain ⟨pn, pf, pk⟩ := p
      simp only at q0 q1 HP
      obtain ⟨hk', he'⟩ := List.getElem?_eq_some_iff.1 hp
      have HSPL := Lib.hid (fun t => by
        rw [List.take_succ_eq_append_getElem hk', he']
        constructor
        · rintro ⟨y, hy, e⟩
          rcases List.mem_append.1 hy with hy | hy
          · exact .inl ⟨y, hy, e⟩
          · rw [List.mem_singleton.1 hy] at e; exact .inr e
        · rintro (⟨y, hy, e⟩ | e)
          · exact ⟨y, List.mem_append.2 (.inl hy), e⟩
          · exact ⟨_, List.mem_append.2 (.inr (List.mem_singleton.2 rfl)), e⟩ : ∀ t, (∃ p ∈ K.take (k + 1), p.1 = nm ∧ p.2.1 = t) ↔ (∃ p ∈ K.take k, p.1 = nm ∧ p.2.1 = t) ∨ (pn = nm ∧ pf = t))
      clear hpw hmem hul hb hp hx hk' he'
      cases he : (pn.toList == nm.toList) with
      | true =>
        have hnm : pn = nm := by rw [beq_iff_eq, ByteArray.toList_eq, ByteArray.toList_eq] at he; exact ba_eq he
        have HNM := Lib.hid hnm
        clear hnm hq
        go_wp2_with fail
        refine HP.out.mono ?_
        rintro e w2 ⟨v2, U2, rfl, hput, hr2, hb2⟩
        have HPUT := Lib.hid hput
        have HR2 := Lib.hid hr2
        have HB2 := Lib.hid (HB.out.trans (hb2.mono HB.out.size))
        clear hput hr2 hb2 q0 q1 c0
        go_wp2_with fail
        go_roundw
        case rel =>
          obtain ⟨h1, h2, h3⟩ := put_set HPUT.out HPW.out
          refine ⟨k + 1, U2, by omega, by go_num, h1, fun t => ?_, by have := HUL.out; omega, HR2.out, HB2.out⟩
          show t ∈ U2 ↔ ∃ p ∈ K.take (k + 1), p.1 = nm ∧ p.2.1 = t
          rw [h2, HM.out, HSPL.out]
          exact or_congr Iff.rfl ⟨fun e => ⟨HNM.out, e.symm⟩, fun e => e.2.symm⟩
        case measure => simp [intOf]; omega
      | false =>
        have hnm : pn ≠ nm := fun e => by rw [e] at he; simp at he
        have HNM := Lib.hid hnm
        clear hnm
        obtain ⟨qa, qc, rfl⟩ := row_form hq
        clear hq
        go_wp2_with fail
        go_roundw
        case rel =>
          refine ⟨k + 1, U, by omega, by go_num, HPW.out, fun t => ?_, by have := HUL.out; omega, HQ.out, HB.out⟩
          show t ∈ U ↔ ∃ p ∈ K.take (k + 1), p.1 = nm ∧ p.2.1 = t
          rw [HM.out, HSPL.out]
          exact ⟨.inl, fun h => h.elim id fun e => absurd e.1 HNM.out⟩
        case measure => simp [intOf]; omega
    · have hke : k = n := by omega
      subst hke
      have hall : K.take k = K := by rw [← HE.out, List.take_length]
      obtain ⟨qa, qc, rfl⟩ := row_form hq
      have HQ := Lib.hid hq
      have HB := Lib.hid hb
      have HPW := Lib.hid hpw
      have HM := Lib.hid (fun t => by have h := hmem t; change t ∈ U ↔ ∃ p ∈ K.take k, p.1 = nm ∧ p.2.1 = t at h; rw [h, hall] : ∀ t, t ∈ U ↔ ∃ p ∈ K, p.1 = nm ∧ p.2.1 = t)
      clear hq hb hall hlt hpw hmem
      go_wp2_with fail
      go_ret
      exact ⟨_, U, rfl, HPW.out, HM.out, HQ.out, HB.out⟩
end Go.Proofs.Ytobcpafalfdpkaa
/- The document's index: Values, Keys: rising, each once. Condition: the bounds. -/
namespace Go.Proofs.Ytobcpafalfdpkaa
open Go.RowKit Go.WideMaps Go.Sort
theorem take_ex {α : Type} {L : List α} {Q : α → Prop} {k : Nat} {x : α} (h : L[k]? = some x) : (∃ y ∈ L.take (k + 1), Q y) ↔ (∃ y ∈ L.take k, Q y) ∨ Q x := by
  obtain ⟨hk, he⟩ := List.getElem?_eq_some_iff.1 h
  rw [List.take_succ_eq_append_getElem hk, he]
  constructor
  · rintro ⟨y, hy, e⟩
    rcases List.mem_append.1 hy with hy | hy
    · exact .inl ⟨y, hy, e⟩
    · rw [List.mem_singleton.1 hy] at e; exact .inr e
  · rintro (⟨y, hy, e⟩ | e)
    · exact ⟨y, List.mem_append.2 (.inl hy), e⟩
    · exact ⟨_, List.mem_append.2 (.inr (List.mem_singleton.2 rfl)), e⟩
set_option maxRecDepth 100000 in
set_option maxHeartbeats 1000000 in
theorem rvalues45 {w : World} {T : Nat → Prop} {x : Nat} {E : List (BA × SV)} {K : List (BA × BA × Int)} (h : RefAt w T x E K) (nm key : BA) (hn : E.length ≤ 2000000000000) : Calls Try.prog 45 #[.pointer (some ⟨x, 0, none⟩), .string nm, .string key] w (RSetPost w fun t => ∃ s ∈ rAll E nm, s.sr.tg key = (t, true)) := by
  have HA := Lib.hid (all43 h nm hn)
  have hln := rAll_len E nm
  have HSER := Lib.hid (fun s hs => (rAll_ser h hs).1 : ∀ s ∈ rAll E nm, SerO 0 w s)
  obtain ⟨L, hL⟩ : ∃ L, rAll E nm = L := ⟨_, rfl⟩
  rw [hL] at HA hln HSER ⊢
  obtain ⟨n, hLn⟩ : ∃ n, L.length = n := ⟨_, rfl⟩
  rw [hLn] at hln
  have HLN := Lib.hid hLn
  have hn2 : n ≤ 2000000000000 := Nat.le_trans hln hn
  clear h hL hLn hln hn
  go_enter Try.func45, Try.ntmps45
  go_wp2_with fail
  refine HA.out.mono ?_
  rintro e w1 ⟨v, rfl, hrow, hb1⟩
  rw [HLN.out] at hrow
  obtain ⟨a, c, rfl⟩ := row_form hrow
  have HROW := Lib.hid hrow
  have HB1 := Lib.hid hb1
  clear hrow hb1 HA
  go_wp2_with fail
  go_loopw [7, 17] (fun q i wr => InSet w1.heap.size w1 (fun k t => ∃ s ∈ L.take k, s.sr.tg key = (t, true)) 0 n q i wr) (fun _ i _ => n - (intOf i).toNat)
  case atStart => exact ⟨0, [], Nat.zero_le _, rfl, List.Pairwise.nil, fun t => ⟨(fun h => nomatch h), fun ⟨p, h, _⟩ => by simp at h⟩, Nat.zero_le _, World.ownsRow_nil _ _ _ _, Below.refl _ _⟩
  case round =>
    obtain ⟨k, U, hkn, rfl, hpw, hmem, hul, hq, hb⟩ := hrel
    by_cases hlt : k < n
    · obtain ⟨s, hs⟩ : ∃ s, L[k]? = some s := ⟨_, List.getElem?_eq_getElem (by rw [HLN.out]; exact hlt)⟩
      have hsr := ((HSER.out s (List.mem_of_getElem? hs)).later (HB1.out.trans (hb.mono HB1.out.size))).sr
      obtain ⟨g, rfl, q0, q1⟩ := sv_cell (row_later HROW.out hb) HLN.out hs
      have HPW := Lib.hid hpw
      have HM := Lib.hid (fun t => hmem t : ∀ t, t ∈ U ↔ ∃ s ∈ L.take k, s.sr.tg key = (t, true))
      have HUL := Lib.hid hul
      have HQ := Lib.hid hq
      have HB := Lib.hid hb
      have HSPL := Lib.hid (fun t => take_ex hs : ∀ t, (∃ s ∈ L.take (k + 1), s.sr.tg key = (t, true)) ↔ (∃ s ∈ L.take k, s.sr.tg key = (t, true)) ∨ s.sr.tg key = (t, true))
      have htg := tag13 hsr key
      have hval : s.val = .agg #[.string s.sr.name, s.sl] := rfl
      rw [hval] at htg
      obtain ⟨tv, tb, htb⟩ : ∃ tv tb, s.sr.tg key = (tv, tb) := ⟨_, _, rfl⟩
      rw [htb] at htg HSPL
      simp only at htg
      obtain ⟨sa, sn, sc, hsl⟩ : ∃ a n c, s.sl = .slice a n c := ⟨_, _, _, rfl⟩
      rw [hsl] at q1 htg
      have HTG := Lib.hid htg
      clear hq hb hs hsl htg hval htb hsr hpw hmem hul
      go_wp2_with fail
      refine HTG.out.mono ?_
      rintro e w4 ⟨rfl, hb4⟩
      have HQ4 := Lib.hid (row_later HQ.out hb4)
      have HB4 := Lib.hid (HB.out.trans (hb4.mono HB.out.size))
      have HUB := Lib.hid (show U.length ≤ 4000000000000 by have := HUL.out; omega)
      clear hb4 q0 q1
      cases tb with
      | true =>
        have HP := Lib.hid (put48 tv HQ4.out rfl HB4.out.size HUB.out)
        go_wp2_with fail
        refine HP.out.mono ?_
        rintro e w2 ⟨v2, U2, rfl, hput, hr2, hb2⟩
        have HPUT := Lib.hid hput
        have HR2 := Lib.hid hr2
        have HB2 := Lib.hid (HB4.out.trans (hb2.mono HB4.out.size))
        clear hput hr2 hb2
        go_wp2_with fail
        go_roundw
        case rel =>
          obtain ⟨h1, h2, h3⟩ := put_set HPUT.out HPW.out
          refine ⟨k + 1, U2, by omega, by go_num, h1, fun t => ?_, by have := HUL.out; omega, HR2.out, HB2.out⟩
          show t ∈ U2 ↔ ∃ s ∈ L.take (k + 1), s.sr.tg key = (t, true)
          rw [h2, HM.out, HSPL.out]
          exact or_congr Iff.rfl ⟨fun e => by rw [e], fun e => by injection e with e1 e2; exact e1.symm⟩
        case measure => simp [intOf]; omega
      | false =>
        obtain ⟨qa, qc, rfl⟩ := row_form HQ.out
        go_wp2_with fail
        go_roundw
        case rel =>
          refine ⟨k + 1, U, by omega, by go_num, HPW.out, fun t => ?_, by have := HUL.out; omega, HQ4.out, HB4.out⟩
          show t ∈ U ↔ ∃ s ∈ L.take (k + 1), s.sr.tg key = (t, true)
          rw [HM.out, HSPL.out]
          exact ⟨.inl, fun h => h.elim id fun e => by injection e with e1 e2; cases e2⟩
        case measure => simp [intOf]; omega
    · have hke : k = n := by omega
      subst hke
      have hall : L.take k = L := by rw [← HLN.out, List.take_length]
      obtain ⟨qa, qc, rfl⟩ := row_form hq
      have HQ := Lib.hid hq
      have HB := Lib.hid hb
      have HPW := Lib.hid hpw
      have HM := Lib.hid (fun t => by have h := hmem t; change t ∈ U ↔ ∃ s ∈ L.take k, s.sr.tg key = (t, true) at h; rw [h, hall] : ∀ t, t ∈ U ↔ ∃ s ∈ L, s.sr.tg key = (t, true))
      clear hq hb hall hlt hpw hmem
      go_wp2_with fail
      go_ret
      exact ⟨_, U, rfl, HPW.out, HM.out, row_lower HQ.out HB1.out.size, HB1.out.trans (HB.out.mono HB1.out.size)⟩
def InKeys (base : Nat) (w : World) (P : Nat → BA → Prop) (b m n : Nat) (q i : Value) (wr : World) : Prop := ∃ (k : Nat) (U : List BA), k ≤ n ∧ i = .int .i64 k ∧ U.Pairwise sLt ∧ (∀ t, t ∈ U ↔ P k t) ∧ U.length ≤ b + m * k ∧ wr.ownsRow base 9 1 q U.length (U.map Value.string) ∧ Below w.heap.size w wr
theorem tag_cell {w : World} {base : Nat} {s : SV} (h : SerO base w s) {j : Nat} {p : BA × BA} (hp : s.sr.tags[j]? = some p) {a : Option Addr} {n c : Nat} (hsl : s.sl = .slice a n c) : n = s.sr.tags.length ∧ ∃ g, a = some ⟨g, 0, none⟩ ∧ w.cell? ⟨g, j * 2, none⟩ = some (.string p.1) := by
  obtain ⟨hj, _⟩ := List.getElem?_eq_some_iff.1 hp
  have hn : n = s.sr.tags.length := by unfold SV.sl at hsl; injection hsl with _ e2 _; exact e2.symm
  subst hn
  refine ⟨rfl, ?_⟩
  have hc := h.row
  rcases h.row.2 with ⟨_, h0⟩ | ⟨g, c', cur, hv, _⟩
  · omega
  · rw [hsl] at hv hc
    injection hv with e1 e2 e3
    subst e1
    refine ⟨g, rfl, ?_⟩
    rw [hc.cellAt (j * 2) (by omega)]
    exact flat_at tgV 2 (fun _ => rfl) s.sr.tags j 0 p hp (by omega)
set_option maxRecDepth 100000 in
set_option maxHeartbeats 1000000 in
theorem rkeys44 {w : World} {T : Nat → Prop} {x : Nat} {E : List (BA × SV)} {K : List (BA × BA × Int)} (h : RefAt w T x E K) (nm : BA) (hn : E.length ≤ 400000000000) (h8 : ∀ p ∈ E, p.2.sr.tags.length ≤ 8) : Calls Try.prog 44 #[.pointer (some ⟨x, 0, none⟩), .string nm] w (RSetPost w fun t => ∃ s ∈ rAll E nm, ∃ p ∈ s.sr.tags, p.1 = t) := by
  have HA := Lib.hid (all43 h nm (by omega))
  have hln := rAll_len E nm
  have HSER := Lib.hid (fun s hs => (rAll_ser h hs).1 : ∀ s ∈ rAll E nm, SerO 0 w s)
  have H8 := Lib.hid (fun s hs => by
    unfold rAll at hs
    obtain ⟨p, hp, rfl⟩ := List.mem_map.1 hs
    exact h8 p (List.mem_filter.1 hp).1 : ∀ s ∈ rAll E nm, s.sr.tags.length ≤ 8)
  obtain ⟨L, hL⟩ : ∃ L, rAll E nm = L := ⟨_, rfl⟩
  rw [hL] at HA hln HSER H8 ⊢
  obtain ⟨n, hLn⟩ : ∃ n, L.length = n := ⟨_, rfl⟩
  rw [hLn] at hln
  have HLN := Lib.hid hLn
  have hn2 : n ≤ 400000000000 := Nat.le_trans hln hn
  clear h hL hLn hln hn h8
  go_enter Try.func44, Try.ntmps44
  go_wp2_with fail
  refine HA.out.mono ?_
  rintro e w1 ⟨v, rfl, hrow, hb1⟩
  rw [HLN.out] at hrow
  obtain ⟨a, c, rfl⟩ := row_form hrow
  have HROW := Lib.hid hrow
  have HB1 := Lib.hid hb1
  clear hrow hb1 HA
  go_wp2_with fail
  go_loopw [5, 14] (fun q i wr => InKeys w1.heap.size w1 (fun k t => ∃ s ∈ L.take k, ∃ p ∈ s.sr.tags, p.1 = t) 0 8 n q i wr) (fun _ i _ => n - (intOf i).toNat)
  case atStart => exact ⟨0, [], Nat.zero_le _, rfl, List.Pairwise.nil, fun t => ⟨(fun h => nomatch h), fun ⟨p, h, _⟩ => by simp at h⟩, Nat.zero_le _, World.ownsRow_nil _ _ _ _, Below.refl _ _⟩
  case round =>
    rename World => wo
    obtain ⟨k, U, hkn, rfl, hpw, hmem, hul, hq, hb⟩ := hrel
    by_cases hlt : k < n
    · obtain ⟨s, hs⟩ : ∃ s, L[k]? = some s := ⟨_, List.getElem?_eq_getElem (by rw [HLN.out]; exact hlt)⟩
      have hsm := List.mem_of_getElem? hs
      have HSO := Lib.hid ((HSER.out s hsm).later (HB1.out.trans (hb.mono HB1.out.size)))
      have ht8 := H8.out s hsm
      obtain ⟨g, rfl, _, q1⟩ := sv_cell (row_later HROW.out hb) HLN.out hs
      have HPW := Lib.hid hpw
      have HM := Lib.hid (fun t => hmem t : ∀ t, t ∈ U ↔ ∃ s ∈ L.take k, ∃ p ∈ s.sr.tags, p.1 = t)
      have HQ := Lib.hid hq
      have HB := Lib.hid hb
      have HSPL := Lib.hid (fun t => take_ex hs : ∀ t, (∃ s ∈ L.take (k + 1), ∃ p ∈ s.sr.tags, p.1 = t) ↔ (∃ s ∈ L.take k, ∃ p ∈ s.sr.tags, p.1 = t) ∨ ∃ p ∈ s.sr.tags, p.1 = t)
      obtain ⟨sa, sn, sc, hsl⟩ : ∃ a n c, s.sl = .slice a n c := ⟨_, _, _, rfl⟩
      have hsn : sn = s.sr.tags.length := by unfold SV.sl at hsl; injection hsl with _ e2 _; exact e2.symm
      rw [hsl] at q1
      have HSL := Lib.hid hsl
      have HSN := Lib.hid hsn
      have HQ1 := Lib.hid q1
      rw [← hsn] at ht8
      have HLT := Lib.hid hlt
      clear hq hb hs hsl hpw hmem hsm hsn hlt
      go_wp2_with fail
      clear q1
      go_loopw [5, 23] (fun q i wr => InKeys w1.heap.size wo (fun j t => (∃ s ∈ L.take k, ∃ p ∈ s.sr.tags, p.1 = t) ∨ ∃ p ∈ s.sr.tags.take j, p.1 = t) (8 * k) 1 sn q i wr) (fun _ i _ => sn - (intOf i).toNat)
      case atStart => exact ⟨0, U, Nat.zero_le _, rfl, HPW.out, fun t => (HM.out t).trans ⟨.inl, fun h => h.elim id fun ⟨p, hp, _⟩ => by simp at hp⟩, by omega, HQ.out, Below.refl _ _⟩
      case round =>
        obtain ⟨j, V, hjn, rfl, hpw, hmem, hvl, hq, hb⟩ := hrel
        by_cases hlj : j < sn
        · obtain ⟨p, hp⟩ : ∃ p, s.sr.tags[j]? = some p := ⟨_, List.getElem?_eq_getElem (by rw [← HSN.out]; exact hlj)⟩
          obtain ⟨hx1, tg, rfl, t0⟩ := tag_cell (HSO.out.later hb) hp HSL.out
          clear hx1
          have q1 := (hb.cell (cell_lt HQ1.out)).trans HQ1.out
          have hlt := HLT.out
          have HP := Lib.hid (put48 p.1 hq rfl (Nat.le_trans (show w1.heap.size ≤ wo.heap.size from HB.out.size) hb.size) (by omega))
          have HPW2 := Lib.hid hpw
          have HM2 := Lib.hid (fun t => hmem t : ∀ t, t ∈ V ↔ ((∃ s ∈ L.take k, ∃ p ∈ s.sr.tags, p.1 = t) ∨ ∃ p ∈ s.sr.tags.take j, p.1 = t))
          have HBB := Lib.hid hb
          have HSPL2 := Lib.hid (fun t => take_ex hp : ∀ t, (∃ p ∈ s.sr.tags.take (j + 1), p.1 = t) ↔ (∃ p ∈ s.sr.tags.take j, p.1 = t) ∨ p.1 = t)
          have HVL := Lib.hid hvl
          obtain ⟨pk, pv⟩ := p
          simp only at t0 HP HSPL2
          clear hpw hmem hvl hq hb hp
          go_wp2_with fail
          refine HP.out.mono ?_
          rintro e w2 ⟨v2, U2, rfl, hput, hr2, hb2⟩
          have HPUT := Lib.hid hput
          have HR2 := Lib.hid hr2
          have HB2 := Lib.hid (HBB.out.trans (hb2.mono HBB.out.size))
          clear hput hr2 hb2 t0 q1
          go_wp2_with fail
          go_roundw
          case rel =>
            obtain ⟨h1, h2, h3⟩ := put_set HPUT.out HPW2.out
            refine ⟨j + 1, U2, by omega, by go_num, h1, fun t => ?_, by have := HVL.out; omega, HR2.out, HB2.out⟩
            show t ∈ U2 ↔ ((∃ s ∈ L.take k, ∃ p ∈ s.sr.tags, p.1 = t) ∨ ∃ p ∈ s.sr.tags.take (j + 1), p.1 = t)
            rw [h2, HM2.out, HSPL2.out, or_assoc]
            exact or_congr Iff.rfl (or_congr Iff.rfl ⟨Eq.symm, Eq.symm⟩)
          case measure => simp [intOf]; omega
        · have hje : j = sn := by omega
          subst hje
          have hall : s.sr.tags.take j = s.sr.tags := by rw [HSN.out, List.take_length]
          obtain ⟨qa, qc, rfl⟩ := row_form hq
          have HQ2 := Lib.hid hq
          have HBB := Lib.hid (HB.out.trans (hb.mono HB.out.size))
          have HPW2 := Lib.hid hpw
          have HVL := Lib.hid hvl
          have HM2 := Lib.hid (fun t => by have h := hmem t; change t ∈ V ↔ ((∃ s ∈ L.take k, ∃ p ∈ s.sr.tags, p.1 = t) ∨ ∃ p ∈ s.sr.tags.take j, p.1 = t) at h; rw [h, hall] : ∀ t, t ∈ V ↔ ((∃ s ∈ L.take k, ∃ p ∈ s.sr.tags, p.1 = t) ∨ ∃ p ∈ s.sr.tags, p.1 = t))
          have hlt := HLT.out
          clear hq hb hall hlj hpw hmem hvl
          go_wp2_with fail
          go_roundw
          case rel =>
            refine ⟨k + 1, V, by omega, by go_num, HPW2.out, fun t => ?_, by have := HVL.out; omega, HQ2.out, HBB.out⟩
            show t ∈ V ↔ ∃ s ∈ L.take (k + 1), ∃ p ∈ s.sr.tags, p.1 = t
            rw [HM2.out, HSPL.out]
          case measure => simp [intOf]; omega
    · have hke : k = n := by omega
      subst hke
      have hall : L.take k = L := by rw [← HLN.out, List.take_length]
      obtain ⟨qa, qc, rfl⟩ := row_form hq
      have HQ := Lib.hid hq
      have HB := Lib.hid hb
      have HPW := Lib.hid hpw
      have HM := Lib.hid (fun t => by have h := hmem t; change t ∈ U ↔ ∃ s ∈ L.take k, ∃ p ∈ s.sr.tags, p.1 = t at h; rw [h, hall] : ∀ t, t ∈ U ↔ ∃ s ∈ L, ∃ p ∈ s.sr.tags, p.1 = t)
      clear hq hb hall hlt hpw hmem
      go_wp2_with fail
      go_ret
      exact ⟨_, U, rfl, HPW.out, HM.out, row_lower HQ.out HB1.out.size, HB1.out.trans (HB.out.mono HB1.out.size)⟩
end Go.Proofs.Ytobcpafalfdpkaa
