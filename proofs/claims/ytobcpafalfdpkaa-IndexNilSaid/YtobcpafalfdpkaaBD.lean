/- The document's index: All, With. Condition: the bounds. -/
import Derived.Test.YtobcpafalfdpkaaBC
namespace Go.Proofs.Ytobcpafalfdpkaa
open Go.RowKit Go.WideMaps Go.Sort
theorem sv_cell {w : World} {base n c : Nat} {a : Option Addr} {L : List SV} (h : w.ownsRow base 31 2 (.slice a n c) n (svC L)) (hl : L.length = n) {k : Nat} {s : SV} (hk : L[k]? = some s) : ∃ g, a = some ⟨g, 0, none⟩ ∧ w.cell? ⟨g, k * 2, none⟩ = some (.string s.sr.name) ∧ w.cell? ⟨g, k * 2 + 1, none⟩ = some s.sl := by
  obtain ⟨hk', _⟩ := List.getElem?_eq_some_iff.1 hk
  have hc := h
  rcases h.2 with ⟨_, h0⟩ | ⟨g, c', cur, hv, _⟩
  · omega
  · injection hv with e1 e2 e3
    subst e1
    have h0 := flat_at svV 2 (fun _ => rfl) L k 0 s hk (by omega)
    have h1 := flat_at svV 2 (fun _ => rfl) L k 1 s hk (by omega)
    refine ⟨g, rfl, ?_, ?_⟩
    · rw [hc.cellAt (k * 2) (by omega)]; exact h0
    · rw [hc.cellAt (k * 2 + 1) (by omega)]; exact h1
def rAll (E : List (BA × SV)) (nm : BA) : List SV := (E.filter fun p => decide (p.2.sr.name = nm)).map (·.2)
theorem rAll_len (E : List (BA × SV)) (nm : BA) : (rAll E nm).length ≤ E.length := by
  unfold rAll
  rw [List.length_map]
  exact List.length_filter_le ..
theorem rAll_yes {E : List (BA × SV)} {nm : BA} {k : Nat} {p : BA × SV} (h : E[k]? = some p) (hn : p.2.sr.name = nm) : rAll (E.take (k + 1)) nm = rAll (E.take k) nm ++ [p.2] := by
  obtain ⟨hk, he⟩ := List.getElem?_eq_some_iff.1 h
  unfold rAll
  rw [List.take_succ_eq_append_getElem hk, he, List.filter_append, List.map_append]
  simp [hn]
theorem rAll_no {E : List (BA × SV)} {nm : BA} {k : Nat} {p : BA × SV} (h : E[k]? = some p) (hn : p.2.sr.name ≠ nm) : rAll (E.take (k + 1)) nm = rAll (E.take k) nm := by
  obtain ⟨hk, he⟩ := List.getElem?_eq_some_iff.1 h
  unfold rAll
  rw [List.take_succ_eq_append_getElem hk, he, List.filter_append, List.map_append]
  simp [hn]
def RowPost (w : World) (L : List SV) (e : Ending) (w' : World) : Prop := ∃ v, e = .returned v ∧ w'.ownsRow w.heap.size 31 2 v L.length (svC L) ∧ Below w.heap.size w w'
def InAll (w : World) (F : Nat → List SV) (n : Nat) (q i : Value) (wr : World) : Prop := ∃ k : Nat, k ≤ n ∧ i = .int .i64 k ∧ wr.ownsRow w.heap.size 31 2 q (F k).length (svC (F k)) ∧ Below w.heap.size w wr
theorem svC_snoc (L : List SV) (s : SV) : svC (L ++ [s]) = svC L ++ [.string s.sr.name, s.sl] := by
  unfold svC
  rw [List.flatMap_append]
  simp [svV]
set_option maxRecDepth 100000 in
set_option maxHeartbeats 1000000 in
theorem all43 {w : World} {T : Nat → Prop} {x : Nat} {E : List (BA × SV)} {K : List (BA × BA × Int)} (h : RefAt w T x E K) (nm : BA) (hn : E.length ≤ 2000000000000) : Calls Try.prog 43 #[.pointer (some ⟨x, 0, none⟩), .string nm] w (RowPost w (rAll E nm)) := by
  obtain ⟨a, n, c, b, m, d, hx, hEn, _, hrow, _⟩ := h.open
  obtain ⟨i0, z0', hi0, hz0, hz1, hz2, hz3⟩ := zparts31
  have HI := Lib.hid hi0
  have HI0 := Lib.hid hz0
  have HI1 := Lib.hid hz1
  have HI2 := Lib.hid hz2
  have HI3 := Lib.hid hz3
  have c0 : w.cell? ⟨x, 0, none⟩ = some (.slice a n c) := by simp [World.cell?, hx]
  have HX := Lib.hid hx
  have HE := Lib.hid hEn
  have HROW := Lib.hid hrow
  rw [hEn] at hn
  clear h hx hEn hrow hi0 hz0 hz1 hz2 hz3
  go_enter Try.func43, Try.ntmps43
  go_wp2_with fail
  clear c0
  go_loopw [5, 12] (fun q i wr => InAll w (fun k => rAll (E.take k) nm) n q i wr) (fun _ i _ => n - (intOf i).toNat)
  case atStart => exact ⟨0, Nat.zero_le _, rfl, World.ownsRow_nil _ _ _ _, Below.refl _ _⟩
  case round =>
    obtain ⟨k, hkn, rfl, hq, hb⟩ := hrel
    change wr.ownsRow _ _ _ _ (rAll (E.take k) nm).length (svC (rAll (E.take k) nm)) at hq
    by_cases hlt : k < n
    · obtain ⟨p, hp⟩ : ∃ p, E[k]? = some p := ⟨_, List.getElem?_eq_getElem (by rw [HE.out]; exact hlt)⟩
      obtain ⟨g, rfl, q0, q1, q2⟩ := en_cell (row_later HROW.out hb) HE.out hp
      have hx := (hb.block x (heap_lt HX.out)).trans HX.out
      have c0 : wr.cell? ⟨x, 0, none⟩ = some (.slice (some ⟨g, 0, none⟩) n c) := by simp [World.cell?, hx]
      obtain ⟨qa, qc, rfl⟩ := row_form hq
      have hl : (rAll (E.take k) nm).length ≤ k := by
        have := rAll_len (E.take k) nm
        rw [List.length_take] at this
        omega
      have HF := Lib.hid (show p.2.sr.name = nm → rAll (E.take (k + 1)) nm = rAll (E.take k) nm ++ [p.2] from rAll_yes hp)
      have HF2 := Lib.hid (show p.2.sr.name ≠ nm → rAll (E.take (k + 1)) nm = rAll (E.take k) nm from rAll_no hp)
      obtain ⟨L, hL⟩ : ∃ L, rAll (E.take k) nm = L := ⟨_, rfl⟩
      rw [hL] at hq hl HF HF2
      obtain ⟨l, hll⟩ : ∃ l, L.length = l := ⟨_, rfl⟩
      rw [hll] at hq hl
      have HL := Lib.hid hL
      have HLL := Lib.hid hll
      have HQ := Lib.hid hq
      have HB := Lib.hid hb
      rw [hL, hll]
      obtain ⟨t, sv⟩ := p
      obtain ⟨sa, sn, sc, hsl⟩ : ∃ a n c, sv.sl = .slice a n c := ⟨_, _, _, rfl⟩
      simp only at q0 q1 q2 HF HF2
      rw [hsl] at q2
      have HSL := Lib.hid hsl
      clear hq hb hp hx hL hll hsl q0
      cases he : (sv.sr.name.toList == nm.toList) with
      | true =>
        have hnm : sv.sr.name = nm := by rw [beq_iff_eq, ByteArray.toList_eq, ByteArray.toList_eq] at he; exact ba_eq he
        have HF1 := Lib.hid (HF.out hnm)
        have HA := Lib.hid (HQ.out.alloc (.cells #[.string sv.sr.name, .slice sa sn sc] 31))
        have HBA := Lib.hid (HB.out.alloc HB.out.size (.cells #[.string sv.sr.name, .slice sa sn sc] 31))
        have HSRC := Lib.hid (SrcN.of_block (size := 2) (m := 1) (heap_alloc_new wr (.cells #[.string sv.sr.name, .slice sa sn sc] 31)) rfl (by simp [Value.oneCell']) 1)
        clear hnm HF HF2
        go_wp2_with (at_builtin; refine wpList_append_srcN (by rfl) _ _ 22 (by rfl) w.heap.size 31 i0 z0' 2 40 Try.underlying22 HI.out HI0.out HI1.out HI2.out HI3.out (by omega) (.slice qa l qc) l (svC L) (by rfl) HA.out (.slice (some ⟨wr.heap.size, 0, none⟩) 1 1) 1 [.string sv.sr.name, .slice sa sn sc] (by rfl) HSRC.out (by unfold maxLen; omega) (by omega) (by exact HBA.out.size) ?_; intro v8 w8 hr8 hg8 hat8; obtain ⟨a8, c8, rfl⟩ := row_form hr8; have HR8 := Lib.hid hr8; have HG8 := Lib.hid hg8; clear hr8 hg8 hat8)
        go_roundw
        case rel =>
          refine ⟨k + 1, by omega, by go_num, ?_, HBA.out.grown HG8.out HBA.out.size (fun z hz => (HA.out.lt z hz).1)⟩
          have := HR8.out
          rw [show (fun k => rAll (E.take k) nm) (k + 1) = L ++ [sv] from HF1.out, List.length_append, HLL.out, svC_snoc, HSL.out]
          exact this
        case measure => simp [intOf]; omega
      | false =>
        have hnm : sv.sr.name ≠ nm := fun e => by rw [e] at he; simp at he
        have HF1 := Lib.hid (HF2.out hnm)
        clear hnm HF HF2
        go_wp2_with fail
        go_roundw
        case rel =>
          refine ⟨k + 1, by omega, by go_num, ?_, HB.out⟩
          rw [show (fun k => rAll (E.take k) nm) (k + 1) = L from HF1.out, HLL.out]
          exact HQ.out
        case measure => simp [intOf]; omega
    · have hke : k = n := by omega
      subst hke
      have hall : rAll (E.take k) nm = rAll E nm := by rw [← HE.out, List.take_length]
      obtain ⟨qa, qc, rfl⟩ := row_form hq
      have HQ := Lib.hid hq
      have HB := Lib.hid hb
      have HALL := Lib.hid hall
      clear hq hb hall hlt
      go_wp2_with fail
      go_ret
      refine ⟨_, rfl, ?_, HB.out⟩
      rw [← HALL.out]
      exact HQ.out
theorem rAll_ser {w : World} {T : Nat → Prop} {x : Nat} {E : List (BA × SV)} {K : List (BA × BA × Int)} (h : RefAt w T x E K) {nm : BA} {s : SV} (hs : s ∈ rAll E nm) : SerO 0 w s ∧ s.sr.name = nm := by
  unfold rAll at hs
  obtain ⟨p, hp, rfl⟩ := List.mem_map.1 hs
  obtain ⟨h1, h2⟩ := List.mem_filter.1 hp
  rw [decide_eq_true_eq] at h2
  exact ⟨(h.ser p h1).1, h2⟩
def rWith (L : List SV) (key val : BA) : List SV := L.filter fun s => decide ((s.sr.tg key).1 = val)
theorem rWith_yes {L : List SV} {key val : BA} {k : Nat} {s : SV} (h : L[k]? = some s) (hn : (s.sr.tg key).1 = val) : rWith (L.take (k + 1)) key val = rWith (L.take k) key val ++ [s] := by
  obtain ⟨hk, he⟩ := List.getElem?_eq_some_iff.1 h
  unfold rWith
  rw [List.take_succ_eq_append_getElem hk, he, List.filter_append]
  simp [hn]
theorem rWith_no {L : List SV} {key val : BA} {k : Nat} {s : SV} (h : L[k]? = some s) (hn : (s.sr.tg key).1 ≠ val) : rWith (L.take (k + 1)) key val = rWith (L.take k) key val := by
  obtain ⟨hk, he⟩ := List.getElem?_eq_some_iff.1 h
  unfold rWith
  rw [List.take_succ_eq_append_getElem hk, he, List.filter_append]
  simp [hn]
set_option maxRecDepth 100000 in
set_option maxHeartbeats 1000000 in
theorem with46 {w : World} {T : Nat → Prop} {x : Nat} {E : List (BA × SV)} {K : List (BA × BA × Int)} (h : RefAt w T x E K) (nm key val : BA) (hn : E.length ≤ 2000000000000) : Calls Try.prog 46 #[.pointer (some ⟨x, 0, none⟩), .string nm, .string key, .string val] w (RowPost w (rWith (rAll E nm) key val)) := by
  have HA := Lib.hid (all43 h nm hn)
  have hln := rAll_len E nm
  have HSER := Lib.hid (fun s hs => (rAll_ser h hs).1 : ∀ s ∈ rAll E nm, SerO 0 w s)
  obtain ⟨L, hL⟩ : ∃ L, rAll E nm = L := ⟨_, rfl⟩
  rw [hL] at HA hln HSER ⊢
  obtain ⟨i0, z0', hi0, hz0, hz1, hz2, hz3⟩ := zparts31
  have HI := Lib.hid hi0
  have HI0 := Lib.hid hz0
  have HI1 := Lib.hid hz1
  have HI2 := Lib.hid hz2
  have HI3 := Lib.hid hz3
  obtain ⟨n, hLn⟩ : ∃ n, L.length = n := ⟨_, rfl⟩
  rw [hLn] at hln
  have HLN := Lib.hid hLn
  have hn2 : n ≤ 2000000000000 := Nat.le_trans hln hn
  clear h hi0 hz0 hz1 hz2 hz3 hL hLn hln hn
  go_enter Try.func46, Try.ntmps46
  go_wp2_with fail
  refine HA.out.mono ?_
  rintro e w1 ⟨v, rfl, hrow, hb1⟩
  rw [HLN.out] at hrow
  obtain ⟨a, c, rfl⟩ := row_form hrow
  have HROW := Lib.hid hrow
  have HB1 := Lib.hid hb1
  clear hrow hb1 HA
  go_wp2_with fail
  go_loopw [9, 19] (fun q i wr => InAll w1 (fun k => rWith (L.take k) key val) n q i wr) (fun _ i _ => n - (intOf i).toNat)
  case atStart => exact ⟨0, Nat.zero_le _, rfl, World.ownsRow_nil _ _ _ _, Below.refl _ _⟩
  case round =>
    obtain ⟨k, hkn, rfl, hq, hb⟩ := hrel
    change wr.ownsRow _ _ _ _ (rWith (L.take k) key val).length (svC (rWith (L.take k) key val)) at hq
    by_cases hlt : k < n
    · obtain ⟨s, hs⟩ : ∃ s, L[k]? = some s := ⟨_, List.getElem?_eq_getElem (by rw [HLN.out]; exact hlt)⟩
      have hsr := ((HSER.out s (List.mem_of_getElem? hs)).later (HB1.out.trans (hb.mono HB1.out.size))).sr
      obtain ⟨g, rfl, q0, q1⟩ := sv_cell (row_later HROW.out hb) HLN.out hs
      obtain ⟨qa, qc, rfl⟩ := row_form hq
      have hl : (rWith (L.take k) key val).length ≤ k := by
        have : (rWith (L.take k) key val).length ≤ (L.take k).length := List.length_filter_le ..
        rw [List.length_take] at this
        omega
      have HF := Lib.hid (show (s.sr.tg key).1 = val → rWith (L.take (k + 1)) key val = rWith (L.take k) key val ++ [s] from rWith_yes hs)
      have HF2 := Lib.hid (show (s.sr.tg key).1 ≠ val → rWith (L.take (k + 1)) key val = rWith (L.take k) key val from rWith_no hs)
      obtain ⟨R, hR⟩ : ∃ R, rWith (L.take k) key val = R := ⟨_, rfl⟩
      rw [hR] at hq hl HF HF2
      obtain ⟨l, hll⟩ : ∃ l, R.length = l := ⟨_, rfl⟩
      rw [hll] at hq hl
      have HR := Lib.hid hR
      have HLL := Lib.hid hll
      have HQ := Lib.hid hq
      have HB := Lib.hid hb
      rw [hR, hll]
      have htg := tag13 hsr key
      have hval : s.val = .agg #[.string s.sr.name, s.sl] := rfl
      rw [hval] at htg
      obtain ⟨tv, tb, htb⟩ : ∃ tv tb, s.sr.tg key = (tv, tb) := ⟨_, _, rfl⟩
      rw [htb] at htg HF HF2
      simp only at htg HF HF2
      obtain ⟨sa, sn, sc, hsl⟩ : ∃ a n c, s.sl = .slice a n c := ⟨_, _, _, rfl⟩
      rw [hsl] at q1 htg
      have HSL := Lib.hid hsl
      have HTG := Lib.hid htg
      have HQ0 := Lib.hid q0
      have HQ1 := Lib.hid q1
      clear hq hb hs hR hll hsl htg hval htb hsr
      go_wp2_with fail
      refine HTG.out.mono ?_
      rintro e w4 ⟨rfl, hb4⟩
      clear q0 q1
      have q0 := (hb4.cell (cell_lt HQ0.out)).trans HQ0.out
      have q1 := (hb4.cell (cell_lt HQ1.out)).trans HQ1.out
      have HQ4 := Lib.hid (row_later HQ.out hb4)
      have HB4 := Lib.hid (HB.out.trans (hb4.mono HB.out.size))
      clear hb4
      cases he : (tv.toList == val.toList) with
      | true =>
        have hnm : tv = val := by rw [beq_iff_eq, ByteArray.toList_eq, ByteArray.toList_eq] at he; exact ba_eq he
        have HF1 := Lib.hid (HF.out hnm)
        have HA := Lib.hid (HQ4.out.alloc (.cells #[.string s.sr.name, .slice sa sn sc] 31))
        have HBA := Lib.hid (HB4.out.alloc HB4.out.size (.cells #[.string s.sr.name, .slice sa sn sc] 31))
        have HSRC := Lib.hid (SrcN.of_block (size := 2) (m := 1) (heap_alloc_new w4 (.cells #[.string s.sr.name, .slice sa sn sc] 31)) rfl (by simp [Value.oneCell']) 1)
        clear hnm HF HF2
        go_wp2_with (at_builtin; refine wpList_append_srcN (by rfl) _ _ 22 (by rfl) w1.heap.size 31 i0 z0' 2 40 Try.underlying22 HI.out HI0.out HI1.out HI2.out HI3.out (by omega) (.slice qa l qc) l (svC R) (by rfl) HA.out (.slice (some ⟨w4.heap.size, 0, none⟩) 1 1) 1 [.string s.sr.name, .slice sa sn sc] (by rfl) HSRC.out (by unfold maxLen; omega) (by omega) (by exact HBA.out.size) ?_; intro v8 w8 hr8 hg8 hat8; obtain ⟨a8, c8, rfl⟩ := row_form hr8; have HR8 := Lib.hid hr8; have HG8 := Lib.hid hg8; clear hr8 hg8 hat8)
        go_roundw
        case rel =>
          refine ⟨k + 1, by omega, by go_num, ?_, HBA.out.grown HG8.out HBA.out.size (fun z hz => (HA.out.lt z hz).1)⟩
          have := HR8.out
          rw [show (fun k => rWith (L.take k) key val) (k + 1) = R ++ [s] from HF1.out, List.length_append, HLL.out, svC_snoc, HSL.out]
          exact this
        case measure => simp [intOf]; omega
      | false =>
        have hnm : tv ≠ val := fun e => by rw [e] at he; simp at he
        have HF1 := Lib.hid (HF2.out hnm)
        clear hnm HF HF2
        go_wp2_with fail
        go_roundw
        case rel =>
          refine ⟨k + 1, by omega, by go_num, ?_, HB4.out⟩
          rw [show (fun k => rWith (L.take k) key val) (k + 1) = R from HF1.out, HLL.out]
          exact HQ4.out
        case measure => simp [intOf]; omega
    · have hke : k = n := by omega
      subst hke
      have hall : rWith (L.take k) key val = rWith L key val := by rw [← HLN.out, List.take_length]
      obtain ⟨qa, qc, rfl⟩ := row_form hq
      have HQ := Lib.hid hq
      have HB := Lib.hid hb
      have HALL := Lib.hid hall
      clear hq hb hall hlt
      go_wp2_with fail
      go_ret
      refine ⟨_, rfl, ?_, HB1.out.trans (HB.out.mono HB1.out.size)⟩
      rw [← HALL.out]
      exact row_lower HQ.out HB1.out.size
end Go.Proofs.Ytobcpafalfdpkaa
