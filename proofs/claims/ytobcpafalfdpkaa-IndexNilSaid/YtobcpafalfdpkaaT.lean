/- The series of texts. Condition: the bounds. -/
import Derived.Test.YtobcpafalfdpkaaS
namespace Go.Proofs.Ytobcpafalfdpkaa
open Go.RowKit Go.WideMaps Go.Sort
def svV (s : SV) : List Value := [.string s.sr.name, s.sl]
def svC (L : List SV) : List Value := L.flatMap svV
def SersPost (w : World) (S : List Sr) (e : Ending) (w' : World) : Prop :=
  ∃ (v : Value) (L : List SV), e = .returned v ∧ L.map (·.sr) = S ∧ w'.ownsRow w.heap.size 31 2 v L.length (svC L) ∧ (∀ s ∈ L, SerO w.heap.size w' s) ∧ Below w.heap.size w w'
/-- Texts and their series. -/
def Both (μ : Me) (T : List BA) (S : List Sr) : Prop := S.length = T.length ∧ ∀ (i : Nat) (t : BA) (s : Sr), T[i]? = some t → S[i]? = some s → ∃ sv, get μ.ss t = some sv ∧ sv.sr = s
def InSome (w : World) (S : List Sr) (n : Nat) (q i : Value) (wr : World) : Prop :=
  ∃ (k : Nat) (L : List SV), k ≤ n ∧ i = .int .i64 k ∧ L.map (·.sr) = S.take k ∧ L.length = k ∧ wr.ownsRow w.heap.size 31 2 q k (svC L) ∧ (∀ s ∈ L, SerO w.heap.size wr s) ∧ Below w.heap.size w wr
theorem str_cell {w : World} {base n c : Nat} {a : Option Addr} {T : List BA} (h : w.ownsRow base 9 1 (.slice a n c) n (T.map Value.string)) (hl : T.length = n) {k : Nat} {t : BA} (ht : T[k]? = some t) : ∃ g, a = some ⟨g, 0, none⟩ ∧ w.cell? ⟨g, k, none⟩ = some (.string t) := by
  obtain ⟨hk, _⟩ := List.getElem?_eq_some_iff.1 ht
  have hc := h
  rcases h.2 with ⟨_, h0⟩ | ⟨g, c', cur, hv, _⟩
  · omega
  · injection hv with e1 e2 e3
    subst e1
    refine ⟨g, rfl, ?_⟩
    rw [hc.cellAt k (by omega), List.getElem?_map, ht]; rfl
theorem look68 {w : World} {a : Option Nat} {L : List (BA × SV)} (h : MapO w serK a L) (s : BA) (hs : s.size ≤ maxLen) : (Instr.lookup 68 (.map a) (.string s) false).run Try.prog w = .ok (getV serK L s sv0.val) w :=
  h.look Try.underlying68 (zero31 w) (zd := sv0.d) (serE_of sv0) (fun _ _ => serE_inv) s hs
set_option maxRecDepth 100000 in
set_option maxHeartbeats 1000000 in
theorem some33 {w : World} {g base n : Nat} {a b c : Option Nat} {μ : Me} (h : View w g a b c μ) {v : Value} {T : List BA} {S : List Sr} (hv : w.ownsRow base 9 1 v n (T.map Value.string)) (hT : T.length = n) (hB : Both μ T S) (hn : n ≤ 3518437208780) :
    Calls Try.prog 33 #[.pointer (some ⟨g, 0, none⟩), v] w (SersPost w S) := by
  obtain ⟨va, vc, rfl⟩ := row_form hv
  obtain ⟨i0, z0', hi0, hz0, hz1, hz2, hz3⟩ := zparts31
  have HI := Lib.hid hi0
  have HI0 := Lib.hid hz0
  have HI1 := Lib.hid hz1
  have HI2 := Lib.hid hz2
  have HI3 := Lib.hid hz3
  have HV := Lib.hid hv
  have HT := Lib.hid hT
  have HB := Lib.hid hB
  have HH := Lib.hid h
  clear hi0 hz0 hz1 hz2 hz3 hv hT hB h
  go_enter Try.func33, Try.ntmps33
  go_wp2_with fail
  go_loopw [5, 10] (fun q i wr => InSome w S n q i wr) (fun _ i _ => n - (intOf i).toNat)
  case atStart => exact ⟨0, [], Nat.zero_le _, rfl, rfl, rfl, World.ownsRow_nil _ _ _ _, (fun _ h => nomatch h), Below.refl _ _⟩
  case round =>
    obtain ⟨k, L, hkn, rfl, hmap, hlen, hrow, hser, hb⟩ := hrel
    obtain ⟨qa, qc, rfl⟩ := row_form hrow
    have HMAP := Lib.hid hmap
    have HLEN := Lib.hid hlen
    have HROW := Lib.hid hrow
    have HSER := Lib.hid hser
    have HBW := Lib.hid hb
    clear hmap hlen hrow hser hb
    by_cases hlt : k < n
    · obtain ⟨t, ht⟩ : ∃ t, T[k]? = some t := ⟨_, List.getElem?_eq_getElem (by rw [HT.out]; exact hlt)⟩
      obtain ⟨s, hs⟩ : ∃ s, S[k]? = some s := ⟨_, List.getElem?_eq_getElem (by rw [HB.out.1, HT.out]; exact hlt)⟩
      obtain ⟨sv, hsv, rfl⟩ := HB.out.2 k t s ht hs
      have hview := HH.out.later HBW.out
      obtain ⟨tg, rfl, q0⟩ := str_cell (row_later HV.out HBW.out) HT.out ht
      have hblk := hview.blk
      have c0 : wr.cell? ⟨g, 0, none⟩ = some (.map a) := by simp [World.cell?, hblk]
      have hl := look68 hview.ser t (hview.ser.sizes (t, sv) (get_some hsv))
      have hl2 : getV serK μ.ss t sv0.val = sv.val := by unfold getV; rw [hsv]; rfl
      rw [hl2] at hl
      have hrw : SerAt wr sv := hview.rows (t, sv) (get_some hsv)
      have HCL := Lib.hid (clone30 hrw.sr (by have := hrw.few; omega))
      have HS := Lib.hid hs
      unfold SV.val at hl HCL
      obtain ⟨n8, hn8⟩ : ∃ n8, sv.sr.tags.length = n8 := ⟨_, rfl⟩
      rw [hn8] at hl HCL
      clear ht hs hsv hview hblk hl2 hrw hn8
      go_wp2_with fail
      clear q0 c0 hl
      refine HCL.out.mono ?_
      intro e w2 hp
      unfold ClonePost at hp
      obtain ⟨s2, he, hsr, hso, hb2⟩ := hp
      subst he
      have hb3 := (Below.refl w2.heap.size w2).alloc (Nat.le_refl _) (.cells #[.string s2.sr.name, s2.sl] 31)
      have hb23 := hb2.trans (hb3.mono hb2.size)
      have HROW3 := Lib.hid (row_later HROW.out hb23)
      have HSER3 := Lib.hid (fun y hy => (HSER.out y hy).later hb23)
      have HSO := Lib.hid (show SerO w.heap.size (w2.alloc (.cells #[.string s2.sr.name, s2.sl] 31)) s2 from ⟨row_lower (hso.later hb3).row HBW.out.size, hso.name, hso.sizes⟩)
      have HSRC := Lib.hid (SrcN.of_block (size := 2) (m := 1) (heap_alloc_new w2 (.cells #[.string s2.sr.name, s2.sl] 31)) rfl (by unfold SV.sl; simp [Value.oneCell']) 1)
      have HB3 := Lib.hid (HBW.out.trans (hb23.mono HBW.out.size))
      have HSR := Lib.hid hsr
      clear hsr hso hb2 hb3 hb23
      obtain ⟨a2, n2, c2, hsl⟩ : ∃ a2 n2 c2, s2.sl = .slice a2 n2 c2 := ⟨_, _, _, rfl⟩
      have hval : s2.val = .agg #[.string s2.sr.name, s2.sl] := rfl
      rw [hval, hsl]
      rw [hsl] at HROW3 HSER3 HSO HSRC HB3
      have HSL := Lib.hid hsl
      clear hval hsl
      go_wp2_with (at_builtin; refine wpList_append_srcN (by rfl) _ _ 22 (by rfl) w.heap.size 31 i0 z0' 2 40 Try.underlying22 HI.out HI0.out HI1.out HI2.out HI3.out (by omega) (.slice qa k qc) k (svC L) (by rfl) HROW3.out (.slice (some ⟨w2.heap.size, 0, none⟩) 1 1) 1 [.string s2.sr.name, .slice a2 n2 c2] (by rfl) HSRC.out (by unfold maxLen; omega) (by omega) (by exact HB3.out.size) ?_; intro v8 w8 hr8 hg8 hat8; obtain ⟨a8, c8, rfl⟩ := row_form hr8; have HR8 := Lib.hid hr8; have HG8 := Lib.hid hg8; clear hr8 hg8 hat8)
      go_roundw
      case rel =>
        have hap : ∀ y, SerO w.heap.size (w2.alloc (.cells #[.string s2.sr.name, .slice a2 n2 c2] 31)) y → SerO w.heap.size w8 y := fun y hy => ⟨ownsRow_same hy.row fun z hz => HG8.out.block z (hy.row.lt z hz).2 fun e => types_apart hy.row HROW3.out (by decide) hz e.symm, hy.name, hy.sizes⟩
        refine ⟨k + 1, L ++ [s2], by omega, by go_num, ?_, by rw [List.length_append, HLEN.out]; rfl, ?_, fun y hy => ?_, HB3.out.grown HG8.out HB3.out.size (fun z hz => (HROW3.out.lt z hz).1)⟩
        · obtain ⟨hk, he⟩ := List.getElem?_eq_some_iff.1 HS.out
          rw [List.map_append, HMAP.out, List.take_succ_eq_append_getElem hk, he]
          simp [HSR.out]
        · have := HR8.out
          unfold svC at this ⊢
          rw [List.flatMap_append]
          simpa [svV, HSL.out] using this
        · rcases List.mem_append.1 hy with hy | hy
          · exact hap y (HSER3.out y hy)
          · rw [List.mem_singleton.1 hy]; exact hap s2 HSO.out
      case measure => simp [intOf]; omega
    · have hk : k = n := by omega
      have HK := Lib.hid hk
      clear hk
      go_wp2_with fail
      go_ret
      have h1 := HMAP.out
      rw [List.take_of_length_le (by rw [HB.out.1, HT.out, HK.out]; exact Nat.le_refl _)] at h1
      exact ⟨_, L, rfl, h1, by rw [HLEN.out]; exact HROW.out, HSER.out, HBW.out⟩
end Go.Proofs.Ytobcpafalfdpkaa
