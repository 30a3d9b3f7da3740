/- The document's index: Add. Condition: the bounds. -/
import Derived.Test.YtobcpafalfdpkaaBG
import Derived.Test.YtobcpafalfdpkaaAG
import Derived.Deep.Cut
import Derived.Deep.RegionLaw
import Derived.WalkSpells
import Derived.Laws.NewBlocks
namespace Go.Proofs.Ytobcpafalfdpkaa
open Go.RowKit Go.WideMaps Go.Sort
theorem zinfo89 : (Try.prog.info? 89).map (fun i => (i.size, i.bytes, i.zero.map (·.cells.size))) = some (3, 56, some 3) := by kernel_rfl
theorem zparts89 : ∃ i z, Try.prog.info? 89 = some i ∧ i.zero = some z ∧ i.size = 3 ∧ i.bytes = 56 ∧ z.cells.size = 3 := by
  have e1 := zinfo89
  cases h : Try.prog.info? 89 with
  | none => rw [h] at e1; cases e1
  | some i =>
    rw [h] at e1
    simp only [Option.map_some, Option.some.injEq, Prod.mk.injEq] at e1
    obtain ⟨h1, h2, h3⟩ := e1
    cases hz : i.zero with
    | none => rw [hz] at h3; cases h3
    | some z =>
      rw [hz] at h3
      exact ⟨i, z, rfl, hz, h1, h2, by simpa using h3⟩
def RAddPost (w : World) (T : Nat → Prop) (x : Nat) (E : List (BA × SV)) (K : List (BA × BA × Int)) (s : Sr) (e : Ending) (w' : World) : Prop :=
  (s.ok = false ∧ e = .returned (.tuple #[.bool false, .int .i64 1]) ∧ RefStep w T x E K w') ∨
  (s.ok = true ∧ (∃ p ∈ E, p.1 = s.txt) ∧ e = .returned (.tuple #[.bool false, .int .i64 0]) ∧ RefStep w T x E K w') ∨
  (s.ok = true ∧ ∃ (k : Nat) (sv : SV), PlaceS (E.map (·.1)) s.txt k ∧ (∀ p, E[k]? = some p → p.1 ≠ s.txt) ∧ sv.sr = s ∧ e = .returned (.tuple #[.bool true, .int .i64 0]) ∧ RefStep w T x (E.take k ++ (s.txt, sv) :: E.drop k) K w')
theorem enC_app (A B : List (BA × SV)) : enC (A ++ B) = enC A ++ enC B := by unfold enC; rw [List.flatMap_append]
theorem enC_len (E : List (BA × SV)) : (enC E).length = E.length * 3 := flat_len enV 3 (fun _ => rfl) E
theorem enC_take (E : List (BA × SV)) (k : Nat) : (enC E).take (k * 3) = enC (E.take k) := by
  rcases Nat.le_total k E.length with h | h
  · conv => lhs; rw [← List.take_append_drop k E, enC_app]
    rw [List.take_left' (by rw [enC_len, List.length_take, Nat.min_eq_left h])]
  · rw [List.take_of_length_le h, List.take_of_length_le (by rw [enC_len]; exact Nat.mul_le_mul_right 3 h)]
theorem enC_drop (E : List (BA × SV)) (k : Nat) : (enC E).drop (k * 3) = enC (E.drop k) := by
  rcases Nat.le_total k E.length with h | h
  · conv => lhs; rw [← List.take_append_drop k E, enC_app]
    rw [List.drop_left' (by rw [enC_len, List.length_take, Nat.min_eq_left h])]
  · rw [List.drop_of_length_le h, List.drop_of_length_le (by rw [enC_len]; exact Nat.mul_le_mul_right 3 h)]
    rfl
/-- The list's row is written anew. -/
theorem ref_list {w w5 : World} {T : Nat → Prop} {x : Nat} {E E' : List (BA × SV)} {K : List (BA × BA × Int)} (h : RefAt w T x E K) (hb : Below w.heap.size w w5) {a5 : Option Addr} {m c5 : Nat} (hm : E'.length = m)
    (hrow : w5.ownsRow w.heap.size 89 3 (.slice a5 m c5) m (enC E')) (hser : ∀ p ∈ E', SerO 0 w5 p.2 ∧ ∀ g, p.2.sl.ownBlock = some g → T g ∨ w.heap.size ≤ g) :
    RefStep w T x E' K (w5.setCell ⟨x, 0, none⟩ (.slice a5 m c5)) := by
  subst hm
  obtain ⟨lv, kv, hx, hl, hk, hlT, hkT⟩ := h.blk
  have hxl := heap_lt hx
  have hx5 := (hb.block x hxl).trans hx
  have hset := heap_setCell_same w5 x 0 _ _ (.slice a5 E'.length c5) hx5
  have ho := onlyD_set w5 x 0 (.slice a5 E'.length c5)
  obtain ⟨w6, hw6⟩ : ∃ w6, w5.setCell ⟨x, 0, none⟩ (.slice a5 E'.length c5) = w6 := ⟨_, rfl⟩
  rw [hw6] at hset ho ⊢
  refine ⟨(Turns.of_below hb).trans (ho.turns (S := T) h.here) (fun _ hx => .inl hx), ⟨⟨.slice a5 E'.length c5, kv, hset, ?_, ?_, fun g hg => .inr ⟨(hrow.lt g hg).1, by rw [ho.sized]; exact (hrow.lt g hg).2⟩, fun g hg => .inl (hkT g hg)⟩, fun p hp => ?_, .inl h.here⟩⟩
  · exact row_lower (ownsRow_same hrow fun g hg => ho.2.2.2.2 g (row_not hrow hx5 (by decide) hg)) (Nat.zero_le _)
  · have h1 := row_later hk hb
    exact ownsRow_same h1 fun g hg => ho.2.2.2.2 g (row_not h1 hx5 (by decide) hg)
  · obtain ⟨h1, h2⟩ := hser p hp
    exact ⟨⟨ownsRow_same h1.row fun g hg => ho.2.2.2.2 g (row_not h1.row hx5 (by decide) hg), h1.name, h1.sizes⟩, fun g hg => (h2 g hg).elim .inl fun h3 => .inr ⟨h3, by rw [ho.sized]; exact (h1.row.lt g hg).2⟩⟩
theorem RefAt.serE {w : World} {T : Nat → Prop} {x : Nat} {E : List (BA × SV)} {K : List (BA × BA × Int)} (h : RefAt w T x E K) {w5 : World} (hb : Below w.heap.size w w5) {p : BA × SV} (hp : p ∈ E) : SerO 0 w5 p.2 ∧ ∀ g, p.2.sl.ownBlock = some g → T g ∨ w.heap.size ≤ g :=
  ⟨(h.ser p hp).1.later hb, fun g hg => .inl ((h.ser p hp).2 g hg)⟩
theorem place_at {E : List (BA × SV)} {t : BA} {k : Nat} (h : PlaceS (E.map (·.1)) t k) : k ≤ E.length := by
  have := h.1
  rwa [List.length_map] at this
/-- The box of a series whose tags are laid anew. -/
theorem box_tags {w w2 w4 : World} (hb : Below w.heap.size w w2) {xb : Nat} {nm : Value} {a4 : Option Addr} {n c4 : Nat} {sl : Value} {xs : List Value} (hw : w.heap.size ≤ xb) (hx : w2.heap[xb]? = some (.cells #[nm, sl] 31 (0, 0))) (hr4 : w4.ownsRow w2.heap.size 51 2 (.slice a4 n c4) n xs) (hb4 : Below w2.heap.size w2 w4) :
    Below w.heap.size w (w4.setCell ⟨xb, 1, none⟩ (.slice a4 n c4)) ∧ (w4.setCell ⟨xb, 1, none⟩ (.slice a4 n c4)).heap[xb]? = some (.cells #[nm, .slice a4 n c4] 31 (0, 0)) ∧ (w4.setCell ⟨xb, 1, none⟩ (.slice a4 n c4)).ownsRow w2.heap.size 51 2 (.slice a4 n c4) n xs := by
  have hxl := heap_lt hx
  have ho := onlyD_set w4 xb 1 (.slice a4 n c4)
  have h4 := (hb4.block xb hxl).trans hx
  have hset := heap_setCell_same w4 xb 1 _ _ (.slice a4 n c4) h4
  obtain ⟨w5, hw5⟩ : ∃ w5, w4.setCell ⟨xb, 1, none⟩ (.slice a4 n c4) = w5 := ⟨_, rfl⟩
  rw [hw5] at ho hset ⊢
  refine ⟨(hb.trans (hb4.mono hb.size)).trans ⟨ho.1, ho.2.1, ho.2.2.1, by rw [ho.sized]; exact Nat.le_refl _, fun k hk => ho.2.2.2.2 k (by omega)⟩, hset, ownsRow_same hr4 fun g hg => ho.2.2.2.2 g ?_⟩
  have := (hr4.lt g hg).1
  omega
theorem radd_end {w w2 w5 w9 : World} {T : Nat → Prop} {x : Nat} {E : List (BA × SV)} {K : List (BA × BA × Int)} {s : Sr} {t : BA} {k n nt m c4 c9 : Nat} {a4 a9 : Option Addr} (h : RefAt w T x E K) (hok : s.ok = true) (ht : s.txt = t) (hEn : E.length = n) (hk : k ≤ n) (hpl : PlaceS (E.map (·.1)) t k) (hno : ∀ p, E[k]? = some p → p.1 ≠ s.txt) (hnt : s.tags.length = nt)
    (hb2 : Below w.heap.size w w2) (hb5 : Below w.heap.size w w5) (hb9 : Below w5.heap.size w5 w9) (hr5 : w5.ownsRow w2.heap.size 51 2 (.slice a4 nt c4) nt (tgC s.tags)) (hnm : s.name.size ≤ maxLen) (hsz : ∀ p ∈ s.tags, p.1.size ≤ maxLen ∧ p.2.size ≤ maxLen)
    (hm : m = k + 1 + (n - k)) (hr9 : w9.ownsRow w5.heap.size 89 3 (.slice a9 m c9) m (enC (E.take k) ++ [.string t, .string s.name, .slice a4 nt c4] ++ enC (E.drop k))) :
    RAddPost w T x E K s (.returned (.tuple #[.bool true, .int .i64 0])) (w9.setCell ⟨x, 0, none⟩ (.slice a9 m c9)) := by
  subst hnt
  obtain ⟨sv, hsr, hsl, hso⟩ := serO_of hr5 hnm hsz
  have hE : enC (E.take k) ++ [.string t, .string s.name, .slice a4 s.tags.length c4] ++ enC (E.drop k) = enC (E.take k ++ (t, sv) :: E.drop k) := by
    rw [enC_app, hsl, ← hsr, show (t, sv) :: E.drop k = [(t, sv)] ++ E.drop k from rfl, enC_app]
    simp [enC, enV]
  rw [hE] at hr9
  have hlen : (E.take k ++ (t, sv) :: E.drop k).length = m := by
    rw [List.length_append, List.length_cons, List.length_take, List.length_drop, hEn, hm]; omega
  rw [← ht] at hpl hlen hr9
  refine .inr (.inr ⟨hok, k, sv, hpl, hno, hsr, rfl, ?_⟩)
  have hb := hb5.trans (hb9.mono hb5.size)
  refine ref_list h hb hlen (row_lower hr9 hb5.size) fun p hp => ?_
  have hnew : SerO 0 w9 sv ∧ ∀ g, sv.sl.ownBlock = some g → T g ∨ w.heap.size ≤ g := ⟨⟨row_lower (hso.later hb9).row (Nat.zero_le _), hso.name, hso.sizes⟩, fun g hg => .inr (Nat.le_trans hb2.size (hso.row.lt g hg).1)⟩
  rcases List.mem_append.1 hp with hp | hp
  · exact h.serE hb (List.mem_of_mem_take hp)
  · rcases List.mem_cons.1 hp with rfl | hp
    · exact hnew
    · exact h.serE hb (List.mem_of_mem_drop hp)
set_option maxRecDepth 100000 in
set_option maxHeartbeats 4000000 in
theorem radd16 {w : World} {T : Nat → Prop} {x : Nat} {E : List (BA × SV)} {K : List (BA × BA × Int)} (h : RefAt w T x E K) {v : Value} {s : Sr} (hv : SrIn w v s) (hn : E.length ≤ 1000000000000) : Calls Try.prog 16 #[.pointer (some ⟨x, 0, none⟩), v] w (RAddPost w T x E K s) := by
  have HV := Lib.hid hv
  obtain ⟨a, c, rfl, hac, hn63, htg, hnm, hsz⟩ := hv
  have hb1 := (Below.refl w.heap.size w).alloc (Nat.le_refl _) (.cells #[.string s.name, .slice a s.tags.length c] 31)
  have hx1 := heap_alloc_new w (.cells #[.string s.name, .slice a s.tags.length c] 31)
  obtain ⟨w1, hw1⟩ : ∃ w1, w.alloc (.cells #[.string s.name, .slice a s.tags.length c] 31) = w1 := ⟨_, rfl⟩
  rw [hw1] at hb1 hx1
  obtain ⟨xb, hxb⟩ : ∃ xb, w.heap.size = xb := ⟨_, rfl⟩
  rw [hxb] at hx1
  have x0 : w1.cell? ⟨xb, 0, none⟩ = some (.string s.name) := by simp [World.cell?, hx1]
  have x1 : w1.cell? ⟨xb, 1, none⟩ = some (.slice a s.tags.length c) := by simp [World.cell?, hx1]
  have HT := Lib.hid (text39 (HV.out.later hb1))
  have HB1 := Lib.hid hb1
  have HX1 := Lib.hid hx1
  have HH := Lib.hid h
  have HXB := Lib.hid hxb
  have HNM := Lib.hid hnm
  have HSZ := Lib.hid hsz
  have HNE := Lib.hid hn
  obtain ⟨nt, hnt⟩ : ∃ nt, s.tags.length = nt := ⟨_, rfl⟩
  rw [hnt] at x1 HX1 HT HV hw1
  have HNT := Lib.hid hnt
  clear h hac hn63 htg hnm hsz hb1 hx1 hn
  cases hok : s.ok with
  | false =>
    have HOK := Lib.hid hok
    rw [no_tx hok] at HT
    clear hok
    simp only [hnt]
    clear hnt
    go_enter Try.func16, Try.ntmps16
    go_wp2_with fail
    clear hw1 hxb x0 x1
    refine HT.out.mono ?_
    rintro e w2 ⟨rfl, hb2⟩
    have HB2 := Lib.hid (HB1.out.trans (hb2.mono HB1.out.size))
    clear hb2
    go_wp2_with fail
    go_ret2
    exact .inl ⟨HOK.out, rfl, refStep_later HH.out HB2.out⟩
  | true =>
    have HOK := Lib.hid hok
    rw [ok_tx hok] at HT
    have hn8 : nt ≤ 8 := by
      unfold Sr.ok formedB at hok
      simp only [Bool.and_eq_true, decide_eq_true_eq] at hok
      rw [← hnt]; exact hok.2.2
    clear hok
    obtain ⟨t, htt⟩ : ∃ t, s.txt = t := ⟨_, rfl⟩
    have HTX := Lib.hid htt
    rw [htt] at HT
    simp only [hnt]
    clear hnt htt
    go_enter Try.func16, Try.ntmps16
    go_wp2_with fail
    clear hw1 hxb x0 x1
    refine HT.out.mono ?_
    rintro e w2 ⟨rfl, hb2⟩
    have HB2 := Lib.hid (HB1.out.trans (hb2.mono HB1.out.size))
    have HX2 := Lib.hid ((hb2.block xb (heap_lt HX1.out)).trans HX1.out)
    have HAT := Lib.hid (at40 (HH.out.later HB2.out) t (by have := HNE.out; omega))
    clear hb2
    go_wp2_with fail
    refine HAT.out.mono ?_
    rintro e w3 ⟨k, rfl, hpl, rfl⟩
    have HPL := Lib.hid hpl
    have hkl := place_at hpl
    obtain ⟨la, n, lc, ka, kn, kc, hx0, hEn, hKn, hrl0, hrk⟩ := HH.out.open
    have hx := (HB2.out.block x (heap_lt hx0)).trans hx0
    have hrl := row_later hrl0 HB2.out
    have HX := Lib.hid hx0
    have HEN := Lib.hid hEn
    have HRW := Lib.hid hrl0
    have HRL := Lib.hid hrl
    have hnb := HNE.out
    rw [hEn] at hkl hnb
    have c0 : w2.cell? ⟨x, 0, none⟩ = some (.slice la n lc) := by simp [World.cell?, hx]
    have hcase : (∃ p : BA × SV, E[k]? = some p ∧ k < n ∧ (p.1.toList == t.toList) = true) ∨ (∃ p : BA × SV, E[k]? = some p ∧ k < n ∧ (p.1.toList == t.toList) = false) ∨ k = n := by
      by_cases hlt : k < n
      · have hx' := List.getElem?_eq_getElem (l := E) (i := k) (by rw [hEn]; exact hlt)
        cases hq : ((E[k]'(by rw [hEn]; exact hlt)).1.toList == t.toList) with
        | true => exact .inl ⟨_, hx', hlt, hq⟩
        | false => exact .inr (.inl ⟨_, hx', hlt, hq⟩)
      · exact .inr (.inr (by omega))
    clear hpl hx hEn hKn hrl hrk hx0 hrl0
    rcases hcase with ⟨p, hp, hlt, hq⟩ | ⟨p, hp, hlt, hq⟩ | hkn
    · obtain ⟨g, rfl, q0, _⟩ := en_cell HRL.out HEN.out hp
      have HIN := Lib.hid (show ∃ p ∈ E, p.1 = s.txt from ⟨p, List.mem_of_getElem? hp, by rw [HTX.out]; exact str_eq hq⟩)
      have hd : decide ((k : Int) < (n : Int)) = true := by simp; omega
      obtain ⟨pt, ps⟩ := p
      simp only at q0 hq
      clear hp
      go_wp2_with fail
      go_ret2
      exact .inr (.inl ⟨HOK.out, HIN.out, rfl, refStep_later HH.out HB2.out⟩)
    case' inr.inl =>
      obtain ⟨g, hla, q0, _⟩ := en_cell HRL.out HEN.out hp
      rw [hla] at c0
      clear hla
      have HNO := Lib.hid (show ∀ p, E[k]? = some p → p.1 ≠ s.txt from fun p' hp' => by
        rw [hp] at hp'; injection hp' with e; rw [← e, HTX.out]; exact str_ne hq)
      have hd : decide ((k : Int) < (n : Int)) = true := by simp; omega
      obtain ⟨pt, ps⟩ := p
      simp only at q0 hq
      clear hp
      go_upto_region 7 with (fail)
      clear q0 hd hq hlt
    case' inr.inr =>
      have HNO := Lib.hid (show ∀ p, E[k]? = some p → p.1 ≠ s.txt from fun p' hp' => by
        rw [List.getElem?_eq_none (by rw [HEN.out]; omega)] at hp'; cases hp')
      have hd : decide (k < n) = false := by simp; omega
      have hnl : n ≤ k := by omega
      clear hkn
      go_upto_region 7 with (fail)
      clear hd hnl
    all_goals
      obtain ⟨i1, y1, hi1, hy0, hy1, hy2, hy3⟩ := zparts51
      have HJ := Lib.hid hi1
      have HJ0 := Lib.hid hy0
      have HJ1 := Lib.hid hy1
      have HJ2 := Lib.hid hy2
      have HJ3 := Lib.hid hy3
      have HSRC := Lib.hid (show SrcN w2 2 (.slice a nt c) nt (tgC s.tags) by
        obtain ⟨a', c', e, _, hs⟩ := (HV.out.later HB2.out).src
        injection e with e
        simp at e
        obtain ⟨rfl, _, rfl⟩ := e
        rw [HNT.out] at hs
        exact hs)
      have HM := Lib.hid (World.ownsRow_made (w := w2) (base := w2.heap.size) (e := 51) (size := 2) #[] 0 (Nat.le_refl _) (by unfold maxLen; omega) rfl)
      have hba := (Below.refl w2.heap.size w2).alloc (Nat.le_refl _) (.cells #[] 51)
      have HSL := Lib.hid (HSRC.out.later hba)
      have x1 : (w2.alloc (.cells #[] 51)).cell? ⟨xb, 1, none⟩ = some (.slice a nt c) := by
        have := (hba.block xb (heap_lt HX2.out)).trans HX2.out
        simp [World.cell?, this]
      have HBA := Lib.hid hba
      clear hi1 hy0 hy1 hy2 hy3 hba c0
      go_upto_region 8 with (at_builtin; go_must (refine wpList_append_srcN rfl _ _ 29 rfl w2.heap.size 51 i1 y1 2 32 Try.underlying29 HJ.out HJ0.out HJ1.out HJ2.out HJ3.out (by omega) (.slice (some ⟨w2.heap.size, 0, none⟩) 0 0) 0 [] rfl HM.out (.slice a nt c) nt (tgC s.tags) rfl HSL.out (by unfold maxLen; omega) (by omega) (by exact HBA.out.size) ?_); intro v4 w4 hr4 hg4 hat4; obtain ⟨a4, c4, rfl⟩ := row_form hr4; have hb4 : Below w2.heap.size w2 w4 := HBA.out.grown hg4 HBA.out.size (fun b hb => by simp [Value.ownBlock] at hb; omega); have hx4 := (hb4.block xb (heap_lt HX2.out)).trans HX2.out; have k4 : w4.cell? ⟨xb, 1, none⟩ = some (.slice a nt c) := (by simp [World.cell?, hx4]); have z4 : w4.frozen? ⟨xb, 1, none⟩ = false := (by simp [World.frozen?, hx4]); have HR4 := Lib.hid hr4; have HB4 := Lib.hid hb4; clear hr4 hg4 hat4 hb4 hx4)
      simp only [Nat.zero_add, List.nil_append] at HR4
      clear k4 z4 x1
      refine wp_gen (fun w' => Below w.heap.size w w' ∧ w'.heap[xb]? = some (.cells #[.string s.name, .slice a4 nt c4] 31 (0, 0)) ∧ w'.ownsRow w2.heap.size 51 2 (.slice a4 nt c4) nt (tgC s.tags)) (box_tags HB2.out (Nat.le_of_eq HXB.out) HX2.out HR4.out HB4.out) ?_
      rintro w5 ⟨hb5, hx5, hr5⟩
      have HB5 := Lib.hid hb5
      have HX5 := Lib.hid hx5
      have HR5 := Lib.hid hr5
      have hxx := (hb5.block x (heap_lt HX.out)).trans HX.out
      have HXX := Lib.hid hxx
      obtain ⟨V, hV⟩ : ∃ V, V = Value.slice la n lc := ⟨_, rfl⟩
      have HV2 := Lib.hid hV
      have hcap := row_cap HRW.out
      have hs1 := fun w' => slice84to la (w := w') hkl hcap
      have hs2 := fun w' => slice84from la (w := w') hkl hcap
      obtain ⟨a2, ha2⟩ : ∃ a2, cutA la lc k 3 = a2 := ⟨_, rfl⟩
      obtain ⟨hc1, hc2⟩ := cut_src HRW.out hkl (en_one E)
      rw [enC_take] at hc1
      rw [enC_drop, ha2] at hc2
      rw [ha2] at hs2
      obtain ⟨i0, z0', hi0, hz0, hz1, hz2, hz3⟩ := zparts89
      have HI := Lib.hid hi0
      have HI0 := Lib.hid hz0
      have HI1 := Lib.hid hz1
      have HI2 := Lib.hid hz2
      have HI3 := Lib.hid hz3
      have HM8 := Lib.hid (World.ownsRow_made (w := w5) (base := w5.heap.size) (e := 89) (size := 3) #[] 0 (Nat.le_refl _) (by unfold maxLen; omega) rfl)
      have hba := (Below.refl w5.heap.size w5).alloc (Nat.le_refl _) (.cells #[] 89)
      have HBA8 := Lib.hid hba
      have hb6 := HB5.out.trans (hba.mono HB5.out.size)
      have HC1 := Lib.hid (hc1.later hb6)
      have HC2 := Lib.hid hc2
      have e2 : (w5.alloc (.cells #[] 89)).cell? ⟨x, 0, none⟩ = some V := by
        have := (hba.block x (heap_lt hxx)).trans hxx
        rw [hV]
        simp [World.cell?, this]
      rw [← hV] at hs1 hs2
      clear hi0 hz0 hz1 hz2 hz3 hba hb6 hc1 hc2 ha2 hb5 hx5 hr5 hxx hV
      have ROOM : k ≤ 1000000000000 := by omega
      go_upto_region 9 with (at_builtin; go_must (refine wpList_append_srcN rfl _ _ 84 rfl w5.heap.size 89 i0 z0' 3 56 Try.underlying84 HI.out HI0.out HI1.out HI2.out HI3.out (by omega) (.slice (some ⟨w5.heap.size, 0, none⟩) 0 0) 0 [] rfl HM8.out (.slice la k lc) k (enC (E.take k)) rfl HC1.out (by unfold maxLen; omega) (by omega) (by exact HBA8.out.size) ?_); intro v7 w7 hr7 hg7 hat7; obtain ⟨a7, c7, rfl⟩ := row_form hr7; have hb7 : Below w5.heap.size w5 w7 := HBA8.out.grown hg7 HBA8.out.size (fun b hb => by simp [Value.ownBlock] at hb; omega); have HR7 := Lib.hid hr7; have HB7 := Lib.hid hb7; clear hr7 hg7 hat7 hb7)
      simp only [Nat.zero_add, List.nil_append] at HR7
      have q0 := (HB7.out.block x (heap_lt HXX.out)).trans HXX.out
      have q1 := (HB7.out.block xb (heap_lt HX5.out)).trans HX5.out
      have HQ0 := Lib.hid q0
      have r0 : w7.cell? ⟨x, 0, none⟩ = some V := by rw [HV2.out]; simp [World.cell?, q0]
      have b0 : w7.cell? ⟨xb, 0, none⟩ = some (.string s.name) := by simp [World.cell?, q1]
      have b1 : w7.cell? ⟨xb, 1, none⟩ = some (.slice a4 nt c4) := by simp [World.cell?, q1]
      have HXL := Lib.hid (heap_lt q0)
      have HR0 := Lib.hid r0
      have z7 : w7.frozen? ⟨x, 0, none⟩ = false := by simp [World.frozen?, q0]
      have HZ7 := Lib.hid z7
      have qa : (w7.alloc (.cells #[.string t, .string s.name, .slice a4 nt c4] 89)).cell? ⟨x, 0, none⟩ = some V := by
        have h1 := (heap_alloc_old w7 (.cells #[.string t, .string s.name, .slice a4 nt c4] 89) HXL.out).trans HQ0.out
        rw [HV2.out]
        simp [World.cell?, h1]
      have HO7 := Lib.hid (fun b hb => (HR7.out.lt b hb).1 : ∀ b, (Value.slice a7 k c7).ownBlock = some b → w5.heap.size ≤ b)
      have HXL5 := Lib.hid (heap_lt HXX.out)
      clear q0 q1 e2 hs1 z7
      go_region_law
        (first
          | ((refine step_append_srcN (by rfl) _ _ 84 (by rfl) w5.heap.size 89 i0 z0' 3 56 Try.underlying84 HI.out HI0.out HI1.out HI2.out HI3.out (by omega) (.slice a7 k c7) k (enC (E.take k)) (by rfl) (by first | exact (HR7.out.alloc _).drew | exact HR7.out.alloc _) (.slice (some ⟨w7.heap.size, 0, none⟩) 1 1) 1 [.string t, .string s.name, .slice a4 nt c4] (by rfl) (SrcN.of_block (cs := #[.string t, .string s.name, .slice a4 nt c4]) (heap_alloc_new w7 _) rfl (by simp [Value.oneCell']) 1) (by unfold maxLen; omega) (by omega) (by have := HB7.out.size; simp; omega) ?_; intro a8 c8 w8 hr8 hg8 hat8; have hb8 := (HB7.out.alloc HB7.out.size _).drew.grown hg8 (by have := HB7.out.size; simp; omega) (fun b hb => HO7.out b hb); have r8 := (hb8.cell (p := ⟨x, 0, none⟩) HXL5.out).trans ((HB7.out.cell (p := ⟨x, 0, none⟩) HXL5.out).symm.trans HR0.out); have HB8 := Lib.hid hb8; have HR8 := Lib.hid hr8; have HO8 := Lib.hid (fun b hb => (hr8.lt b hb).1 : ∀ b, (Value.slice a8 (k + 1) c8).ownBlock = some b → w5.heap.size ≤ b); clear hr8 hg8 hat8 hb8))
          | ((refine step_append_srcN (by rfl) _ _ 84 (by rfl) w5.heap.size 89 i0 z0' 3 56 Try.underlying84 HI.out HI0.out HI1.out HI2.out HI3.out (by omega) (.slice _ (k + 1) _) (k + 1) (enC (E.take k) ++ [.string t, .string s.name, .slice a4 nt c4]) (by rfl) HR8.out (.slice a2 (n - k) (lc - k)) (n - k) (enC (E.drop k)) (by rfl) (HC2.out.later (HB5.out.trans (HB8.out.mono HB5.out.size))) (by unfold maxLen; omega) (by omega) (by exact HB8.out.size) ?_; intro a9 c9 w9 hr9 hg9 hat9; have hb9 := HB8.out.grown hg9 HB8.out.size (fun b hb => HO8.out b hb); have r9 := (hb9.cell (p := ⟨x, 0, none⟩) HXL5.out).trans ((HB7.out.cell (p := ⟨x, 0, none⟩) HXL5.out).symm.trans HR0.out); have z9 := (hb9.frozen (p := ⟨x, 0, none⟩) HXL5.out).trans ((HB7.out.frozen (p := ⟨x, 0, none⟩) HXL5.out).symm.trans HZ7.out); have HB9 := Lib.hid hb9; have HR9 := Lib.hid hr9; clear hr9 hg9 hat9 hb9)))
      all_goals
        clear r0 r8 r9 z9 b0 b1 qa
        go_wp2_with fail
        go_ret2
        exact radd_end HH.out HOK.out HTX.out HEN.out hkl HPL.out HNO.out HNT.out HB2.out HB5.out HB9.out HR5.out HNM.out HSZ.out rfl HR9.out
end Go.Proofs.Ytobcpafalfdpkaa
