/- The document's index: Drop. Condition: the bounds. -/
import Derived.Test.YtobcpafalfdpkaaBH
import Derived.StillTailTactics
namespace Go.Proofs.Ytobcpafalfdpkaa
open Go.RowKit Go.WideMaps Go.Sort
def RDropPost (w : World) (T : Nat → Prop) (x : Nat) (E : List (BA × SV)) (K : List (BA × BA × Int)) (s : Sr) (e : Ending) (w' : World) : Prop :=
  (s.ok = false ∧ e = .returned (.bool false) ∧ RefStep w T x E K w') ∨
  (s.ok = true ∧ (∃ k, PlaceS (E.map (·.1)) s.txt k ∧ ∀ p, E[k]? = some p → p.1 ≠ s.txt) ∧ e = .returned (.bool false) ∧ RefStep w T x E K w') ∨
  (s.ok = true ∧ ∃ (k : Nat) (p : BA × SV), E[k]? = some p ∧ p.1 = s.txt ∧ e = .returned (.bool true) ∧ RefStep w T x (E.eraseIdx k) K w')
theorem rdrop_end {w w2 w5 : World} {T : Nat → Prop} {x : Nat} {E : List (BA × SV)} {K : List (BA × BA × Int)} {s : Sr} {k n m c5 : Nat} {a5 : Option Addr} {p : BA × SV} (h : RefAt w T x E K) (hok : s.ok = true) (hEn : E.length = n) (hk : k < n) (hp : E[k]? = some p) (ht : p.1 = s.txt) (hb2 : Below w.heap.size w w2) (hb5 : Below w2.heap.size w2 w5)
    (hm : m = k + (n - (k + 1))) (hr5 : w5.ownsRow w2.heap.size 89 3 (.slice a5 m c5) m (enC (E.take k) ++ enC (E.drop (k + 1)))) :
    RDropPost w T x E K s (.returned (.bool true)) (w5.setCell ⟨x, 0, none⟩ (.slice a5 m c5)) := by
  have hE : enC (E.take k) ++ enC (E.drop (k + 1)) = enC (E.eraseIdx k) := by
    rw [← enC_app, List.eraseIdx_eq_take_drop_succ]
  rw [hE] at hr5
  have hlen : (E.eraseIdx k).length = m := by
    rw [List.length_eraseIdx, if_pos (by omega), hEn, hm]; omega
  have hb := hb2.trans (hb5.mono hb2.size)
  exact .inr (.inr ⟨hok, k, p, hp, ht, rfl, ref_list h hb hlen (row_lower hr5 hb2.size) fun q hq => h.serE hb (List.mem_of_mem_eraseIdx hq)⟩)
set_option maxRecDepth 100000 in
set_option maxHeartbeats 4000000 in
theorem rdrop49 {w : World} {T : Nat → Prop} {x : Nat} {E : List (BA × SV)} {K : List (BA × BA × Int)} (h : RefAt w T x E K) {v : Value} {s : Sr} (hv : SrIn w v s) (hn : E.length ≤ 1000000000000) : Calls Try.prog 49 #[.pointer (some ⟨x, 0, none⟩), v] w (RDropPost w T x E K s) := by
  have HV := Lib.hid hv
  obtain ⟨a, c, rfl, hac, hn63, htg, hnm, hsz⟩ := hv
  have hb1 := (Below.refl w.heap.size w).alloc (Nat.le_refl _) (.cells #[.string s.name, .slice a s.tags.length c] 31)
  have hx1 := heap_alloc_new w (.cells #[.string s.name, .slice a s.tags.length c] 31)
  obtain ⟨w1, hw1⟩ : ∃ w1, w.alloc (.cells #[.string s.name, .slice a s.tags.length c] 31) = w1 := ⟨_, rfl⟩
  rw [hw1] at hb1 hx1
  obtain ⟨xb, hxb⟩ : ∃ xb, w.heap.size = xb := ⟨_, rfl⟩
  rw [hxb] at hx1
  have x0 : w1.cell? ⟨xb, 0, none⟩ = some (.string s.name) := by simp [World.cell?, hx1]
  have x1 : w1.cell? ⟨xb, 1, none⟩ = some (.slice a s.tags.length c) := by simp [World.cell?, hx1]
  have HT := Lib.hid (text39 (HV.out.later hb1))
  have HB1 := Lib.hid hb1
  have HH := Lib.hid h
  have HNE := Lib.hid hn
  obtain ⟨nt, hnt⟩ : ∃ nt, s.tags.length = nt := ⟨_, rfl⟩
  rw [hnt] at x1 HT HV hw1
  clear h hac hn63 htg hnm hsz hb1 hx1 hn
  cases hok : s.ok with
  | false =>
    have HOK := Lib.hid hok
    rw [no_tx hok] at HT
    clear hok
    simp only [hnt]
    clear hnt
    go_enter Try.func49, Try.ntmps49
    go_wp2_with fail
    clear hw1 hxb x0 x1
    refine HT.out.mono ?_
    rintro e w2 ⟨rfl, hb2⟩
    have HB2 := Lib.hid (HB1.out.trans (hb2.mono HB1.out.size))
    have HAT := Lib.hid (at40 (HH.out.later HB2.out) ⟨#[]⟩ (by have := HNE.out; omega))
    clear hb2
    go_wp2_with fail
    refine HAT.out.mono ?_
    rintro e w3 ⟨k, rfl, _, rfl⟩
    go_wp2_with fail
    go_ret
    exact .inl ⟨HOK.out, rfl, refStep_later HH.out HB2.out⟩
  | true =>
    have HOK := Lib.hid hok
    rw [ok_tx hok] at HT
    clear hok
    obtain ⟨t, htt⟩ : ∃ t, s.txt = t := ⟨_, rfl⟩
    have HTX := Lib.hid htt
    rw [htt] at HT
    simp only [hnt]
    clear hnt htt
    go_enter Try.func49, Try.ntmps49
    go_wp2_with fail
    clear hw1 hxb x0 x1
    refine HT.out.mono ?_
    rintro e w2 ⟨rfl, hb2⟩
    have HB2 := Lib.hid (HB1.out.trans (hb2.mono HB1.out.size))
    have HAT := Lib.hid (at40 (HH.out.later HB2.out) t (by have := HNE.out; omega))
    clear hb2
    go_wp2_with fail
    refine HAT.out.mono ?_
    rintro e w3 ⟨k, rfl, hpl, rfl⟩
    have HPL := Lib.hid hpl
    have hkl := place_at hpl
    obtain ⟨la, n, lc, ka, kn, kc, hx0, hEn, hKn, hrl0, hrk⟩ := HH.out.open
    have hx := (HB2.out.block x (heap_lt hx0)).trans hx0
    have hrl := row_later hrl0 HB2.out
    have HX := Lib.hid hx
    have HEN := Lib.hid hEn
    have HRL := Lib.hid hrl
    have hnb := HNE.out
    rw [hEn] at hkl hnb
    have c0 : w2.cell? ⟨x, 0, none⟩ = some (.slice la n lc) := by simp [World.cell?, hx]
    have hcase : (∃ p : BA × SV, E[k]? = some p ∧ k < n ∧ (p.1.toList == t.toList) = true) ∨ (∃ p : BA × SV, E[k]? = some p ∧ k < n ∧ (p.1.toList == t.toList) = false) ∨ k = n := by
      by_cases hlt : k < n
      · have hx' := List.getElem?_eq_getElem (l := E) (i := k) (by rw [hEn]; exact hlt)
        cases hq : ((E[k]'(by rw [hEn]; exact hlt)).1.toList == t.toList) with
        | true => exact .inl ⟨_, hx', hlt, hq⟩
        | false => exact .inr (.inl ⟨_, hx', hlt, hq⟩)
      · exact .inr (.inr (by omega))
    clear hpl hx hEn hKn hrl hrk hx0 hrl0
    rcases hcase with ⟨p, hp, hlt, hq⟩ | ⟨p, hp, hlt, hq⟩ | hkn
    case' inr.inl =>
      obtain ⟨g, rfl, q0, _⟩ := en_cell HRL.out HEN.out hp
      have HNO := Lib.hid (show ∃ k, PlaceS (E.map (·.1)) s.txt k ∧ ∀ p, E[k]? = some p → p.1 ≠ s.txt from ⟨k, by rw [HTX.out]; exact HPL.out, fun p' hp' => by
        rw [hp] at hp'; injection hp' with e; rw [← e, HTX.out]; exact str_ne hq⟩)
      have hd : decide ((k : Int) < (n : Int)) = true := by simp; omega
      have hd2 : decide (n ≤ k) = false := by simp; omega
      obtain ⟨pt, ps⟩ := p
      simp only at q0 hq
      clear hp
      go_wp2_with fail
      go_ret
      exact .inr (.inl ⟨HOK.out, HNO.out, rfl, refStep_later HH.out HB2.out⟩)
    case' inr.inr =>
      have HNO := Lib.hid (show ∃ k, PlaceS (E.map (·.1)) s.txt k ∧ ∀ p, E[k]? = some p → p.1 ≠ s.txt from ⟨k, by rw [HTX.out]; exact HPL.out, fun p' hp' => by
        rw [List.getElem?_eq_none (by rw [HEN.out]; omega)] at hp'; cases hp'⟩)
      have hd : decide (n ≤ k) = true := by simp; omega
      have hnl : n ≤ k := by omega
      clear hkn
      go_wp2_with fail
      go_ret
      exact .inr (.inl ⟨HOK.out, HNO.out, rfl, refStep_later HH.out HB2.out⟩)
    · obtain ⟨g, rfl, q0, _⟩ := en_cell HRL.out HEN.out hp
      have HPK := Lib.hid hp
      have HPT := Lib.hid (show p.1 = s.txt by rw [HTX.out]; exact str_eq hq)
      have hd : decide ((k : Int) < (n : Int)) = true := by simp; omega
      have hd2 : decide (n ≤ k) = false := by simp; omega
      obtain ⟨pt, ps⟩ := p
      simp only at q0 hq
      clear hp
      go_upto_region 5 with (fail)
      clear q0 hd hd2 hq
      have HKL := Lib.hid hlt
      have hcap := row_cap HRL.out
      have hs1 := fun w' => slice84to (some ⟨g, 0, none⟩) (w := w') (Nat.le_of_lt hlt) hcap
      have hs2 := fun w' => slice84from (some ⟨g, 0, none⟩) (w := w') (show k + 1 ≤ n from hlt) hcap
      have e1 : ((k + 1 : Nat) : Int) = (k : Int) + 1 := by omega
      obtain ⟨a2, ha2⟩ : ∃ a2, cutA (some ⟨g, 0, none⟩) lc (k + 1) 3 = a2 := ⟨_, rfl⟩
      obtain ⟨hc1, _⟩ := cut_src HRL.out (Nat.le_of_lt hlt) (en_one E)
      obtain ⟨_, hc2⟩ := cut_src HRL.out (show k + 1 ≤ n from hlt) (en_one E)
      rw [enC_take] at hc1
      rw [enC_drop, ha2] at hc2
      rw [ha2] at hs2
      rw [e1] at hs2
      have hwr : IntKind.i64.wrap ((k : Int) + 1) = (k : Int) + 1 := IntWalk.i64_in _ (by omega)
      obtain ⟨i0, z0', hi0, hz0, hz1, hz2, hz3⟩ := zparts89
      have HI := Lib.hid hi0
      have HI0 := Lib.hid hz0
      have HI1 := Lib.hid hz1
      have HI2 := Lib.hid hz2
      have HI3 := Lib.hid hz3
      have HC1 := Lib.hid hc1
      have HC2 := Lib.hid hc2
      have HXL := Lib.hid (heap_lt HX.out)
      have z1 : w2.frozen? ⟨x, 0, none⟩ = false := by have := HX.out; simp [World.frozen?, this]
      have HZ1 := Lib.hid z1
      have HC0 := Lib.hid c0
      have qa : (w2.alloc (.cells #[] 89)).cell? ⟨x, 0, none⟩ = some (.slice (some ⟨g, 0, none⟩) n lc) := by
        have h1 := (heap_alloc_old w2 (.cells #[] 89) HXL.out).trans HX.out
        simp [World.cell?, h1]
      have ROOM : k ≤ 1000000000000 := by omega
      clear hi0 hz0 hz1 hz2 hz3 hc1 hc2 ha2 e1 z1
      go_region_law
        (first
          | ((refine step_append_srcN (by rfl) _ _ 84 (by rfl) w2.heap.size 89 i0 z0' 3 56 Try.underlying84 HI.out HI0.out HI1.out HI2.out HI3.out (by omega) (.slice (some ⟨w2.heap.size, 0, none⟩) 0 0) 0 [] (by rfl) (by first | exact (World.ownsRow_made (w := w2) (base := w2.heap.size) (e := 89) (size := 3) #[] 0 (Nat.le_refl _) (by unfold maxLen; omega) rfl).drew | exact World.ownsRow_made (w := w2) (base := w2.heap.size) (e := 89) (size := 3) #[] 0 (Nat.le_refl _) (by unfold maxLen; omega) rfl) (.slice (some ⟨g, 0, none⟩) k lc) k (enC (E.take k)) (by rfl) (HC1.out.later (((Below.refl _ _).alloc (Nat.le_refl _) _).drew)) (by unfold maxLen; omega) (by omega) (by simp) ?_; intro a4 c4 w4 hr4 hg4 hat4; simp only [Nat.zero_add, List.nil_append] at hr4 hat4; have hb4 : Below w2.heap.size w2 w4 := ((Below.refl w2.heap.size w2).alloc (Nat.le_refl _) _).drew.grown hg4 (by simp) (fun b hb => by simp [Value.ownBlock] at hb; omega); have HB4 := Lib.hid hb4; have r4 := (hb4.cell (p := ⟨x, 0, none⟩) HXL.out).trans HC0.out; have HR4 := Lib.hid hr4; have HO4 := Lib.hid (fun b hb => (hr4.lt b hb).1 : ∀ b, (Value.slice a4 k c4).ownBlock = some b → w2.heap.size ≤ b); clear hr4 hg4 hat4 hb4))
          | ((refine step_append_srcN (by rfl) _ _ 84 (by rfl) w2.heap.size 89 i0 z0' 3 56 Try.underlying84 HI.out HI0.out HI1.out HI2.out HI3.out (by omega) (.slice _ k _) k (enC (E.take k)) (by rfl) HR4.out (.slice a2 (n - (k + 1)) (lc - (k + 1))) (n - (k + 1)) (enC (E.drop (k + 1))) (by rfl) (HC2.out.later HB4.out) (by unfold maxLen; omega) (by omega) (by exact HB4.out.size) ?_; intro a5 c5 w5 hr5 hg5 hat5; have hb5 := HB4.out.grown hg5 HB4.out.size (fun b hb => HO4.out b hb); have HB5 := Lib.hid hb5; have HR5 := Lib.hid hr5; have r5 := (hb5.cell (p := ⟨x, 0, none⟩) HXL.out).trans HC0.out; have z5 := (hb5.frozen (p := ⟨x, 0, none⟩) HXL.out).trans HZ1.out; clear hr5 hg5 hat5 hb5)))
      all_goals
        clear r4 r5 z5 qa
        go_wp2_with fail
        go_ret
        exact rdrop_end HH.out HOK.out HEN.out HKL.out HPK.out HPT.out HB2.out HB5.out rfl HR5.out
end Go.Proofs.Ytobcpafalfdpkaa
/- The document's index: Forget. Condition: the bounds. -/
namespace Go.Proofs.Ytobcpafalfdpkaa
open Go.RowKit Go.WideMaps Go.Sort
def fE (E : List (BA × SV)) (nm : BA) : List (BA × SV) := E.filter fun p => !decide (p.2.sr.name = nm)
def fK (K : List (BA × BA × Int)) (nm : BA) : List (BA × BA × Int) := K.filter fun p => !decide (p.1 = nm)
theorem filt_yes {α : Type} {f : α → Bool} {L : List α} {k : Nat} {p : α} (h : L[k]? = some p) (hf : f p = true) : (L.take (k + 1)).filter f = (L.take k).filter f ++ [p] := by
  obtain ⟨hk, he⟩ := List.getElem?_eq_some_iff.1 h
  rw [List.take_succ_eq_append_getElem hk, he, List.filter_append]
  simp [hf]
theorem filt_no {α : Type} {f : α → Bool} {L : List α} {k : Nat} {p : α} (h : L[k]? = some p) (hf : f p = false) : (L.take (k + 1)).filter f = (L.take k).filter f := by
  obtain ⟨hk, he⟩ := List.getElem?_eq_some_iff.1 h
  rw [List.take_succ_eq_append_getElem hk, he, List.filter_append]
  simp [hf]
def InE (w : World) (F : Nat → List (BA × SV)) (n : Nat) (q i : Value) (wr : World) : Prop := ∃ k : Nat, k ≤ n ∧ i = .int .i64 k ∧ wr.ownsRow w.heap.size 89 3 q (F k).length (enC (F k)) ∧ Below w.heap.size w wr
def InK (w : World) (F : Nat → List (BA × BA × Int)) (n : Nat) (q i : Value) (wr : World) : Prop := ∃ k : Nat, k ≤ n ∧ i = .int .i64 k ∧ wr.ownsRow w.heap.size 103 3 q (F k).length (kiC (F k)) ∧ Below w.heap.size w wr
theorem kiC_snoc (K : List (BA × BA × Int)) (p : BA × BA × Int) : kiC (K ++ [p]) = kiC K ++ [.string p.1, .string p.2.1, .int .i64 p.2.2] := by
  unfold kiC
  rw [List.flatMap_append]
  simp [kiV]
theorem enC_snoc (E : List (BA × SV)) (p : BA × SV) : enC (E ++ [p]) = enC E ++ [.string p.1, .string p.2.sr.name, p.2.sl] := by
  rw [enC_app]
  simp [enC, enV]
theorem ref_both {w w5 : World} {T : Nat → Prop} {x : Nat} {E E' : List (BA × SV)} {K K' : List (BA × BA × Int)} (h : RefAt w T x E K) (hb : Below w.heap.size w w5) {a5 b5 : Option Addr} {m c5 m' d5 : Nat} (hm : E'.length = m) (hm' : K'.length = m')
    (hrow : w5.ownsRow w.heap.size 89 3 (.slice a5 m c5) m (enC E')) (hrow' : w5.ownsRow w.heap.size 103 3 (.slice b5 m' d5) m' (kiC K')) (hser : ∀ p ∈ E', p ∈ E) :
    RefStep w T x E' K' ((w5.setCell ⟨x, 0, none⟩ (.slice a5 m c5)).setCell ⟨x, 1, none⟩ (.slice b5 m' d5)) := by
  subst hm hm'
  obtain ⟨lv, kv, hx, hl, hk, hlT, hkT⟩ := h.blk
  have hxl := heap_lt hx
  have hx5 := (hb.block x hxl).trans hx
  have hset1 := heap_setCell_same w5 x 0 _ _ (.slice a5 E'.length c5) hx5
  have hset := heap_setCell_same _ x 1 _ _ (.slice b5 K'.length d5) hset1
  have ho := (onlyD_set w5 x 0 (.slice a5 E'.length c5)).trans (onlyD_set _ x 1 (.slice b5 K'.length d5))
  obtain ⟨w6, hw6⟩ : ∃ w6, (w5.setCell ⟨x, 0, none⟩ (.slice a5 E'.length c5)).setCell ⟨x, 1, none⟩ (.slice b5 K'.length d5) = w6 := ⟨_, rfl⟩
  rw [hw6] at hset ho ⊢
  refine ⟨(Turns.of_below hb).trans (ho.turns (S := T) h.here) (fun _ hx => .inl hx), ⟨⟨.slice a5 E'.length c5, .slice b5 K'.length d5, hset, ?_, ?_, fun g hg => .inr ⟨(hrow.lt g hg).1, by rw [ho.sized]; exact (hrow.lt g hg).2⟩, fun g hg => .inr ⟨(hrow'.lt g hg).1, by rw [ho.sized]; exact (hrow'.lt g hg).2⟩⟩, fun p hp => ?_, .inl h.here⟩⟩
  · exact row_lower (ownsRow_same hrow fun g hg => ho.2.2.2.2 g (row_not hrow hx5 (by decide) hg)) (Nat.zero_le _)
  · exact row_lower (ownsRow_same hrow' fun g hg => ho.2.2.2.2 g (row_not hrow' hx5 (by decide) hg)) (Nat.zero_le _)
  · obtain ⟨h1, h2⟩ := h.ser p (hser p hp)
    have h3 := h1.later hb
    exact ⟨⟨ownsRow_same h3.row fun g hg => ho.2.2.2.2 g (row_not h3.row hx5 (by decide) hg), h3.name, h3.sizes⟩, fun g hg => .inl (h2 g hg)⟩
set_option maxRecDepth 100000 in
set_option maxHeartbeats 4000000 in
theorem rforget51 {w : World} {T : Nat → Prop} {x : Nat} {E : List (BA × SV)} {K : List (BA × BA × Int)} (h : RefAt w T x E K) (nm : BA) (hn : E.length ≤ 1000000000000) (hn' : K.length ≤ 1000000000000) : Calls Try.prog 51 #[.pointer (some ⟨x, 0, none⟩), .string nm] w fun e w' => e = .returned (.int .i64 ((E.length : Int) - ((fE E nm).length : Int))) ∧ RefStep w T x (fE E nm) (fK K nm) w' := by
  obtain ⟨a, n, c, b, m, d, hx, hEn, hKn, hrow, hrowk⟩ := h.open
  obtain ⟨i0, z0', hi0, hz0, hz1, hz2, hz3⟩ := zparts89
  have HI := Lib.hid hi0
  have HI0 := Lib.hid hz0
  have HI1 := Lib.hid hz1
  have HI2 := Lib.hid hz2
  have HI3 := Lib.hid hz3
  obtain ⟨i1, y0', hj0, hy0, hy1, hy2, hy3⟩ := zparts103
  have HJ := Lib.hid hj0
  have HJ0 := Lib.hid hy0
  have HJ1 := Lib.hid hy1
  have HJ2 := Lib.hid hy2
  have HJ3 := Lib.hid hy3
  have c0 : w.cell? ⟨x, 0, none⟩ = some (.slice a n c) := by simp [World.cell?, hx]
  have HX := Lib.hid hx
  have HE := Lib.hid hEn
  have HKN := Lib.hid hKn
  have HROW := Lib.hid hrow
  have HROWK := Lib.hid hrowk
  have HH := Lib.hid h
  rw [hEn] at hn
  rw [hKn] at hn'
  clear h hx hEn hKn hrow hrowk hi0 hz0 hz1 hz2 hz3 hj0 hy0 hy1 hy2 hy3
  go_enter Try.func51, Try.ntmps51
  go_wp2_with fail
  clear c0
  go_loopw [5, 15] (fun q i wr => InE w (fun k => fE (E.take k) nm) n q i wr) (fun _ i _ => n - (intOf i).toNat)
  case atStart => exact ⟨0, Nat.zero_le _, rfl, World.ownsRow_nil _ _ _ _, Below.refl _ _⟩
  case round =>
    obtain ⟨k, hkn, rfl, hq, hb⟩ := hrel
    change wr.ownsRow _ _ _ _ (fE (E.take k) nm).length (enC (fE (E.take k) nm)) at hq
    by_cases hlt : k < n
    · obtain ⟨p, hp⟩ : ∃ p, E[k]? = some p := ⟨_, List.getElem?_eq_getElem (by rw [HE.out]; exact hlt)⟩
      obtain ⟨g, rfl, q0, q1, q2⟩ := en_cell (row_later HROW.out hb) HE.out hp
      have hx := (hb.block x (heap_lt HX.out)).trans HX.out
      have c0 : wr.cell? ⟨x, 0, none⟩ = some (.slice (some ⟨g, 0, none⟩) n c) := by simp [World.cell?, hx]
      obtain ⟨qa, qc, rfl⟩ := row_form hq
      have hl : (fE (E.take k) nm).length ≤ k := by
        have : (fE (E.take k) nm).length ≤ (E.take k).length := List.length_filter_le ..
        rw [List.length_take] at this
        omega
      have HF := Lib.hid (show p.2.sr.name ≠ nm → fE (E.take (k + 1)) nm = fE (E.take k) nm ++ [p] from fun hne => filt_yes hp (by simp [hne]))
      have HF2 := Lib.hid (show p.2.sr.name = nm → fE (E.take (k + 1)) nm = fE (E.take k) nm from fun he => filt_no hp (by simp [he]))
      obtain ⟨L, hL⟩ : ∃ L, fE (E.take k) nm = L := ⟨_, rfl⟩
      rw [hL] at hq hl HF HF2
      obtain ⟨l, hll⟩ : ∃ l, L.length = l := ⟨_, rfl⟩
      rw [hll] at hq hl
      have HL := Lib.hid hL
      have HLL := Lib.hid hll
      have HQ := Lib.hid hq
      have HB := Lib.hid hb
      rw [hL, hll]
      obtain ⟨t, sv⟩ := p
      obtain ⟨sa, sn, sc, hsl⟩ : ∃ a n c, sv.sl = .slice a n c := ⟨_, _, _, rfl⟩
      simp only at q0 q1 q2 HF HF2
      rw [hsl] at q2
      have HSL := Lib.hid hsl
      clear hq hb hp hx hL hll hsl
      cases he : (sv.sr.name.toList == nm.toList) with
      | false =>
        have HF1 := Lib.hid (HF.out (str_ne he))
        have hne : (sv.sr.name.toList != nm.toList) = true := by rw [bne, he]; rfl
        have HA := Lib.hid (HQ.out.alloc (.cells #[.string t, .string sv.sr.name, .slice sa sn sc] 89))
        have HBA := Lib.hid (HB.out.alloc HB.out.size (.cells #[.string t, .string sv.sr.name, .slice sa sn sc] 89))
        have HSRC := Lib.hid (SrcN.of_block (size := 3) (m := 1) (heap_alloc_new wr (.cells #[.string t, .string sv.sr.name, .slice sa sn sc] 89)) rfl (by simp [Value.oneCell']) 1)
        clear HF HF2
        go_wp2_with (at_builtin; refine wpList_append_srcN (by rfl) _ _ 84 (by rfl) w.heap.size 89 i0 z0' 3 56 Try.underlying84 HI.out HI0.out HI1.out HI2.out HI3.out (by omega) (.slice qa l qc) l (enC L) (by rfl) HA.out (.slice (some ⟨wr.heap.size, 0, none⟩) 1 1) 1 [.string t, .string sv.sr.name, .slice sa sn sc] (by rfl) HSRC.out (by unfold maxLen; omega) (by omega) (by exact HBA.out.size) ?_; intro v8 w8 hr8 hg8 hat8; obtain ⟨a8, c8, rfl⟩ := row_form hr8; have HR8 := Lib.hid hr8; have HG8 := Lib.hid hg8; clear hr8 hg8 hat8)
        go_roundw
        case rel =>
          refine ⟨k + 1, by omega, by go_num, ?_, HBA.out.grown HG8.out HBA.out.size (fun z hz => (HA.out.lt z hz).1)⟩
          have := HR8.out
          rw [show (fun k => fE (E.take k) nm) (k + 1) = L ++ [(t, sv)] from HF1.out, List.length_append, HLL.out, enC_snoc]
          simp only [HSL.out]
          exact this
        case measure => simp [intOf]; omega
      | true =>
        have HF1 := Lib.hid (HF2.out (str_eq he))
        have hne : (sv.sr.name.toList != nm.toList) = false := by rw [bne, he]; rfl
        clear HF HF2
        go_wp2_with fail
        go_roundw
        case rel =>
          refine ⟨k + 1, by omega, by go_num, ?_, HB.out⟩
          rw [show (fun k => fE (E.take k) nm) (k + 1) = L from HF1.out, HLL.out]
          exact HQ.out
        case measure => simp [intOf]; omega
    · have hke : k = n := by omega
      subst hke
      have hall : fE (E.take k) nm = fE E nm := by rw [← HE.out, List.take_length]
      rw [hall] at hq
      obtain ⟨FE, hFE⟩ : ∃ FE, fE E nm = FE := ⟨_, rfl⟩
      have hfl : (fE E nm).length ≤ k := by rw [← HE.out]; exact List.length_filter_le ..
      rw [hFE] at hq hfl
      obtain ⟨l, hll⟩ : ∃ l, FE.length = l := ⟨_, rfl⟩
      rw [hll] at hq hfl
      obtain ⟨qa, qc, rfl⟩ := row_form hq
      have HFE := Lib.hid hFE
      have HLL := Lib.hid hll
      have HQ1 := Lib.hid hq
      have HB1 := Lib.hid hb
      have hx := (hb.block x (heap_lt HX.out)).trans HX.out
      have c1 : wr.cell? ⟨x, 1, none⟩ = some (.slice b m d) := by simp [World.cell?, hx]
      clear hq hb hlt hall hFE hll hx
      go_wp2_with fail
      clear c1
      go_loopw [6, 45] (fun q i w2 => InK wr (fun k => fK (K.take k) nm) m q i w2) (fun _ i _ => m - (intOf i).toNat)
      case atStart => exact ⟨0, Nat.zero_le _, rfl, World.ownsRow_nil _ _ _ _, Below.refl _ _⟩
      case round =>
        rename World => w2
        obtain ⟨j, hjm, rfl, hq, hb⟩ := hrel
        change w2.ownsRow _ _ _ _ (fK (K.take j) nm).length (kiC (fK (K.take j) nm)) at hq
        have hb02 := HB1.out.trans (hb.mono HB1.out.size)
        by_cases hlt : j < m
        · obtain ⟨p, hp⟩ : ∃ p, K[j]? = some p := ⟨_, List.getElem?_eq_getElem (by rw [HKN.out]; exact hlt)⟩
          obtain ⟨g, rfl, q0, q1, q2⟩ := ki_cell (row_later HROWK.out hb02) HKN.out hp
          have hx := (hb02.block x (heap_lt HX.out)).trans HX.out
          have c1 : w2.cell? ⟨x, 1, none⟩ = some (.slice (some ⟨g, 0, none⟩) m d) := by simp [World.cell?, hx]
          obtain ⟨ra, rc, rfl⟩ := row_form hq
          have hl : (fK (K.take j) nm).length ≤ j := by
            have : (fK (K.take j) nm).length ≤ (K.take j).length := List.length_filter_le ..
            rw [List.length_take] at this
            omega
          have HF := Lib.hid (show p.1 ≠ nm → fK (K.take (j + 1)) nm = fK (K.take j) nm ++ [p] from fun hne => filt_yes hp (by simp [hne]))
          have HF2 := Lib.hid (show p.1 = nm → fK (K.take (j + 1)) nm = fK (K.take j) nm from fun he => filt_no hp (by simp [he]))
          obtain ⟨M, hL⟩ : ∃ M, fK (K.take j) nm = M := ⟨_, rfl⟩
          rw [hL] at hq hl HF HF2
          obtain ⟨o, hoo⟩ : ∃ o, M.length = o := ⟨_, rfl⟩
          rw [hoo] at hq hl
          have HL := Lib.hid hL
          have HOO := Lib.hid hoo
          have HQ := Lib.hid hq
          have HB := Lib.hid hb
          rw [hL, hoo]
          obtain ⟨pn, pf, pk⟩ := p
          simp only at q0 q1 q2 HF HF2
          clear hq hb hp hx hL hoo hb02
          cases he : (pn.toList == nm.toList) with
          | false =>
            have HF1 := Lib.hid (HF.out (str_ne he))
            have hne : (pn.toList != nm.toList) = true := by rw [bne, he]; rfl
            have HA := Lib.hid (HQ.out.alloc (.cells #[.string pn, .string pf, .int .i64 pk] 103))
            have HBA := Lib.hid (HB.out.alloc HB.out.size (.cells #[.string pn, .string pf, .int .i64 pk] 103))
            have HSRC := Lib.hid (SrcN.of_block (size := 3) (m := 1) (heap_alloc_new w2 (.cells #[.string pn, .string pf, .int .i64 pk] 103)) rfl (by simp [Value.oneCell']) 1)
            have q2' : w2.cell? ⟨g, j * 3 + 1 + 1, none⟩ = some (.int .i64 pk) := by rw [show j * 3 + 1 + 1 = j * 3 + 2 by omega]; exact q2
            clear HF HF2
            go_wp2_with (at_builtin; refine wpList_append_srcN (by rfl) _ _ 85 (by rfl) wr.heap.size 103 i1 y0' 3 40 Try.underlying85 HJ.out HJ0.out HJ1.out HJ2.out HJ3.out (by omega) (.slice ra o rc) o (kiC M) (by rfl) HA.out (.slice (some ⟨w2.heap.size, 0, none⟩) 1 1) 1 [.string pn, .string pf, .int .i64 pk] (by rfl) HSRC.out (by unfold maxLen; omega) (by omega) (by exact HBA.out.size) ?_; intro v8 w8 hr8 hg8 hat8; obtain ⟨a8, c8, rfl⟩ := row_form hr8; have HR8 := Lib.hid hr8; have HG8 := Lib.hid hg8; clear hr8 hg8 hat8)
            go_roundw
            case rel =>
              refine ⟨j + 1, by omega, by go_num, ?_, HBA.out.grown HG8.out HBA.out.size (fun z hz => (HA.out.lt z hz).1)⟩
              have := HR8.out
              rw [show (fun k => fK (K.take k) nm) (j + 1) = M ++ [(pn, pf, pk)] from HF1.out, List.length_append, HOO.out, kiC_snoc]
              exact this
            case measure => simp [intOf]; omega
          | true =>
            have HF1 := Lib.hid (HF2.out (str_eq he))
            have hne : (pn.toList != nm.toList) = false := by rw [bne, he]; rfl
            clear HF HF2
            go_wp2_with fail
            go_roundw
            case rel =>
              refine ⟨j + 1, by omega, by go_num, ?_, HB.out⟩
              rw [show (fun k => fK (K.take k) nm) (j + 1) = M from HF1.out, HOO.out]
              exact HQ.out
            case measure => simp [intOf]; omega
        · have hje : j = m := by omega
          have hall : fK (K.take j) nm = fK K nm := by rw [hje, ← HKN.out, List.take_length]
          rw [hall] at hq
          obtain ⟨FK, hFK⟩ : ∃ FK, fK K nm = FK := ⟨_, rfl⟩
          rw [hFK] at hq
          obtain ⟨o, hoo⟩ : ∃ o, FK.length = o := ⟨_, rfl⟩
          rw [hoo] at hq
          obtain ⟨ra, rc, rfl⟩ := row_form hq
          have HFK := Lib.hid hFK
          have HOO := Lib.hid hoo
          have HQ2 := Lib.hid hq
          have HB2 := Lib.hid hb02
          have HBR := Lib.hid hb
          have hx := (hb02.block x (heap_lt HX.out)).trans HX.out
          have c0 : w2.cell? ⟨x, 0, none⟩ = some (.slice a k c) := by simp [World.cell?, hx]
          have hwr : IntKind.i64.wrap ((k : Int) - (l : Int)) = (k : Int) - (l : Int) := IntWalk.i64_in _ (by omega)
          have c1 : w2.cell? ⟨x, 1, none⟩ = some (.slice b m d) := by simp [World.cell?, hx]
          have z0 : w2.frozen? ⟨x, 0, none⟩ = false := by simp [World.frozen?, hx]
          have z1 : w2.frozen? ⟨x, 1, none⟩ = false := by simp [World.frozen?, hx]
          have hjm' : m ≤ j := by omega
          clear hq hb hlt hall hFK hoo hx hje hb02
          go_wp2_with fail
          go_ret
          refine ⟨?_, ?_⟩
          · rw [HFE.out, HE.out, HLL.out]; rfl
          · rw [HFE.out, HFK.out]
            exact ref_both HH.out HB2.out HLL.out HOO.out (row_later HQ1.out HBR.out) (row_lower HQ2.out HB1.out.size) fun p hp => by
              rw [← HFE.out] at hp
              exact (List.mem_filter.1 hp).1
end Go.Proofs.Ytobcpafalfdpkaa
/- Rows that hold the same are found the same. No condition. -/
namespace Go.Proofs.Ytobcpafalfdpkaa
open Go.RowKit Go.WideMaps Go.Sort
theorem row_63 {w : World} {base n size : Nat} {t : TypeId} {a : Option Addr} {c : Nat} {xs : List Value} (h : w.ownsRow base t size (.slice a n c) n xs) : n < 2 ^ 63 := by
  rcases h.2 with ⟨_, h0⟩ | ⟨g, c', cur, hv, _, _, hle, hmx, _⟩
  · omega
  · unfold maxLen at hmx; omega
set_option maxRecDepth 100000 in
set_option maxHeartbeats 1000000 in
theorem same19 {w : World} {b1 b2 : Nat} {v1 v2 : Value} {U : List BA} (h1 : w.ownsRow b1 9 1 v1 U.length (U.map Value.string)) (h2 : w.ownsRow b2 9 1 v2 U.length (U.map Value.string)) : Calls Try.prog 19 #[v1, v2] w (Answer (.bool true) w) := by
  obtain ⟨n, hn⟩ : ∃ n, U.length = n := ⟨_, rfl⟩
  rw [hn] at h1 h2
  obtain ⟨a1, c1, rfl⟩ := row_form h1
  obtain ⟨a2, c2, rfl⟩ := row_form h2
  have h63 := row_63 h1
  have HU := Lib.hid hn
  have H1 := Lib.hid h1
  have H2 := Lib.hid h2
  clear h1 h2 hn
  go_enter Try.func19, Try.ntmps19
  go_wp2_with fail
  go_loopw [13] (fun i wr => ∃ k q : Nat, k ≤ n ∧ i = .int .i64 k ∧ wr = w.drewN q) (fun i _ => n - (intOf i).toNat)
  case atStart => exact ⟨0, 0, Nat.zero_le _, rfl, rfl⟩
  case round =>
    obtain ⟨k, q, hk, rfl, rfl⟩ := hrel
    by_cases hlt : k < n
    · obtain ⟨t, ht⟩ : ∃ t, U[k]? = some t := ⟨_, List.getElem?_eq_getElem (by rw [HU.out]; exact hlt)⟩
      obtain ⟨g1, rfl, q1⟩ := str_cell H1.out HU.out ht
      obtain ⟨g2, rfl, q2⟩ := str_cell H2.out HU.out ht
      have hi0 : (0 : Int) ≤ (k : Int) := by omega
      have hi1 : (k : Int) < (n : Int) := by omega
      clear ht
      go_wp2_with fail
      go_quiet (fail)
      go_wp2_with fail
      go_roundw
      case rel => exact ⟨k + 1, _, by omega, by go_num, rfl⟩
      case measure => simp [intOf]; omega
    · have hke : k = n := by omega
      clear hke
      go_wp2_with fail
      go_ret
      exact ⟨rfl, below_drewN (Below.refl _ _) _⟩
set_option maxRecDepth 100000 in
set_option maxHeartbeats 1000000 in
theorem same42 {w : World} {b1 b2 : Nat} {v1 v2 : Value} {L1 L2 : List SV} (h1 : w.ownsRow b1 31 2 v1 L1.length (svC L1)) (h2 : w.ownsRow b2 31 2 v2 L2.length (svC L2)) (hs1 : ∀ s ∈ L1, SrIn w s.val s.sr) (hs2 : ∀ s ∈ L2, SrIn w s.val s.sr) (hsr : L1.map (·.sr) = L2.map (·.sr)) :
    Calls Try.prog 42 #[v1, v2] w (Answer (.bool true) w) := by
  have hll : L1.length = L2.length := by
    have := congrArg List.length hsr
    simpa using this
  obtain ⟨n, hn⟩ : ∃ n, L2.length = n := ⟨_, rfl⟩
  rw [hll, hn] at h1
  rw [hn] at h2
  obtain ⟨a1, c1, rfl⟩ := row_form h1
  obtain ⟨a2, c2, rfl⟩ := row_form h2
  have h63 := row_63 h1
  have HU := Lib.hid hn
  have HU1 := Lib.hid (hll.trans hn)
  have H1 := Lib.hid h1
  have H2 := Lib.hid h2
  have HS1 := Lib.hid hs1
  have HS2 := Lib.hid hs2
  have HSR := Lib.hid hsr
  clear h1 h2 hn hs1 hs2 hsr hll
  go_enter Try.func42, Try.ntmps42
  go_wp2_with fail
  go_loopw [13] (fun i wr => ∃ k : Nat, k ≤ n ∧ i = .int .i64 k ∧ Below w.heap.size w wr) (fun i _ => n - (intOf i).toNat)
  case atStart => exact ⟨0, Nat.zero_le _, rfl, Below.refl _ _⟩
  case round =>
    obtain ⟨k, hk, rfl, hb⟩ := hrel
    by_cases hlt : k < n
    · obtain ⟨s, hs⟩ : ∃ s, L1[k]? = some s := ⟨_, List.getElem?_eq_getElem (by rw [HU1.out]; exact hlt)⟩
      obtain ⟨t, ht⟩ : ∃ t, L2[k]? = some t := ⟨_, List.getElem?_eq_getElem (by rw [HU.out]; exact hlt)⟩
      have he : s.sr = t.sr := by
        have := congrArg (fun l => l[k]?) HSR.out
        simp only [List.getElem?_map, hs, ht, Option.map_some, Option.some.injEq] at this
        exact this
      have HB := Lib.hid hb
      obtain ⟨g1, rfl, q0, q1⟩ := sv_cell (row_later H1.out hb) HU1.out hs
      obtain ⟨g2, rfl, r0, r1⟩ := sv_cell (row_later H2.out hb) HU.out ht
      have hi1 := ((HS1.out s (List.mem_of_getElem? hs)).later hb).later (Below.refl _ _).drew
      have hi2 := ((HS2.out t (List.mem_of_getElem? ht)).later hb).later (Below.refl _ _).drew
      have hsame := same27 hi1 (by rw [he]; exact hi2)
      have hv1 : s.val = .agg #[.string s.sr.name, s.sl] := rfl
      have hv2 : t.val = .agg #[.string t.sr.name, t.sl] := rfl
      rw [hv1, hv2] at hsame
      obtain ⟨sn, hsn⟩ : ∃ sn, s.sr.name = sn := ⟨_, rfl⟩
      obtain ⟨tn, htn⟩ : ∃ tn, t.sr.name = tn := ⟨_, rfl⟩
      obtain ⟨sa, sm, sc, hsl⟩ : ∃ a n c, s.sl = .slice a n c := ⟨_, _, _, rfl⟩
      obtain ⟨ta, tm, tc, htl⟩ : ∃ a n c, t.sl = .slice a n c := ⟨_, _, _, rfl⟩
      rw [hsn] at q0 hsame
      rw [htn] at r0 hsame
      rw [hsl] at q1 hsame
      rw [htl] at r1 hsame
      have HSM := Lib.hid hsame
      have hp0 : (0 : Int) ≤ (k : Int) := by omega
      have hp1 : (k : Int) < (n : Int) := by omega
      clear hs ht he hb hi1 hi2 hsame hv1 hv2 hsn htn hsl htl
      go_wp2_with fail
      go_still_tail 8, (by kernel_rfl)
      change wpList _ _ _ _ _ wr.drew
      obtain ⟨wd, hwd⟩ : ∃ wd, wr.drew = wd := ⟨_, rfl⟩
      have HBD := Lib.hid (show Below w.heap.size w wd by rw [← hwd]; exact HB.out.drew)
      rw [hwd] at HSM ⊢
      clear hwd q0 q1 r0 r1
      go_wp2_with fail
      refine HSM.out.mono ?_
      rintro e w4 ⟨rfl, hb4⟩
      have HB4 := Lib.hid (HBD.out.trans (hb4.mono HBD.out.size))
      clear hb4
      go_wp2_with fail
      go_roundw
      case rel => exact ⟨k + 1, by omega, by go_num, HB4.out⟩
      case measure => simp [intOf]; omega
    · have hke : k = n := by omega
      have HB := Lib.hid hb
      clear hke hb
      go_wp2_with fail
      go_ret
      exact ⟨rfl, HB.out⟩
end Go.Proofs.Ytobcpafalfdpkaa
