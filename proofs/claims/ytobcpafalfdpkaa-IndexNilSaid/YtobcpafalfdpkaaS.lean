/- A series' copy; the series of texts. Condition: the bounds. -/
import Derived.Test.YtobcpafalfdpkaaR
namespace Go.Proofs.Ytobcpafalfdpkaa
open Go.RowKit Go.WideMaps Go.Sort
def SV.sl (s : SV) : Value := .slice (adr s.a) s.sr.tags.length s.c
/-- A series whose tags lie in a row of one's own. -/
structure SerO (base : Nat) (w : World) (s : SV) : Prop where
  row : w.ownsRow base 51 2 s.sl s.sr.tags.length (tgC s.sr.tags)
  name : s.sr.name.size ≤ maxLen
  sizes : ∀ p ∈ s.sr.tags, p.1.size ≤ maxLen ∧ p.2.size ≤ maxLen
theorem row_later {w w' : World} {base n size : Nat} {e : TypeId} {v : Value} {xs : List Value} (h : w.ownsRow base e size v n xs) (hb : Below w.heap.size w w') : w'.ownsRow base e size v n xs :=
  ownsRow_same h fun g hg => hb.block g (h.lt g hg).2
theorem row_lower {w : World} {b b' n size : Nat} {t : TypeId} {v : Value} {xs : List Value} (h : w.ownsRow b t size v n xs) (hb : b' ≤ b) : w.ownsRow b' t size v n xs := by
  refine ⟨h.1, ?_⟩
  rcases h.2 with hh | ⟨g', c, cur, hh, h1, hrest⟩
  · exact .inl hh
  · exact .inr ⟨g', c, cur, hh, Nat.le_trans hb h1, hrest⟩
theorem row_form {w : World} {base n size : Nat} {t : TypeId} {v : Value} {xs : List Value} (h : w.ownsRow base t size v n xs) : ∃ a c, v = .slice a n c := by
  rcases h.2 with ⟨h1, h2⟩ | ⟨g, c, cur, h1, _⟩
  · exact ⟨none, 0, by rw [h1, h2]⟩
  · exact ⟨_, c, h1⟩
theorem row_cellsB {w : World} {b n size g : Nat} {t : TypeId} {v : Value} {xs : List Value} (h : w.ownsRow b t size v n xs) (hg : v.ownBlock = some g) : ∃ cur, w.heap[g]? = some (.cells cur t (0, 0)) := by
  rcases h.2 with ⟨rfl, _⟩ | ⟨g', c, cur, rfl, _, h2, _⟩
  · cases hg
  · cases hg; exact ⟨cur, h2⟩
theorem types_apart {w : World} {b b' n n' z z' : Nat} {t t' : TypeId} {u v : Value} {xs ys : List Value} (hu : w.ownsRow b t z u n xs) (hv : w.ownsRow b' t' z' v n' ys) (ht : t ≠ t') {k : Nat} (hk : u.ownBlock = some k) : v.ownBlock ≠ some k := fun e => by
  obtain ⟨c1, h1⟩ := row_cellsB hu hk
  obtain ⟨c2, h2⟩ := row_cellsB hv e
  rw [h1] at h2
  simp at h2
  exact ht h2.2
theorem SerO.later {base : Nat} {w w' : World} {s : SV} (h : SerO base w s) (hb : Below w.heap.size w w') : SerO base w' s := ⟨row_later h.row hb, h.name, h.sizes⟩
theorem SerO.parts {base : Nat} {w : World} {s : SV} (h : SerO base w s) : TagsAt w (adr s.a) s.sr.tags.length s.sr.kf s.sr.vf ∧ (s.a = none → s.c = 0) ∧ s.sr.tags.length ≤ maxLen := by
  refine ⟨fun i hi => ?_, fun e => ?_, ?_⟩
  · rcases h.row.2 with ⟨_, h0⟩ | ⟨g, c, cur, hv, _⟩
    · omega
    · have hr := h.row
      rw [hv] at hr
      have ha : adr s.a = some ⟨g, 0, none⟩ := by injection hv
      have hg : s.sr.tags[i]? = some s.sr.tags[i] := List.getElem?_eq_getElem hi
      obtain ⟨e1, e2⟩ := kf_get hg
      have key : ∀ k, k < 2 → w.cell? ⟨g, 0 + i * 2 + k, none⟩ = (tgV s.sr.tags[i])[k]? := fun k hk => by
        rw [Nat.zero_add, hr.cellAt (i * 2 + k) (by omega)]
        exact flat_at tgV 2 (fun _ => rfl) s.sr.tags i k _ hg hk
      exact ⟨g, 0, ha, (hr.lt g rfl).2, by rw [e1]; exact key 0 (by omega), by rw [e2]; exact key 1 (by omega)⟩
  · rcases h.row.2 with ⟨hv, _⟩ | ⟨g, c, cur, hv, _⟩
    · unfold SV.sl at hv
      injection hv with _ _ e3
    · unfold SV.sl adr at hv
      rw [e] at hv
      injection hv with e1
      cases e1
  · rcases h.row.2 with ⟨_, h0⟩ | ⟨g, c, cur, hv, _, _, hle, hmx, _⟩
    · rw [h0]; exact Nat.zero_le _
    · omega
theorem SerO.sr {base : Nat} {w : World} {s : SV} (h : SerO base w s) : SrIn w s.val s.sr := by
  obtain ⟨h1, h2, h3⟩ := h.parts
  exact ⟨adr s.a, s.c, rfl, fun e => h2 (by unfold adr at e; cases ha : s.a with | none => rfl | some p => rw [ha] at e; cases e), by unfold maxLen at h3; omega, h1, h.name, h.sizes⟩
theorem SerO.at {base : Nat} {w : World} {s : SV} (h : SerO base w s) (hf : s.sr.tags.length ≤ 8) : SerAt w s := ⟨h.parts.1, h.name, h.sizes, h.parts.2.1, hf⟩
theorem SerO.own {base : Nat} {w : World} {s : SV} (h : SerO base w s) {b o : Nat} (ha : s.a = some (b, o)) : s.sl.ownBlock = some b := by
  rcases h.row.2 with ⟨hv, _⟩ | ⟨g, c, cur, hv, _⟩
  · unfold SV.sl adr at hv
    rw [ha] at hv
    injection hv with e1
    cases e1
  · rw [hv]
    unfold SV.sl adr at hv
    rw [ha] at hv
    injection hv with e1
    simp at e1
    rw [← e1.1]; rfl
/-- An owned row of tags, as a series. -/
theorem serO_of {base : Nat} {w : World} {a : Option Addr} {c : Nat} {s : Sr} (h : w.ownsRow base 51 2 (.slice a s.tags.length c) s.tags.length (tgC s.tags)) (hn : s.name.size ≤ maxLen) (hs : ∀ p ∈ s.tags, p.1.size ≤ maxLen ∧ p.2.size ≤ maxLen) : ∃ sv : SV, sv.sr = s ∧ .slice a s.tags.length c = sv.sl ∧ SerO base w sv := by
  rcases h.2 with ⟨hv, h0⟩ | ⟨g, c', cur, hv, _⟩
  · injection hv with e1 e2 e3
    subst e1 e3
    exact ⟨⟨s, none, 0⟩, rfl, rfl, ⟨h, hn, hs⟩⟩
  · injection hv with e1 e2 e3
    subst e1 e3
    exact ⟨⟨s, some (g, 0), c⟩, rfl, rfl, ⟨h, hn, hs⟩⟩
theorem info31 : (Try.prog.info? 31).map (·.size) = some 2 := by kernel_rfl
def ClonePost (w : World) (s : Sr) (e : Ending) (w' : World) : Prop := ∃ sv : SV, e = .returned sv.val ∧ sv.sr = s ∧ SerO w.heap.size w' sv ∧ Below w.heap.size w w'
set_option maxRecDepth 100000 in
theorem clone30 {w : World} {v : Value} {s : Sr} (h : SrIn w v s) (hT : s.tags.length ≤ 4398046511104) : Calls Try.prog 30 #[v] w (ClonePost w s) := by
  obtain ⟨a, c, rfl, h0, hsrc⟩ := h.src
  obtain ⟨_, _, _, _, _, _, hnm, hsz⟩ := h
  obtain ⟨n, hn⟩ : ∃ n, s.tags.length = n := ⟨_, rfl⟩
  rw [hn] at hsrc hT ⊢
  have hb1 := (Below.refl w.heap.size w).alloc (Nat.le_refl _) (.cells #[.string s.name, .slice a n c] 31)
  have hx1 := heap_alloc_new w (.cells #[.string s.name, .slice a n c] 31)
  obtain ⟨w1, hw1⟩ : ∃ w1, w.alloc (.cells #[.string s.name, .slice a n c] 31) = w1 := ⟨_, rfl⟩
  have hs1 : w1.heap.size = w.heap.size + 1 := by rw [← hw1]; simp
  rw [hw1] at hb1 hx1
  have hb2 := hb1.alloc hb1.size (.cells #[.string ⟨#[]⟩, .slice none 0 0] 31)
  have hx2 := (heap_alloc_old w1 (.cells #[.string ⟨#[]⟩, .slice none 0 0] 31) (show w.heap.size < w1.heap.size by omega)).trans hx1
  have hy2 := heap_alloc_new w1 (.cells #[.string ⟨#[]⟩, .slice none 0 0] 31)
  obtain ⟨w2, hw2⟩ : ∃ w2, w1.alloc (.cells #[.string ⟨#[]⟩, .slice none 0 0] 31) = w2 := ⟨_, rfl⟩
  have hs2 : w2.heap.size = w1.heap.size + 1 := by rw [← hw2]; simp
  rw [hw2] at hb2 hx2 hy2
  obtain ⟨xb, hxb⟩ : ∃ xb, w.heap.size = xb := ⟨_, rfl⟩
  obtain ⟨yb, hyb⟩ : ∃ yb, w1.heap.size = yb := ⟨_, rfl⟩
  rw [hxb] at hx1 hx2
  rw [hyb] at hy2
  have x0 : w2.cell? ⟨xb, 0, none⟩ = some (.string s.name) := by simp [World.cell?, hx2]
  have x1 : w2.cell? ⟨xb, 1, none⟩ = some (.slice a n c) := by simp [World.cell?, hx2]
  have HC := Lib.hid (clone56 w2 a n c s.tags hn h0 (hsrc.later (by rw [hxb] at hb2 ⊢; exact hb2)) hT)
  have HX2 := Lib.hid hx2
  have HY2 := Lib.hid hy2
  have HB2 := Lib.hid hb2
  have HSZ := Lib.hid (show xb < w2.heap.size ∧ yb < w2.heap.size ∧ xb ≠ yb ∧ w.heap.size ≤ xb ∧ w.heap.size ≤ yb by omega)
  have HNM := Lib.hid hnm
  have HTS := Lib.hid hsz
  have HN := Lib.hid hn
  clear h0 hsrc hnm hsz hn hT hb1 hx1 hs1 hb2 hx2 hy2 hs2
  go_enter Try.func30, Try.ntmps30
  go_wp2_with fail
  clear hw1 hw2 hxb hyb x0 x1
  refine HC.out.mono ?_
  rintro e w3 ⟨a3, c3, rfl, hr3, hb3⟩
  have hx3 := (hb3.block xb HSZ.out.1).trans HX2.out
  have hy3 := (hb3.block yb HSZ.out.2.1).trans HY2.out
  have x0 : w3.cell? ⟨xb, 0, none⟩ = some (.string s.name) := by simp [World.cell?, hx3]
  have x1 : w3.cell? ⟨xb, 1, none⟩ = some (.slice a n c) := by simp [World.cell?, hx3]
  have z1 : w3.frozen? ⟨xb, 1, none⟩ = false := by simp [World.frozen?, hx3]
  have hx4 := heap_setCell_same w3 xb 1 _ _ (.slice a3 n c3) hx3
  have hy4 := (Below.heap_setCell w3 ⟨xb, 1, none⟩ (.slice a3 n c3) yb (Ne.symm HSZ.out.2.2.1)).trans hy3
  obtain ⟨w4, hw4⟩ : ∃ w4, w3.setCell ⟨xb, 1, none⟩ (.slice a3 n c3) = w4 := ⟨_, rfl⟩
  have ho4 : OnlyD xb w3 w4 := by rw [← hw4]; exact onlyD_set _ _ _ _
  rw [hw4] at hx4 hy4
  have k0 : w4.cell? ⟨xb, 0, none⟩ = some (.string s.name) := by simp [World.cell?, hx4]
  have k1 : w4.cell? ⟨xb, 1, none⟩ = some (.slice a3 n c3) := by simp [World.cell?, hx4]
  have y0 : w4.cell? ⟨yb, 0, none⟩ = some (.string ⟨#[]⟩) := by simp [World.cell?, hy4]
  have y1 : w4.cell? ⟨yb, 1, none⟩ = some (.slice none 0 0) := by simp [World.cell?, hy4]
  have u0 : w4.frozen? ⟨yb, 0, none⟩ = false := by simp [World.frozen?, hy4]
  have u1 : w4.frozen? ⟨yb, 1, none⟩ = false := by simp [World.frozen?, hy4]
  have HR3 := Lib.hid hr3
  have HB3 := Lib.hid (HB2.out.trans (hb3.mono HB2.out.size))
  have HS3 := Lib.hid hb3.size
  have HO4 := Lib.hid ho4
  have HY4 := Lib.hid hy4
  clear hr3 hb3 hx3 hy3 hx4 hy4 ho4
  go_wp2_with fail
  have e1 := heap_setCell_same w4 yb 0 _ _ (.string s.name) HY4.out
  have e2 := heap_setCell_same _ yb 1 _ _ (.slice a3 n c3) e1
  have ho5 : OnlyD yb w4 ((w4.setCell ⟨yb, 0, none⟩ (.string s.name)).setCell ⟨yb, 1, none⟩ (.slice a3 n c3)) := (onlyD_set _ _ _ _).trans (onlyD_set _ _ _ _)
  obtain ⟨w5, hw5⟩ : ∃ w5, (w4.setCell ⟨yb, 0, none⟩ (.string s.name)).setCell ⟨yb, 1, none⟩ (.slice a3 n c3) = w5 := ⟨_, rfl⟩
  rw [hw5] at e2 ho5 ⊢
  refine bodyPost_ret (results_cell_row rfl _ _ yb 31 _ (0, 0) _ rfl e2 Try.underlying31 (by kernel_rfl) info31) rfl ?_
  have hr3 := HR3.out
  have hr5 : w5.ownsRow w.heap.size 51 2 (.slice a3 s.tags.length c3) s.tags.length (tgC s.tags) := by
    rw [HN.out]
    refine row_lower (ownsRow_same hr3 fun g hg => ?_) HB2.out.size
    have hlt := (hr3.lt g hg).1
    have := HSZ.out
    rw [ho5.2.2.2.2 g (by omega), HO4.out.2.2.2.2 g (by omega)]
  obtain ⟨sv, rfl, hsl, hso⟩ := serO_of hr5 HNM.out HTS.out
  have hb5 : Below w.heap.size w w5 := by
    have hb := HB3.out
    refine ⟨?_, ?_, ?_, ?_, fun q hq => ?_⟩
    · rw [ho5.1, HO4.out.1]; exact hb.os
    · rw [ho5.2.1, HO4.out.2.1]; exact hb.tape
    · rw [ho5.2.2.1, HO4.out.2.2.1]; exact hb.output
    · rw [ho5.2.2.2.1, HO4.out.2.2.2.1]; exact hb.size
    · have := HSZ.out
      rw [ho5.2.2.2.2 q (by omega), HO4.out.2.2.2.2 q (by omega)]
      exact hb.block q hq
  refine ⟨sv, ?_, rfl, hso, hb5⟩
  unfold SV.val
  unfold SV.sl at hsl
  rw [HN.out] at hsl
  rw [HN.out, ← hsl]
  rfl
end Go.Proofs.Ytobcpafalfdpkaa
