/- A series that came in is read; the walks of SeriesTexts and SeriesApart. Condition of the first: the bulk that its row takes. -/
import Derived.Test.YthiniiemhifcoaaInj
import Derived.Lib.SmallJoins
import Derived.Deep.Slices
namespace Go.Proofs.Ythiniiemhifcoaa
open Go.RowKit Go.Sort Go.Deep Go.WideShapes Go.ChangeShapes Go.Joins
open Go.ChangeMaps (open_string)
theorem cells34 : Try.prog.cellsOf 34 = 2 := by kernel_rfl
theorem cells24 : Try.prog.cellsOf 24 = 2 := by kernel_rfl
theorem cells9 : Try.prog.cellsOf 9 = 1 := by kernel_rfl
theorem cell_lt {w : World} {a : Addr} {v : Value} (h : w.cell? a = some v) : a.block < w.heap.size := World.block_lt_of_cell? w _ h
theorem tags_open {H : Type} {enc : TypeId × Value → H} {W : World} {fuel : Nat} {a : Option Addr} {n cap : Nat} {x : DataW H × List MemPlace} (hf : DataW.trod enc Try.prog W 0 (fun _ => true) true fuel 22 [.slice a n cap] = some x) :
    ∃ kf vf, n < 2 ^ 63 ∧ TagsAt W a n kf vf ∧ ∀ i, (kf i).size ≤ maxLen ∧ (vf i).size ≤ maxLen := by
  rcases open_slice Try.underlying22 hf with ⟨hcs, _⟩ | ⟨b, l, c, m, k, D, Pl, hcs, _, hl, hm, hmm, hd, hx⟩
  · simp at hcs
    obtain ⟨rfl, rfl, rfl⟩ := hcs
    exact ⟨fun _ => ⟨#[]⟩, fun _ => ⟨#[]⟩, by omega, fun i hi => absurd hi (by omega), fun i => ⟨Nat.zero_le _, Nat.zero_le _⟩⟩
  · simp at hcs
    obtain ⟨rfl, rfl, rfl⟩ := hcs
    simp only [if_true] at hmm
    subst hmm
    have hy : ∀ i, i < m → ∃ z : ByteArray × ByteArray, (z.1.size ≤ maxLen ∧ z.2.size ≤ maxLen) ∧ W.cell? (b.add (i * 2)) = some (.string z.1) ∧ W.cell? (b.add (i * 2 + 1)) = some (.string z.2) := by
      intro i hi
      obtain ⟨cs', h1, h2⟩ := hx i hi
      rw [cells34] at h1
      obtain ⟨_, hcl, hcell⟩ := World.cells?_some h1
      obtain ⟨y0, y1, k, _, _, e0, e1⟩ := trod_struct2 Try.underlying34 h2
      simp only [cells9] at e0 e1
      obtain ⟨z, g1, _, g3⟩ := DataW.trod_string Try.underlying9 e0
      obtain ⟨t, g4, _, g6⟩ := DataW.trod_string Try.underlying9 e1
      match cs', hcl with
      | [c0, c1], _ =>
        simp at g1 g4
        subst g1 g4
        refine ⟨(z, t), ⟨g3, g6⟩, ?_, ?_⟩
        · have := hcell 0 (by omega); rw [add_add] at this; simpa using this
        · have := hcell 1 (by omega); rw [add_add] at this; simpa using this
    haveI : Inhabited (ByteArray × ByteArray) := ⟨(⟨#[]⟩, ⟨#[]⟩)⟩
    obtain ⟨f, hf'⟩ := choose_lt hy
    unfold maxLen at hm
    refine ⟨fun i => if i < m then (f i).1 else ⟨#[]⟩, fun i => if i < m then (f i).2 else ⟨#[]⟩, by omega, ?_, ?_⟩
    · intro i hi
      obtain ⟨_, h1, h2⟩ := hf' i (by omega)
      have hsp : b.spot = none := World.cell?_spot (by have := (hf' 0 (by omega)).2.1; simpa [Addr.add] using this)
      obtain ⟨bb, off, spot⟩ := b
      simp only at hsp
      subst hsp
      have hb := cell_lt h1
      refine ⟨bb, off, rfl, ?_, ?_, ?_⟩
      · unfold Addr.add at hb; split at hb <;> exact hb
      · dsimp only; rw [if_pos (by omega), ← h1]
        congr 1
        unfold Addr.add
        split <;> simp_all
      · dsimp only; rw [if_pos (by omega), ← h2]
        congr 1
    · intro i
      dsimp only
      split
      · rename_i h; exact (hf' i h).1
      · exact ⟨Nat.zero_le _, Nat.zero_le _⟩
theorem series_open {H : Type} {enc : TypeId × Value → H} {W : World} {base : Nat} {v : Value} {d : DataW H} {p : List MemPlace} (h : DataW.Trod enc Try.prog W 0 (fun _ => true) true 24 v d p) (o : Value.okWide Try.prog W .any base 24 v) :
    ∃ name a n cap kf vf, v = .agg #[.string name, .slice a n cap] ∧ name.size ≤ maxLen ∧ n < 2 ^ 63 ∧ TagsAt W a n kf vf ∧ ∀ i, (kf i).size ≤ maxLen ∧ (vf i).size ≤ maxLen := by
  obtain ⟨v0, v1, y0, y1, m, rfl, _, _, h0, h1⟩ := open_agg2 Try.underlying24 (by kernel_rfl) cells24 o h
  obtain ⟨name, e0, _, hn⟩ := DataW.trod_string Try.underlying9 h0
  obtain ⟨a, n, cap, e1⟩ := slice_form Try.underlying22 h1
  simp at e0 e1
  subst e0 e1
  obtain ⟨kf, vf, hn', ht, hs⟩ := tags_open h1
  exact ⟨name, a, n, cap, kf, vf, rfl, hn, hn', ht, hs⟩
theorem seriesApart_walk (H : Type) (enc : TypeId × Value → H) (W : World) (base : Nat) (v0 v1 : Value) (d0 d1 : DataW H) (p0 p1 : List MemPlace) (h0 : DataW.Trod enc Try.prog W 0 (fun _ => true) true 24 v0 d0 p0) (o0 : Value.okWide Try.prog W .any base 24 v0) (h1 : DataW.Trod enc Try.prog W 0 (fun _ => true) true 24 v1 d1 p1) (o1 : Value.okWide Try.prog W .any base 24 v1) :
    Calls Try.prog 4 #[v0, v1] W fun e w' => e = .returned (.bool true) ∧ Below W.heap.size W w' := by
  obtain ⟨na, a, n, cap, kf, vf, rfl, hna, hn, hta, hsa⟩ := series_open h0 o0
  obtain ⟨nb, b, m, cbp, kg, vg, rfl, hnb, hm, htb, hsb⟩ := series_open h1 o1
  have HTA := Lib.hid hta
  have HTB := Lib.hid htb
  have HSA := Lib.hid hsa
  have HSB := Lib.hid hsb
  clear h0 o0 h1 o1 hta htb hsa hsb
  go_enter Try.func4, Try.ntmps4
  go_wp2_with fail
  refine (awake _).mono ?_
  rintro e w1 ⟨rfl, hb⟩
  have k0 : w1.cell? ⟨W.heap.size, 0, none⟩ = some (.string na) := (hb.cell (by simp; omega)).trans (by simp)
  have k1 : w1.cell? ⟨W.heap.size, 1, none⟩ = some (.slice a n cap) := (hb.cell (by simp; omega)).trans (by simp)
  have k2 : w1.cell? ⟨W.heap.size + 1, 0, none⟩ = some (.string nb) := (hb.cell (by simp)).trans (by simp)
  have k3 : w1.cell? ⟨W.heap.size + 1, 1, none⟩ = some (.slice b m cbp) := (hb.cell (by simp)).trans (by simp)
  have hsz : W.heap.size + 1 < w1.heap.size := by have := hb.size; simp at this; omega
  have hb1 : Below W.heap.size W w1 := (((Below.refl _ _).alloc (Nat.le_refl _) _).alloc (by simp) _).trans (hb.mono (by simp; omega))
  have HB1 := Lib.hid hb1
  clear hb hb1
  go_wp2_with fail
  refine (text na a n cap kf vf w1 hn hna HSA.out (by exact HTA.out.later HB1.out)).mono ?_
  rintro e w2 ⟨rfl, hb⟩
  have l0 : w2.cell? ⟨W.heap.size, 0, none⟩ = some (.string na) := (hb.cell (by simp; omega)).trans k0
  have l1 : w2.cell? ⟨W.heap.size, 1, none⟩ = some (.slice a n cap) := (hb.cell (by simp; omega)).trans k1
  have l2 : w2.cell? ⟨W.heap.size + 1, 0, none⟩ = some (.string nb) := (hb.cell (by simp; omega)).trans k2
  have l3 : w2.cell? ⟨W.heap.size + 1, 1, none⟩ = some (.slice b m cbp) := (hb.cell (by simp; omega)).trans k3
  have hsz2 : W.heap.size + 1 < w2.heap.size := Nat.lt_of_lt_of_le hsz hb.size
  have hb1 : Below W.heap.size W w2 := HB1.out.trans (hb.mono (by omega))
  have HB2 := Lib.hid hb1
  clear hb hb1 k0 k1 k2 k3 hsz
  go_wp2_with fail
  refine (text nb b m cbp kg vg w2 hm hnb HSB.out (by exact HTB.out.later HB2.out)).mono ?_
  rintro e w3 ⟨rfl, hb⟩
  have k0 : w3.cell? ⟨W.heap.size, 0, none⟩ = some (.string na) := (hb.cell (by simp; omega)).trans l0
  have k1 : w3.cell? ⟨W.heap.size, 1, none⟩ = some (.slice a n cap) := (hb.cell (by simp; omega)).trans l1
  have k2 : w3.cell? ⟨W.heap.size + 1, 0, none⟩ = some (.string nb) := (hb.cell (by simp; omega)).trans l2
  have k3 : w3.cell? ⟨W.heap.size + 1, 1, none⟩ = some (.slice b m cbp) := (hb.cell (by simp; omega)).trans l3
  have hsz3 : W.heap.size + 1 < w3.heap.size := Nat.lt_of_lt_of_le hsz2 hb.size
  have hb1 : Below W.heap.size W w3 := HB2.out.trans (hb.mono (by omega))
  have HB3 := Lib.hid hb1
  clear hb hb1 l0 l1 l2 l3 hsz2
  cases fa : formedB na n kf vf with
  | false =>
    have ea : (textB na n kf vf).2 = 1 := by simp [textB, fa]
    clear fa
    go_wp2_with fail
    go_ret
    exact ⟨rfl, HB3.out⟩
  | true =>
    have ea : (textB na n kf vf).2 = 0 := by simp [textB, fa]
    have HFA := Lib.hid (show (textB na n kf vf).1.toList = textTo na kf vf n by simp [textB, fa])
    clear fa
    cases fb : formedB nb m kg vg with
    | false =>
      have eb : (textB nb m kg vg).2 = 1 := by simp [textB, fb]
      clear fb
      go_wp2_with fail
      go_ret
      exact ⟨rfl, HB3.out⟩
    | true =>
      have eb : (textB nb m kg vg).2 = 0 := by simp [textB, fb]
      have HFB := Lib.hid (show (textB nb m kg vg).1.toList = textTo nb kg vg m by simp [textB, fb])
      clear fb
      have hq : ((textB na n kf vf).1.toList == (textB nb m kg vg).1.toList) = sameB na nb n m kf vf kg vg := by
        rw [HFA.out, HFB.out, Bool.eq_iff_iff, beq_iff_eq]
        exact ⟨same_of_text, text_of_same⟩
      cases hs : sameB na nb n m kf vf kg vg with
      | false =>
        rw [hs] at hq
        have HS := Lib.hid hs
        clear hs
        go_wp2_with fail
        refine (same na nb a b n m cap cbp kf vf kg vg w3 hn (by exact HTA.out.later HB3.out) (by exact HTB.out.later HB3.out)).mono ?_
        rw [HS.out]
        rintro e w4 ⟨rfl, hb⟩
        have HB4 := Lib.hid hb
        clear hb
        go_wp2_with fail
        go_ret
        exact ⟨rfl, HB3.out.trans (HB4.out.mono (by omega))⟩
      | true =>
        rw [hs] at hq
        have HS := Lib.hid hs
        clear hs
        go_wp2_with fail
        refine (same na nb a b n m cap cbp kf vf kg vg w3 hn (by exact HTA.out.later HB3.out) (by exact HTB.out.later HB3.out)).mono ?_
        rw [HS.out]
        rintro e w4 ⟨rfl, hb⟩
        have HB4 := Lib.hid hb
        clear hb
        go_wp2_with fail
        go_ret
        exact ⟨rfl, HB3.out.trans (HB4.out.mono (by omega))⟩
end Go.Proofs.Ythiniiemhifcoaa
