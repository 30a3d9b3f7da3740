/- A series that came in is read; the walks of SeriesTexts and SeriesApart. Condition of the first: the bulk that its row takes. -/
import Derived.Test.YtobcpafalfdpkaaInj
import Derived.Lib.SmallJoins
import Derived.Deep.Slices
namespace Go.Proofs.Ytobcpafalfdpkaa
open Go.RowKit Go.Sort Go.Deep Go.WideShapes Go.ChangeShapes Go.Joins
open Go.ChangeMaps (open_string)
theorem cells51 : Try.prog.cellsOf 51 = 2 := by kernel_rfl
theorem cells31 : Try.prog.cellsOf 31 = 2 := by kernel_rfl
theorem cells9 : Try.prog.cellsOf 9 = 1 := by kernel_rfl
theorem cell_lt {w : World} {a : Addr} {v : Value} (h : w.cell? a = some v) : a.block < w.heap.size := World.block_lt_of_cell? w _ h
theorem tags_open {H : Type} {enc : TypeId × Value → H} {W : World} {fuel : Nat} {a : Option Addr} {n cap : Nat} {x : DataW H × List MemPlace} (hf : DataW.trod enc Try.prog W 0 (fun _ => true) true fuel 29 [.slice a n cap] = some x) :
    ∃ kf vf, n < 2 ^ 63 ∧ TagsAt W a n kf vf ∧ ∀ i, (kf i).size ≤ maxLen ∧ (vf i).size ≤ maxLen := by
  rcases open_slice Try.underlying29 hf with ⟨hcs, _⟩ | ⟨b, l, c, m, k, D, Pl, hcs, _, hl, hm, hmm, hd, hx⟩
  · simp at hcs
    obtain ⟨rfl, rfl, rfl⟩ := hcs
    exact ⟨fun _ => ⟨#[]⟩, fun _ => ⟨#[]⟩, by omega, fun i hi => absurd hi (by omega), fun i => ⟨Nat.zero_le _, Nat.zero_le _⟩⟩
  · simp at hcs
    obtain ⟨rfl, rfl, rfl⟩ := hcs
    simp only [if_true] at hmm
    subst hmm
    have hy : ∀ i, i < m → ∃ z : ByteArray × ByteArray, (z.1.size ≤ maxLen ∧ z.2.size ≤ maxLen) ∧ W.cell? (b.add (i * 2)) = some (.string z.1) ∧ W.cell? (b.add (i * 2 + 1)) = some (.string z.2) := by
      intro i hi
      obtain ⟨cs', h1, h2⟩ := hx i hi
      rw [cells51] at h1
      obtain ⟨_, hcl, hcell⟩ := World.cells?_some h1
      obtain ⟨y0, y1, k, _, _, e0, e1⟩ := trod_struct2 Try.underlying51 h2
      simp only [cells9] at e0 e1
      obtain ⟨z, g1, _, g3⟩ := DataW.trod_string Try.underlying9 e0
      obtain ⟨t, g4, _, g6⟩ := DataW.trod_string Try.underlying9 e1
      match cs', hcl with
      | [c0, c1], _ =>
        simp at g1 g4
        subst g1 g4
        refine ⟨(z, t), ⟨g3, g6⟩, ?_, ?_⟩
        · have := hcell 0 (by omega); rw [add_add] at this; simpa using this
        · have := hcell 1 (by omega); rw [add_add] at this; simpa using this
    haveI : Inhabited (ByteArray × ByteArray) := ⟨(⟨#[]⟩, ⟨#[]⟩)⟩
    obtain ⟨f, hf'⟩ := choose_lt hy
    unfold maxLen at hm
    refine ⟨fun i => if i < m then (f i).1 else ⟨#[]⟩, fun i => if i < m then (f i).2 else ⟨#[]⟩, by omega, ?_, ?_⟩
    · intro i hi
      obtain ⟨_, h1, h2⟩ := hf' i (by omega)
      have hsp : b.spot = none := World.cell?_spot (by have := (hf' 0 (by omega)).2.1; simpa [Addr.add] using this)
      obtain ⟨bb, off, spot⟩ := b
      simp only at hsp
      subst hsp
      have hb := cell_lt h1
      refine ⟨bb, off, rfl, ?_, ?_, ?_⟩
      · unfold Addr.add at hb; split at hb <;> exact hb
      · dsimp only; rw [if_pos (by omega), ← h1]
        congr 1
        unfold Addr.add
        split <;> simp_all
      · dsimp only; rw [if_pos (by omega), ← h2]
        congr 1
    · intro i
      dsimp only
      split
      · rename_i h; exact (hf' i h).1
      · exact ⟨Nat.zero_le _, Nat.zero_le _⟩
set_option maxRecDepth 100000 in
theorem series_open {H : Type} {enc : TypeId × Value → H} {W : World} {base : Nat} {v : Value} {d : DataW H} {p : List MemPlace} (h : DataW.Trod enc Try.prog W 0 (fun _ => true) true 31 v d p) (o : Value.okWide Try.prog W .any base 31 v) :
    ∃ name a n cap kf vf, v = .agg #[.string name, .slice a n cap] ∧ name.size ≤ maxLen ∧ n < 2 ^ 63 ∧ TagsAt W a n kf vf ∧ ∀ i, (kf i).size ≤ maxLen ∧ (vf i).size ≤ maxLen := by
  obtain ⟨v0, v1, y0, y1, m, rfl, _, _, h0, h1⟩ := open_agg2 Try.underlying31 (by kernel_rfl) cells31 o h
  obtain ⟨name, e0, _, hn⟩ := DataW.trod_string Try.underlying9 h0
  obtain ⟨a, n, cap, e1⟩ := slice_form Try.underlying29 h1
  simp at e0 e1
  subst e0 e1
  obtain ⟨kf, vf, hn', ht, hs⟩ := tags_open h1
  exact ⟨name, a, n, cap, kf, vf, rfl, hn, hn', ht, hs⟩
end Go.Proofs.Ytobcpafalfdpkaa
