/- The document's index in memory; its small readers. Condition: the bounds. -/
import Derived.Test.YtobcpafalfdpkaaBB
namespace Go.Proofs.Ytobcpafalfdpkaa
open Go.RowKit Go.WideMaps Go.Sort
def enV (p : BA × SV) : List Value := [.string p.1, .string p.2.sr.name, p.2.sl]
def enC (E : List (BA × SV)) : List Value := E.flatMap enV
def kiV (p : BA × BA × Int) : List Value := [.string p.1, .string p.2.1, .int .i64 p.2.2]
def kiC (K : List (BA × BA × Int)) : List Value := K.flatMap kiV
theorem flat_one {α : Type} (f : α → List Value) (hf : ∀ x, ∀ u ∈ f x, u.oneCell' = true) (L : List α) : ∀ u ∈ L.flatMap f, u.oneCell' = true := fun u hu => by
  obtain ⟨x, _, h⟩ := List.mem_flatMap.1 hu
  exact hf x u h
theorem en_one (E : List (BA × SV)) : ∀ u ∈ enC E, u.oneCell' = true := flat_one enV (fun x u hu => by
  simp [enV] at hu
  rcases hu with rfl | rfl | rfl <;> rfl) E
theorem ki_one (K : List (BA × BA × Int)) : ∀ u ∈ kiC K, u.oneCell' = true := flat_one kiV (fun x u hu => by
  simp [kiV] at hu
  rcases hu with rfl | rfl | rfl <;> rfl) K
/-- The document's index: its entries and kinds in rows of their own; T: the blocks that are its own. -/
structure RefAt (w : World) (T : Nat → Prop) (x : Nat) (E : List (BA × SV)) (K : List (BA × BA × Int)) : Prop where
  blk : ∃ lv kv, w.heap[x]? = some (.cells #[lv, kv] 87 (0, 0)) ∧ w.ownsRow 0 89 3 lv E.length (enC E) ∧ w.ownsRow 0 103 3 kv K.length (kiC K) ∧ (∀ g, lv.ownBlock = some g → T g) ∧ ∀ g, kv.ownBlock = some g → T g
  ser : ∀ p ∈ E, SerO 0 w p.2 ∧ ∀ g, p.2.sl.ownBlock = some g → T g
  here : T x
theorem RefAt.same {w w' : World} {T : Nat → Prop} {x : Nat} {E : List (BA × SV)} {K : List (BA × BA × Int)} (h : RefAt w T x E K) (hk : ∀ g, g < w.heap.size → T g → w'.heap[g]? = w.heap[g]?) : RefAt w' T x E K := by
  obtain ⟨lv, kv, h1, h2, h3, h4, h5⟩ := h.blk
  exact ⟨⟨lv, kv, (hk x (heap_lt h1) h.here).trans h1, ownsRow_same h2 fun g hg => hk g (h2.lt g hg).2 (h4 g hg), ownsRow_same h3 fun g hg => hk g (h3.lt g hg).2 (h5 g hg), h4, h5⟩,
    fun p hp => ⟨⟨ownsRow_same (h.ser p hp).1.row fun g hg => hk g ((h.ser p hp).1.row.lt g hg).2 ((h.ser p hp).2 g hg), (h.ser p hp).1.name, (h.ser p hp).1.sizes⟩, (h.ser p hp).2⟩, h.here⟩
theorem RefAt.later {w w' : World} {T : Nat → Prop} {x : Nat} {E : List (BA × SV)} {K : List (BA × BA × Int)} (h : RefAt w T x E K) (hb : Below w.heap.size w w') : RefAt w' T x E K := h.same fun g hg _ => hb.block g hg
theorem RefAt.more {w : World} {T T' : Nat → Prop} {x : Nat} {E : List (BA × SV)} {K : List (BA × BA × Int)} (h : RefAt w T x E K) (hT : ∀ g, g < w.heap.size → T g → T' g) : RefAt w T' x E K := by
  obtain ⟨lv, kv, h1, h2, h3, h4, h5⟩ := h.blk
  exact ⟨⟨lv, kv, h1, h2, h3, fun g hg => hT g (h2.lt g hg).2 (h4 g hg), fun g hg => hT g (h3.lt g hg).2 (h5 g hg)⟩, fun p hp => ⟨(h.ser p hp).1, fun g hg => hT g ((h.ser p hp).1.row.lt g hg).2 ((h.ser p hp).2 g hg)⟩, hT x (heap_lt h1) h.here⟩
theorem RefAt.open {w : World} {T : Nat → Prop} {x : Nat} {E : List (BA × SV)} {K : List (BA × BA × Int)} (h : RefAt w T x E K) : ∃ a n c b m d, w.heap[x]? = some (.cells #[.slice a n c, .slice b m d] 87 (0, 0)) ∧ E.length = n ∧ K.length = m ∧ w.ownsRow 0 89 3 (.slice a n c) n (enC E) ∧ w.ownsRow 0 103 3 (.slice b m d) m (kiC K) := by
  obtain ⟨lv, kv, h1, h2, h3, _⟩ := h.blk
  obtain ⟨a, c, rfl⟩ := row_form h2
  obtain ⟨b, d, rfl⟩ := row_form h3
  exact ⟨a, _, c, b, _, d, h1, rfl, rfl, h2, h3⟩
theorem en_cell {w : World} {base n c : Nat} {a : Option Addr} {E : List (BA × SV)} (h : w.ownsRow base 89 3 (.slice a n c) n (enC E)) (hl : E.length = n) {k : Nat} {p : BA × SV} (hk : E[k]? = some p) : ∃ g, a = some ⟨g, 0, none⟩ ∧ w.cell? ⟨g, k * 3, none⟩ = some (.string p.1) ∧ w.cell? ⟨g, k * 3 + 1, none⟩ = some (.string p.2.sr.name) ∧ w.cell? ⟨g, k * 3 + 1 + 1, none⟩ = some p.2.sl := by
  obtain ⟨hk', _⟩ := List.getElem?_eq_some_iff.1 hk
  have hc := h
  rcases h.2 with ⟨_, h0⟩ | ⟨g, c', cur, hv, _⟩
  · omega
  · injection hv with e1 e2 e3
    subst e1
    have q := fun i (hi : i < 3) => flat_at enV 3 (fun _ => rfl) E k i p hk hi
    refine ⟨g, rfl, ?_, ?_, ?_⟩
    · rw [hc.cellAt (k * 3) (by omega)]; exact q 0 (by omega)
    · rw [hc.cellAt (k * 3 + 1) (by omega)]; exact q 1 (by omega)
    · rw [show k * 3 + 1 + 1 = k * 3 + 2 by omega, hc.cellAt (k * 3 + 2) (by omega)]; exact q 2 (by omega)
theorem ki_cell {w : World} {base n c : Nat} {a : Option Addr} {K : List (BA × BA × Int)} (h : w.ownsRow base 103 3 (.slice a n c) n (kiC K)) (hl : K.length = n) {k : Nat} {p : BA × BA × Int} (hk : K[k]? = some p) : ∃ g, a = some ⟨g, 0, none⟩ ∧ w.cell? ⟨g, k * 3, none⟩ = some (.string p.1) ∧ w.cell? ⟨g, k * 3 + 1, none⟩ = some (.string p.2.1) ∧ w.cell? ⟨g, k * 3 + 2, none⟩ = some (.int .i64 p.2.2) := by
  obtain ⟨hk', _⟩ := List.getElem?_eq_some_iff.1 hk
  have hc := h
  rcases h.2 with ⟨_, h0⟩ | ⟨g, c', cur, hv, _⟩
  · omega
  · injection hv with e1 e2 e3
    subst e1
    have q := fun i (hi : i < 3) => flat_at kiV 3 (fun _ => rfl) K k i p hk hi
    refine ⟨g, rfl, ?_, ?_, ?_⟩
    · rw [hc.cellAt (k * 3) (by omega)]; exact q 0 (by omega)
    · rw [hc.cellAt (k * 3 + 1) (by omega)]; exact q 1 (by omega)
    · rw [hc.cellAt (k * 3 + 2) (by omega)]; exact q 2 (by omega)
set_option maxRecDepth 100000 in
theorem rnew15 (w : World) : Calls Try.prog 15 #[] w fun e w' => e = .returned (.pointer (some ⟨w.heap.size, 0, none⟩)) ∧ RefAt w' (fun k => k = w.heap.size) w.heap.size [] [] ∧ Below w.heap.size w w' ∧ w'.heap.size = w.heap.size + 1 := by
  go_enter Try.func15, Try.ntmps15
  go_wp2_with fail
  go_ret
  exact ⟨rfl, ⟨⟨.slice none 0 0, .slice none 0 0, heap_alloc_new w _, World.ownsRow_nil _ _ _ _, World.ownsRow_nil _ _ _ _, (fun g h => nomatch h), fun g h => nomatch h⟩, (fun p hp => nomatch hp), rfl⟩, (Below.refl _ _).alloc (Nat.le_refl _) _, by simp⟩
set_option maxRecDepth 100000 in
theorem at40 {w : World} {T : Nat → Prop} {x : Nat} {E : List (BA × SV)} {K : List (BA × BA × Int)} (h : RefAt w T x E K) (t : BA) (hn : E.length ≤ 4000000000000) : Calls Try.prog 40 #[.pointer (some ⟨x, 0, none⟩), .string t] w fun e w' => ∃ k : Nat, e = .returned (.int .i64 k) ∧ PlaceS (E.map (·.1)) t k ∧ w = w' := by
  obtain ⟨a, n, c, b, m, d, hx, hEn, _, hrow, _⟩ := h.open
  have c0 : w.cell? ⟨x, 0, none⟩ = some (.slice a n c) := by simp [World.cell?, hx]
  have HE := Lib.hid hEn
  have HCELL : Hid (∀ k p, E[k]? = some p → ∃ g, a = some ⟨g, 0, none⟩ ∧ w.cell? ⟨g, k * 3, none⟩ = some (.string p.1)) := Lib.hid fun k p hp => by
    obtain ⟨g, h1, h2, _⟩ := en_cell hrow hEn hp
    exact ⟨g, h1, h2⟩
  rw [hEn] at hn
  clear h hx hEn hrow
  go_enter Try.func40, Try.ntmps40
  go_wp2_with fail
  go_loopw [5] (fun i wr => ∃ k : Nat, k ≤ n ∧ i = .int .i64 k ∧ Hid (∀ (j : Nat) (p : BA × SV), j < k → E[j]? = some p → sLt p.1 t) ∧ w = wr) (fun i _ => n - (intOf i).toNat)
  case atStart => exact ⟨0, Nat.zero_le _, rfl, Lib.hid (fun j p hj => by omega), rfl⟩
  case round =>
    obtain ⟨k, hk, rfl, hall, rfl⟩ := hrel
    have HALL := Lib.hid hall
    clear hall
    have hcase : (∃ p : BA × SV, E[k]? = some p ∧ k < n ∧ Op.bytesLess p.1.toList t.toList = true) ∨ (∃ p : BA × SV, E[k]? = some p ∧ k < n ∧ Op.bytesLess p.1.toList t.toList = false) ∨ k = n := by
      by_cases hlt : k < n
      · have hx' := List.getElem?_eq_getElem (l := E) (i := k) (by rw [HE.out]; exact hlt)
        cases hq : Op.bytesLess (E[k]'(by rw [HE.out]; exact hlt)).1.toList t.toList with
        | true => exact .inl ⟨_, hx', hlt, hq⟩
        | false => exact .inr (.inl ⟨_, hx', hlt, hq⟩)
      · exact .inr (.inr (by omega))
    have hmap : ∀ (j : Nat) (s : BA), (E.map (·.1))[j]? = some s → ∃ p : BA × SV, E[j]? = some p ∧ p.1 = s := fun j s hs => by
      rw [List.getElem?_map] at hs
      cases hp : E[j]? with
      | none => rw [hp] at hs; cases hs
      | some p => rw [hp] at hs; cases hs; exact ⟨p, rfl, rfl⟩
    have HMAP := Lib.hid hmap
    clear hmap
    rcases hcase with ⟨p, hp, hlt, hq⟩ | ⟨p, hp, hlt, hq⟩ | hkn
    · obtain ⟨g, rfl, hc⟩ := HCELL.out k p hp
      have HX := Lib.hid hp
      have HL := Lib.hid (show sLt p.1 t by unfold sLt; simpa [ByteArray.toList_eq] using hq)
      have hd : decide ((k : Int) < (n : Int)) = true := by simp; omega
      clear hp
      go_wp2_with fail
      go_roundw
      case rel =>
        refine ⟨k + 1, by omega, by go_num, Lib.hid ?_, trivial⟩
        intro j p' hj hj'
        by_cases hjk : j = k
        · subst hjk
          have h2 := HX.out
          rw [h2] at hj'
          injection hj' with hj'
          rw [← hj']; exact HL.out
        · exact HALL.out.out j p' (by omega) hj'
      case measure => simp [intOf]; omega
    · obtain ⟨g, rfl, hc⟩ := HCELL.out k p hp
      have HP := Lib.hid (show PlaceS (E.map (·.1)) t k from ⟨by rw [List.length_map, HE.out]; omega, fun j s hj hs => by
        obtain ⟨p', h1, rfl⟩ := HMAP.out j s hs
        exact HALL.out.out j p' hj h1, fun s hs => by
        obtain ⟨p', h1, rfl⟩ := HMAP.out k s hs
        rw [hp] at h1; injection h1 with e; rw [← e]; unfold sLt; rw [← ByteArray.toList_eq, ← ByteArray.toList_eq, hq]; exact Bool.false_ne_true⟩)
      have hd : decide ((k : Int) < (n : Int)) = true := by simp; omega
      clear hp
      go_wp2_with fail
      go_ret
      exact ⟨k, rfl, HP.out, rfl⟩
    · have HP := Lib.hid (show PlaceS (E.map (·.1)) t k from ⟨by rw [List.length_map, HE.out]; omega, fun j s hj hs => by
        obtain ⟨p', h1, rfl⟩ := HMAP.out j s hs
        exact HALL.out.out j p' hj h1, fun s hs => by
        rw [List.getElem?_eq_none (by rw [List.length_map, HE.out]; omega)] at hs; cases hs⟩)
      have hd : decide (k < n) = false := by simp; omega
      have hnl : n ≤ k := by omega
      clear hkn
      go_wp2_with fail
      go_ret
      exact ⟨k, rfl, HP.out, rfl⟩
end Go.Proofs.Ytobcpafalfdpkaa
