/- Rows of values and of bools in memory: that came in, and of the call's own. No condition but the input's reach. -/
import Derived.Test.YtcpnmpemgkbanaaGreatDoorJ
import Derived.Deep.Slices
import Derived.Deep.Strs
import Derived.Lib.SmallJoins
import Derived.SizedLaws
namespace Go.Proofs.YtcpnmpemgkbanaaGreatDoor
open Go.RowKit Go.Sort Go.WideShapes Go.ChangeShapes Go.Deep Go.Joins
structure V3 where
  k : Int
  b : Int
  t : ByteArray
instance : Inhabited V3 := ⟨⟨0, 0, ⟨#[]⟩⟩⟩
def zV : V3 := ⟨0, 0, ⟨#[]⟩⟩
def V3.agg (x : V3) : Value := .agg #[.int .i64 x.k, .int .u64 x.b, .string x.t]
/-- A row of values, read. -/
def RowV (w : World) (v : Value) (n : Nat) (f : Nat → V3) : Prop :=
  ∃ a c, v = .slice a n c ∧ ∀ i, i < n → ∃ b off, a = some ⟨b, off, none⟩ ∧ b < w.heap.size ∧ w.cell? ⟨b, off + i * 3, none⟩ = some (.int .i64 (f i).k) ∧ w.cell? ⟨b, off + i * 3 + 1, none⟩ = some (.int .u64 (f i).b) ∧ w.cell? ⟨b, off + i * 3 + 2, none⟩ = some (.string (f i).t)
/-- A row of bools, read. -/
def RowB (w : World) (v : Value) (n : Nat) (f : Nat → Bool) : Prop :=
  ∃ a c, v = .slice a n c ∧ ∀ i, i < n → ∃ b off, a = some ⟨b, off, none⟩ ∧ b < w.heap.size ∧ w.cell? ⟨b, off + i, none⟩ = some (.bool (f i))
theorem RowV.later {w w' : World} {v : Value} {n : Nat} {f : Nat → V3} (h : RowV w v n f) (hb : Below w.heap.size w w') : RowV w' v n f := by
  obtain ⟨a, c, rfl, h⟩ := h
  refine ⟨a, c, rfl, fun i hi => ?_⟩
  obtain ⟨b, off, h1, h2, h3, h4, h5⟩ := h i hi
  exact ⟨b, off, h1, Nat.lt_of_lt_of_le h2 hb.size, (hb.cell (p := ⟨b, _, none⟩) h2).trans h3, (hb.cell (p := ⟨b, _, none⟩) h2).trans h4, (hb.cell (p := ⟨b, _, none⟩) h2).trans h5⟩
theorem RowB.later {w w' : World} {v : Value} {n : Nat} {f : Nat → Bool} (h : RowB w v n f) (hb : Below w.heap.size w w') : RowB w' v n f := by
  obtain ⟨a, c, rfl, h⟩ := h
  refine ⟨a, c, rfl, fun i hi => ?_⟩
  obtain ⟨b, off, h1, h2, h3⟩ := h i hi
  exact ⟨b, off, h1, Nat.lt_of_lt_of_le h2 hb.size, (hb.cell (p := ⟨b, _, none⟩) h2).trans h3⟩
/-- A block of the call's own that holds values. -/
structure PV (w : World) (p n : Nat) (g : Nat → V3) : Prop where
  ex : ∃ cs : Array Value, w.heap[p]? = some (.cells cs 27 (0, 0)) ∧ cs.size = n * 3 ∧ ∀ j, j < n → cs[j * 3]? = some (.int .i64 (g j).k) ∧ cs[j * 3 + 1]? = some (.int .u64 (g j).b) ∧ cs[j * 3 + 2]? = some (.string (g j).t)
/-- .. that holds bools. -/
structure PB (w : World) (p n : Nat) (g : Nat → Bool) : Prop where
  ex : ∃ cs : Array Value, w.heap[p]? = some (.cells cs 4 (0, 0)) ∧ cs.size = n ∧ ∀ j, j < n → cs[j]? = some (.bool (g j))
theorem PV.same {w w' : World} {p n : Nat} {g : Nat → V3} (h : PV w p n g) (hk : w'.heap[p]? = w.heap[p]?) : PV w' p n g := by
  obtain ⟨cs, h1, h2⟩ := h.ex
  exact ⟨cs, hk.trans h1, h2⟩
theorem PB.same {w w' : World} {p n : Nat} {g : Nat → Bool} (h : PB w p n g) (hk : w'.heap[p]? = w.heap[p]?) : PB w' p n g := by
  obtain ⟨cs, h1, h2⟩ := h.ex
  exact ⟨cs, hk.trans h1, h2⟩
theorem PV.lt {w : World} {p n : Nat} {g : Nat → V3} (h : PV w p n g) : p < w.heap.size := by
  obtain ⟨cs, h1, _⟩ := h.ex
  exact heap_lt h1
theorem PB.lt {w : World} {p n : Nat} {g : Nat → Bool} (h : PB w p n g) : p < w.heap.size := by
  obtain ⟨cs, h1, _⟩ := h.ex
  exact heap_lt h1
theorem PV.ne {w : World} {p q n : Nat} {g : Nat → V3} {g' : Nat → Bool} (h : PV w p n g) (h' : PB w q n g') : p ≠ q := by
  rintro rfl
  obtain ⟨cs, h1, _⟩ := h.ex
  obtain ⟨cs', h2, _⟩ := h'.ex
  rw [h1] at h2
  simp at h2
theorem PV.cells {w : World} {p n : Nat} {g : Nat → V3} (h : PV w p n g) {j : Nat} (hj : j < n) :
    w.cell? ⟨p, j * 3, none⟩ = some (.int .i64 (g j).k) ∧ w.cell? ⟨p, j * 3 + 1, none⟩ = some (.int .u64 (g j).b) ∧ w.cell? ⟨p, j * 3 + 2, none⟩ = some (.string (g j).t) := by
  obtain ⟨cs, h1, h2, h3⟩ := h.ex
  obtain ⟨a, b, c⟩ := h3 j hj
  refine ⟨?_, ?_, ?_⟩ <;> simp only [World.cell?, h1] <;> assumption
theorem PB.cells {w : World} {p n : Nat} {g : Nat → Bool} (h : PB w p n g) {j : Nat} (hj : j < n) : w.cell? ⟨p, j, none⟩ = some (.bool (g j)) := by
  obtain ⟨cs, h1, h2, h3⟩ := h.ex
  have := h3 j hj
  simp only [World.cell?, h1]
  exact this
theorem PV.free {w : World} {p n : Nat} {g : Nat → V3} (h : PV w p n g) (i : Nat) : w.frozen? ⟨p, i, none⟩ = false := by
  obtain ⟨cs, h1, _⟩ := h.ex
  simp [World.frozen?, h1]
theorem PB.free {w : World} {p n : Nat} {g : Nat → Bool} (h : PB w p n g) (i : Nat) : w.frozen? ⟨p, i, none⟩ = false := by
  obtain ⟨cs, h1, _⟩ := h.ex
  simp [World.frozen?, h1]
def updV (g : Nat → V3) (i : Nat) (x : V3) : Nat → V3 := fun j => if j = i then x else g j
def updB (g : Nat → Bool) (i : Nat) (x : Bool) : Nat → Bool := fun j => if j = i then x else g j
theorem PV.set {w : World} {p n i : Nat} {g : Nat → V3} (h : PV w p n g) (hi : i < n) (x : V3) :
    PV (((w.setCell ⟨p, i * 3, none⟩ (.int .i64 x.k)).setCell ⟨p, i * 3 + 1, none⟩ (.int .u64 x.b)).setCell ⟨p, i * 3 + 2, none⟩ (.string x.t)) p n (updV g i x) := by
  obtain ⟨cs, h1, h2, h3⟩ := h.ex
  refine ⟨((cs.setIfInBounds (i * 3) (.int .i64 x.k)).setIfInBounds (i * 3 + 1) (.int .u64 x.b)).setIfInBounds (i * 3 + 2) (.string x.t), by simp [World.setCell, Array.getElem?_modify, h1], by simp [h2], fun j hj => ?_⟩
  obtain ⟨a, b, c⟩ := h3 j hj
  unfold updV
  by_cases hji : j = i
  · subst hji
    rw [if_pos rfl]
    refine ⟨?_, ?_, ?_⟩
    · rw [Array.getElem?_setIfInBounds_ne (by omega), Array.getElem?_setIfInBounds_ne (by omega), Array.getElem?_setIfInBounds_self_of_lt (by omega)]
    · rw [Array.getElem?_setIfInBounds_ne (by omega), Array.getElem?_setIfInBounds_self_of_lt (by simp; omega)]
    · rw [Array.getElem?_setIfInBounds_self_of_lt (by simp; omega)]
  · rw [if_neg hji]
    refine ⟨?_, ?_, ?_⟩
    · rw [Array.getElem?_setIfInBounds_ne (by omega), Array.getElem?_setIfInBounds_ne (by omega), Array.getElem?_setIfInBounds_ne (by omega)]; exact a
    · rw [Array.getElem?_setIfInBounds_ne (by omega), Array.getElem?_setIfInBounds_ne (by omega), Array.getElem?_setIfInBounds_ne (by omega)]; exact b
    · rw [Array.getElem?_setIfInBounds_ne (by omega), Array.getElem?_setIfInBounds_ne (by omega), Array.getElem?_setIfInBounds_ne (by omega)]; exact c
theorem PB.set {w : World} {p n i : Nat} {g : Nat → Bool} (h : PB w p n g) (hi : i < n) (x : Bool) : PB (w.setCell ⟨p, i, none⟩ (.bool x)) p n (updB g i x) := by
  obtain ⟨cs, h1, h2, h3⟩ := h.ex
  refine ⟨cs.setIfInBounds i (.bool x), by simp [World.setCell, Array.getElem?_modify, h1], by simp [h2], fun j hj => ?_⟩
  unfold updB
  by_cases hji : j = i
  · subst hji
    rw [if_pos rfl, Array.getElem?_setIfInBounds_self_of_lt (by omega)]
  · rw [if_neg hji, Array.getElem?_setIfInBounds_ne (by omega)]
    exact h3 j hj
theorem heap_set3 (w : World) (p q a b c : Nat) (x y z : Value) (h : q ≠ p) : (((w.setCell ⟨p, a, none⟩ x).setCell ⟨p, b, none⟩ y).setCell ⟨p, c, none⟩ z).heap[q]? = w.heap[q]? := by
  rw [Below.heap_setCell _ ⟨p, c, none⟩ z q h, Below.heap_setCell _ ⟨p, b, none⟩ y q h, Below.heap_setCell _ ⟨p, a, none⟩ x q h]
theorem PV.row {w : World} {p n : Nat} {g : Nat → V3} (h : PV w p n g) (c : Nat) : RowV w (.slice (some ⟨p, 0, none⟩) n c) n g :=
  ⟨_, _, rfl, fun i hi => ⟨p, 0, rfl, h.lt, by rw [Nat.zero_add]; exact (h.cells hi).1, by rw [Nat.zero_add]; exact (h.cells hi).2.1, by rw [Nat.zero_add]; exact (h.cells hi).2.2⟩⟩
theorem PB.row {w : World} {p n : Nat} {g : Nat → Bool} (h : PB w p n g) (c : Nat) : RowB w (.slice (some ⟨p, 0, none⟩) n c) n g :=
  ⟨_, _, rfl, fun i hi => ⟨p, 0, rfl, h.lt, by rw [Nat.zero_add]; exact h.cells hi⟩⟩
theorem RowV.congr {w : World} {v : Value} {n : Nat} {f g : Nat → V3} (h : RowV w v n f) (e : ∀ i, i < n → f i = g i) : RowV w v n g := by
  obtain ⟨a, c, rfl, h⟩ := h
  refine ⟨a, c, rfl, fun i hi => ?_⟩
  rw [← e i hi]
  exact h i hi
theorem RowB.congr {w : World} {v : Value} {n : Nat} {f g : Nat → Bool} (h : RowB w v n f) (e : ∀ i, i < n → f i = g i) : RowB w v n g := by
  obtain ⟨a, c, rfl, h⟩ := h
  refine ⟨a, c, rfl, fun i hi => ?_⟩
  rw [← e i hi]
  exact h i hi
/-- What places without values are filled with. -/
def fillL (kind : Int) (num : V3) (l : Nat → V3) (th : Nat → Bool) : Nat → V3 × Bool
  | 0 => if th 0 then (l 0, true) else if kind = 4 then (num, true) else (zV, false)
  | i + 1 => if th (i + 1) then (l (i + 1), true) else if kind = 3 then fillL kind num l th i else if kind = 4 then (num, true) else (zV, false)
theorem cells27 : Tryz.prog.cellsOf 27 = 3 := by kernel_rfl
theorem cells3 : Tryz.prog.cellsOf 3 = 1 := by kernel_rfl
theorem cells9 : Tryz.prog.cellsOf 9 = 1 := by kernel_rfl
theorem cells4 : Tryz.prog.cellsOf 4 = 1 := by kernel_rfl
theorem cells25' : Tryz.prog.cellsOf 25 = 1 := by kernel_rfl
theorem bytes27 : Tryz.prog.bytesOf 27 = 32 := by kernel_rfl
theorem add_add' (a : Addr) (i j : Nat) : (a.add i).add j = a.add (i + j) := by
  unfold Addr.add
  by_cases hi : i = 0 <;> by_cases hj : j = 0 <;> simp [hi, hj, Nat.add_assoc]
theorem add_none (bb off i : Nat) : ((⟨bb, off, none⟩ : Addr).add i) = ⟨bb, off + i, none⟩ := by unfold Addr.add; split <;> simp_all
set_option maxRecDepth 100000 in
/-- A slice of values that came in. -/
theorem vals_open {H : Type} {enc : TypeId × Value → H} {W : World} {base : Nat} {v : Value} {d : DataW H} {p : List MemPlace} {ts : List TypeId} {ds : List (DataW H)} {j : Nat}
    (h : DataW.Trod enc Tryz.prog W 0 (fun _ => true) true 24 v d p) (o : Value.okWide Tryz.prog W .any base 24 v) (htj : ts[j]? = some 24) (hdj : ds[j]? = some d) (hsz : (DataW.weightsEach Tryz.prog ts ds).all (· ≤ reachBytes) = true) :
    ∃ n f, RowV W v n f ∧ n * 32 ≤ 140737488351232 := by
  obtain ⟨a, len, cap, rfl⟩ := okWide_slice Tryz.underlying24 o
  obtain ⟨fuel, hf⟩ := h
  rcases open_slice Tryz.underlying24 hf with ⟨hcs, _⟩ | ⟨b, l, c, m, n, D, Pl, hcs, _, hl, hm, hmm, hd, hx⟩
  · simp [Value.cells] at hcs
    obtain ⟨rfl, rfl, rfl⟩ := hcs
    exact ⟨0, fun _ => zV, ⟨none, 0, rfl, fun i hi => absurd hi (by omega)⟩, Nat.zero_le _⟩
  · simp [Value.cells] at hcs
    obtain ⟨rfl, rfl, rfl⟩ := hcs
    simp only [if_true] at hmm
    subst hmm
    simp only [Prod.mk.injEq] at hd
    obtain ⟨rfl, _⟩ := hd
    have hs := sized_slice hsz htj hdj Tryz.underlying24
    rw [bytes27] at hs
    simp only [List.length_map, List.length_range, reachBytes] at hs
    have hy : ∀ i, i < m → ∃ z : V3, W.cell? (b.add (i * 3)) = some (.int .i64 z.k) ∧ W.cell? (b.add (i * 3 + 1)) = some (.int .u64 z.b) ∧ W.cell? (b.add (i * 3 + 2)) = some (.string z.t) := by
      intro i hi
      obtain ⟨cs', h1, h2⟩ := hx i hi
      rw [cells27] at h1
      obtain ⟨_, hcl, hcell⟩ := World.cells?_some h1
      obtain ⟨y0, y1, y2, k, _, _, e0, e1, e2⟩ := trod_struct3 Tryz.underlying27 h2
      simp only [cells3, cells9, cells25'] at e0 e1 e2
      obtain ⟨z, g1, _, g3⟩ := DataW.trod_int Tryz.underlying3 e0
      obtain ⟨u, g4, _, g5⟩ := DataW.trod_int Tryz.underlying25 e1
      obtain ⟨t, g6, _⟩ := DataW.trod_string Tryz.underlying9 e2
      match cs', hcl with
      | [c0, c1, c2], _ =>
        simp at g1 g4 g6
        subst g1 g4 g6
        refine ⟨⟨z, u, t⟩, ?_, ?_, ?_⟩
        · have := hcell 0 (by omega); rw [add_add'] at this; simpa using this
        · have := hcell 1 (by omega); rw [add_add'] at this; simpa using this
        · have := hcell 2 (by omega); rw [add_add'] at this; simpa using this
    obtain ⟨f, hf'⟩ := choose_lt hy
    refine ⟨len, f, ⟨_, m, rfl, fun i hi => ?_⟩, by omega⟩
    obtain ⟨h0, h1, h2⟩ := hf' i (by omega)
    have hsp : b.spot = none := World.cell?_spot (by have := (hf' 0 (by omega)).1; simpa [Addr.add] using this)
    obtain ⟨bb, off, spot⟩ := b
    simp only at hsp
    subst hsp
    rw [add_none] at h0 h1 h2
    exact ⟨bb, off, rfl, World.block_lt_of_cell? W _ h0, h0, by rw [Nat.add_assoc]; exact h1, by rw [Nat.add_assoc]; exact h2⟩
set_option maxRecDepth 100000 in
/-- A slice of bools that came in. -/
theorem bools_open {H : Type} {enc : TypeId × Value → H} {W : World} {base : Nat} {v : Value} {d : DataW H} {p : List MemPlace}
    (h : DataW.Trod enc Tryz.prog W 0 (fun _ => true) true 38 v d p) (o : Value.okWide Tryz.prog W .any base 38 v) :
    ∃ (n : Nat) (f : Nat → Bool), RowB W v n f ∧ n ≤ maxLen := by
  obtain ⟨a, len, cap, rfl⟩ := okWide_slice Tryz.underlying38 o
  obtain ⟨fuel, hf⟩ := h
  rcases open_slice1 Tryz.underlying38 cells4 hf with ⟨hcs, _⟩ | ⟨b, l, c, m, n, V, D, Pl, hcs, _, hl, hm, hmm, _, hx⟩
  · simp [Value.cells] at hcs
    obtain ⟨rfl, rfl, rfl⟩ := hcs
    exact ⟨0, fun _ => false, ⟨none, 0, rfl, fun i hi => absurd hi (by omega)⟩, Nat.zero_le _⟩
  · simp [Value.cells] at hcs
    obtain ⟨rfl, rfl, rfl⟩ := hcs
    simp only [if_true] at hmm
    subst hmm
    have hy : ∀ i, i < m → ∃ z : Bool, W.cell? (b.add i) = some (.bool z) := by
      intro i hi
      obtain ⟨h1, h2⟩ := hx i hi
      obtain ⟨t, g1, _⟩ := DataW.trod_bool Tryz.underlying4 h2
      simp at g1
      exact ⟨t, by rw [h1, g1]⟩
    obtain ⟨f, hf'⟩ := choose_lt hy
    refine ⟨len, f, ⟨_, m, rfl, fun i hi => ?_⟩, by omega⟩
    have h0 := hf' i (by omega)
    have hsp : b.spot = none := World.cell?_spot (by have := hf' 0 (by omega); simpa [Addr.add] using this)
    obtain ⟨bb, off, spot⟩ := b
    simp only at hsp
    subst hsp
    rw [add_none] at h0
    exact ⟨bb, off, rfl, World.block_lt_of_cell? W _ h0, h0⟩
end Go.Proofs.YtcpnmpemgkbanaaGreatDoor
