/- Several texts of this proof, laid together. Conditions: as each says. -/
import Derived.Test.YtagiddbfhlokcaaGreatDoorMBJ
import Derived.Test.YtagiddbfhlokcaaGreatDoorMAR
import Derived.Maps.AppendAt
/- Reading a line by the program: its memory, its states. Conditions: the text's length; the readers of values. -/
namespace Go.Proofs.YtagiddbfhlokcaaGreatDoor.Ser
open Go.RowKit Go.Sort
set_option maxRecDepth 100000
set_option maxRecDepth 100000 in
theorem slots166 (xs : Array Value) (h : xs.size = 166) : xs = #[xs.getD 0 undef, xs.getD 1 undef, xs.getD 2 undef, xs.getD 3 undef, xs.getD 4 undef, xs.getD 5 undef, xs.getD 6 undef, xs.getD 7 undef, xs.getD 8 undef, xs.getD 9 undef, xs.getD 10 undef, xs.getD 11 undef, xs.getD 12 undef, xs.getD 13 undef, xs.getD 14 undef, xs.getD 15 undef, xs.getD 16 undef, xs.getD 17 undef, xs.getD 18 undef, xs.getD 19 undef, xs.getD 20 undef, xs.getD 21 undef, xs.getD 22 undef, xs.getD 23 undef, xs.getD 24 undef, xs.getD 25 undef, xs.getD 26 undef, xs.getD 27 undef, xs.getD 28 undef, xs.getD 29 undef, xs.getD 30 undef, xs.getD 31 undef, xs.getD 32 undef, xs.getD 33 undef, xs.getD 34 undef, xs.getD 35 undef, xs.getD 36 undef, xs.getD 37 undef, xs.getD 38 undef, xs.getD 39 undef, xs.getD 40 undef, xs.getD 41 undef, xs.getD 42 undef, xs.getD 43 undef, xs.getD 44 undef, xs.getD 45 undef, xs.getD 46 undef, xs.getD 47 undef, xs.getD 48 undef, xs.getD 49 undef, xs.getD 50 undef, xs.getD 51 undef, xs.getD 52 undef, xs.getD 53 undef, xs.getD 54 undef, xs.getD 55 undef, xs.getD 56 undef, xs.getD 57 undef, xs.getD 58 undef, xs.getD 59 undef, xs.getD 60 undef, xs.getD 61 undef, xs.getD 62 undef, xs.getD 63 undef, xs.getD 64 undef, xs.getD 65 undef, xs.getD 66 undef, xs.getD 67 undef, xs.getD 68 undef, xs.getD 69 undef, xs.getD 70 undef, xs.getD 71 undef, xs.getD 72 undef, xs.getD 73 undef, xs.getD 74 undef, xs.getD 75 undef, xs.getD 76 undef, xs.getD 77 undef, xs.getD 78 undef, xs.getD 79 undef, xs.getD 80 undef, xs.getD 81 undef, xs.getD 82 undef, xs.getD 83 undef, xs.getD 84 undef, xs.getD 85 undef, xs.getD 86 undef, xs.getD 87 undef, xs.getD 88 undef, xs.getD 89 undef, xs.getD 90 undef, xs.getD 91 undef, xs.getD 92 undef, xs.getD 93 undef, xs.getD 94 undef, xs.getD 95 undef, xs.getD 96 undef, xs.getD 97 undef, xs.getD 98 undef, xs.getD 99 undef, xs.getD 100 undef, xs.getD 101 undef, xs.getD 102 undef, xs.getD 103 undef, xs.getD 104 undef, xs.getD 105 undef, xs.getD 106 undef, xs.getD 107 undef, xs.getD 108 undef, xs.getD 109 undef, xs.getD 110 undef, xs.getD 111 undef, xs.getD 112 undef, xs.getD 113 undef, xs.getD 114 undef, xs.getD 115 undef, xs.getD 116 undef, xs.getD 117 undef, xs.getD 118 undef, xs.getD 119 undef, xs.getD 120 undef, xs.getD 121 undef, xs.getD 122 undef, xs.getD 123 undef, xs.getD 124 undef, xs.getD 125 undef, xs.getD 126 undef, xs.getD 127 undef, xs.getD 128 undef, xs.getD 129 undef, xs.getD 130 undef, xs.getD 131 undef, xs.getD 132 undef, xs.getD 133 undef, xs.getD 134 undef, xs.getD 135 undef, xs.getD 136 undef, xs.getD 137 undef, xs.getD 138 undef, xs.getD 139 undef, xs.getD 140 undef, xs.getD 141 undef, xs.getD 142 undef, xs.getD 143 undef, xs.getD 144 undef, xs.getD 145 undef, xs.getD 146 undef, xs.getD 147 undef, xs.getD 148 undef, xs.getD 149 undef, xs.getD 150 undef, xs.getD 151 undef, xs.getD 152 undef, xs.getD 153 undef, xs.getD 154 undef, xs.getD 155 undef, xs.getD 156 undef, xs.getD 157 undef, xs.getD 158 undef, xs.getD 159 undef, xs.getD 160 undef, xs.getD 161 undef, xs.getD 162 undef, xs.getD 163 undef, xs.getD 164 undef, xs.getD 165 undef] := all_slots xs 166 h
set_option maxRecDepth 100000 in
theorem frame_of166 (a : Act) (hs : a.tmps.size = 166) (hd : a.defers = []) : ∃ f : Nat → Value, a = ⟨#[f 0, f 1, f 2, f 3, f 4, f 5, f 6, f 7, f 8, f 9, f 10, f 11, f 12, f 13, f 14, f 15, f 16, f 17, f 18, f 19, f 20, f 21, f 22, f 23, f 24, f 25, f 26, f 27, f 28, f 29, f 30, f 31, f 32, f 33, f 34, f 35, f 36, f 37, f 38, f 39, f 40, f 41, f 42, f 43, f 44, f 45, f 46, f 47, f 48, f 49, f 50, f 51, f 52, f 53, f 54, f 55, f 56, f 57, f 58, f 59, f 60, f 61, f 62, f 63, f 64, f 65, f 66, f 67, f 68, f 69, f 70, f 71, f 72, f 73, f 74, f 75, f 76, f 77, f 78, f 79, f 80, f 81, f 82, f 83, f 84, f 85, f 86, f 87, f 88, f 89, f 90, f 91, f 92, f 93, f 94, f 95, f 96, f 97, f 98, f 99, f 100, f 101, f 102, f 103, f 104, f 105, f 106, f 107, f 108, f 109, f 110, f 111, f 112, f 113, f 114, f 115, f 116, f 117, f 118, f 119, f 120, f 121, f 122, f 123, f 124, f 125, f 126, f 127, f 128, f 129, f 130, f 131, f 132, f 133, f 134, f 135, f 136, f 137, f 138, f 139, f 140, f 141, f 142, f 143, f 144, f 145, f 146, f 147, f 148, f 149, f 150, f 151, f 152, f 153, f 154, f 155, f 156, f 157, f 158, f 159, f 160, f 161, f 162, f 163, f 164, f 165], []⟩ ∧ ∀ i, a.tmps.getD i undef = f i := by
  obtain ⟨xs, ds⟩ := a
  simp only at hs hd
  subst hd
  exact ⟨fun i => xs.getD i undef, by rw [← slots166 xs hs], fun _ => rfl⟩

theorem info82 : (Tryz.prog.info? 82).map (fun i => (i.zero, i.size, i.bytes)) = some (some (.agg #[.string ⟨#[]⟩, .string ⟨#[]⟩]), 2, 32) := by kernel_rfl
theorem info64 : (Tryz.prog.info? 64).map (fun i => (i.zero, i.size, i.bytes)) = some (some (.agg #[.string ⟨#[]⟩, .int .i64 0, .int .u64 0, .string ⟨#[]⟩]), 4, 48) := by kernel_rfl
/-- The parser's memory: its result's cells, the row that grows, the value read last, the rows of tags and fields. -/
structure PMem (name : ByteArray) (tags : List Tg) (fields : List Fd) (v vf : Value) (tm : Int) (w wr : World) : Prop where
  res : wr.heap[w.heap.size]? = some (.cells #[.string ⟨#[]⟩, .slice none 0 0, .slice none 0 0, .int .i64 0] 27 (0, 0))
  row : wr.heap[w.heap.size + 1]? = some (.cells #[.string name, v, vf, .int .i64 tm] 27 (0, 0))
  val : ∃ k b t, wr.heap[w.heap.size + 2]? = some (.cells #[.int .i64 k, .int .u64 b, .string t] 53 (0, 0))
  rt : RT wr (w.heap.size + 3) v tags
  rf : RF wr (w.heap.size + 3) vf fields
  ap : ∀ g, v.ownBlock = some g → vf.ownBlock ≠ some g
  bel : Below w.heap.size w wr
theorem PMem.size {name : ByteArray} {tags : List Tg} {fields : List Fd} {v vf : Value} {tm : Int} {w wr : World} (h : PMem name tags fields v vf tm w wr) : w.heap.size + 2 < wr.heap.size := by
  obtain ⟨k, b, t, h3⟩ := h.val
  exact lt_of_block h3
theorem PMem.later {name : ByteArray} {tags : List Tg} {fields : List Fd} {v vf : Value} {tm : Int} {w wr w' : World} (h : PMem name tags fields v vf tm w wr) (hb : Below wr.heap.size wr w') : PMem name tags fields v vf tm w w' := by
  obtain ⟨k, b, t, h3⟩ := h.val
  exact ⟨(hb.block _ (lt_of_block h.res)).trans h.res, (hb.block _ (lt_of_block h.row)).trans h.row, ⟨k, b, t, (hb.block _ (lt_of_block h3)).trans h3⟩, own_later h.rt hb, own_later h.rf hb, h.ap, h.bel.trans (hb.mono h.bel.size)⟩
/-- The cells of what the parser holds. -/
theorem PMem.cells {name : ByteArray} {tags : List Tg} {fields : List Fd} {v vf : Value} {tm : Int} {w wr : World} (h : PMem name tags fields v vf tm w wr) :
    wr.cell? ⟨w.heap.size + 1, 0, none⟩ = some (.string name) ∧ wr.cell? ⟨w.heap.size + 1, 1, none⟩ = some v ∧ wr.cell? ⟨w.heap.size + 1, 2, none⟩ = some vf ∧ wr.cell? ⟨w.heap.size + 1, 3, none⟩ = some (.int .i64 tm) :=
  ⟨Lib.cell_of_heap h.row 0, Lib.cell_of_heap h.row 1, Lib.cell_of_heap h.row 2, Lib.cell_of_heap h.row 3⟩
theorem PMem.rcells {name : ByteArray} {tags : List Tg} {fields : List Fd} {v vf : Value} {tm : Int} {w wr : World} (h : PMem name tags fields v vf tm w wr) :
    wr.cell? ⟨w.heap.size, 0, none⟩ = some (.string ⟨#[]⟩) ∧ wr.cell? ⟨w.heap.size, 1, none⟩ = some (.slice none 0 0) ∧ wr.cell? ⟨w.heap.size, 2, none⟩ = some (.slice none 0 0) ∧ wr.cell? ⟨w.heap.size, 3, none⟩ = some (.int .i64 0) ∧
      wr.frozen? ⟨w.heap.size, 0, none⟩ = false ∧ wr.frozen? ⟨w.heap.size, 1, none⟩ = false ∧ wr.frozen? ⟨w.heap.size, 2, none⟩ = false ∧ wr.frozen? ⟨w.heap.size, 3, none⟩ = false :=
  ⟨Lib.cell_of_heap h.res 0, Lib.cell_of_heap h.res 1, Lib.cell_of_heap h.res 2, Lib.cell_of_heap h.res 3, Lib.frozen_of_heap h.res 0, Lib.frozen_of_heap h.res 1, Lib.frozen_of_heap h.res 2, Lib.frozen_of_heap h.res 3⟩
theorem PMem.frees {name : ByteArray} {tags : List Tg} {fields : List Fd} {v vf : Value} {tm : Int} {w wr : World} (h : PMem name tags fields v vf tm w wr) :
    wr.frozen? ⟨w.heap.size + 1, 0, none⟩ = false ∧ wr.frozen? ⟨w.heap.size + 1, 1, none⟩ = false ∧ wr.frozen? ⟨w.heap.size + 1, 2, none⟩ = false ∧ wr.frozen? ⟨w.heap.size + 1, 3, none⟩ = false :=
  ⟨Lib.frozen_of_heap h.row 0, Lib.frozen_of_heap h.row 1, Lib.frozen_of_heap h.row 2, Lib.frozen_of_heap h.row 3⟩
/-- What a line's parsing answers. -/
def RowPost (o : LR) (w : World) (e : Ending) (w' : World) : Prop :=
  Below w.heap.size w w' ∧ match o.2 with
    | none => e = .returned (.tuple #[.agg #[.string ⟨#[]⟩, .slice none 0 0, .slice none 0 0, .int .i64 0], .int .i64 o.1])
    | some r => ∃ v vf, e = .returned (.tuple #[.agg #[.string r.1, v, vf, .int .i64 r.2.2.2], .int .i64 o.1]) ∧ RT w' w.heap.size v r.2.1 ∧ RF w' w.heap.size vf r.2.2.1 ∧ ∀ g, v.ownBlock = some g → vf.ownBlock ≠ some g
/-- The frame's fixed slots. -/
def Fx (w : World) (a : Act) : Prop := a.defers = [] ∧ a.tmps.size = 166 ∧ a.tmps.getD 4 undef = .pointer (some ⟨w.heap.size, 0, none⟩) ∧ a.tmps.getD 6 undef = .pointer (some ⟨w.heap.size + 1, 0, none⟩) ∧ a.tmps.getD 10 undef = .pointer (some ⟨w.heap.size + 2, 0, none⟩)
def JWrong (R : LR) (w : World) (a : Act) (wr : World) : Prop :=
  Fx w a ∧ ∃ er, a.tmps.getD 11 undef = .int .i64 er ∧ R = (er, none) ∧ wr.heap[w.heap.size]? = some (.cells #[.string ⟨#[]⟩, .slice none 0 0, .slice none 0 0, .int .i64 0] 27 (0, 0)) ∧ Below w.heap.size w wr
/-- What was gathered is of a bounded size. -/
def Okay (L : Nat) (name : ByteArray) (tags : List Tg) (fields : List Fd) : Prop :=
  name.size ≤ maxLen ∧ (∀ p ∈ tags, p.1.size ≤ maxLen ∧ p.2.size ≤ maxLen) ∧ (∀ p ∈ fields, FdOk p) ∧ tags.length ≤ L ∧ fields.length ≤ L
def JEnd (L : Nat) (R : LR) (w : World) (a : Act) (wr : World) : Prop :=
  Fx w a ∧ a.tmps.getD 11 undef = .int .i64 2 ∧ ∃ name tags fields v vf tm, PMem name tags fields v vf tm w wr ∧ Okay L name tags fields ∧ R = finP name tags (0, fields, tm)
def JField (V : List UInt8 → Value × Int) (now : Int) (L : Nat) (R : LR) (w : World) (m : Nat) (a : Act) (wr : World) : Prop :=
  Fx w a ∧ a.tmps.getD 11 undef = .int .i64 2 ∧ ∃ name tags fields v vf c r n, a.tmps.getD 0 undef = .string (bs (c :: r)) ∧ PMem name tags fields v vf now w wr ∧ Okay L name tags fields ∧ fields.length + r.length + 1 ≤ L ∧ r.length + 1 ≤ n ∧ r.length ≤ m ∧
    R = finP name tags (fieldsP V now n fields r)
def tagsR (V : List UInt8 → Value × Int) (now : Int) (L : Nat) (name : ByteArray) (o : Option (List Tg × List UInt8)) : LR :=
  match o with
  | none => (2, none)
  | some p => finP name p.1 (fieldsP V now L [] p.2)
def JTag (V : List UInt8 → Value × Int) (now : Int) (L : Nat) (R : LR) (w : World) (m : Nat) (a : Act) (wr : World) : Prop :=
  Fx w a ∧ a.tmps.getD 11 undef = .int .i64 2 ∧ ∃ name tags v c r n, a.tmps.getD 0 undef = .string (bs (c :: r)) ∧ PMem name tags [] v (.slice none 0 0) now w wr ∧ Okay L name tags [] ∧ tags.length + r.length + 1 ≤ L ∧ r.length + 1 ≤ n ∧ r.length ≤ m ∧
    R = tagsR V now L name (tagsP n tags r)
theorem results15 {tmps : Array Value} {wr : World} {B : Nat} {x y z u : Value} (hb : tmps.getD 4 undef = .pointer (some ⟨B, 0, none⟩)) (hk : wr.heap[B]? = some (.cells #[x, y, z, u] 27 (0, 0))) :
    (results Tryz.f15 tmps).run Tryz.prog wr = .ok (.tuple #[.agg #[x, y, z, u], tmps.getD 5 undef]) wr := by
  have hb' : tmps[4]?.getD undef = .pointer (some ⟨B, 0, none⟩) := by simpa using hb
  have h0 : wr.cell? ⟨B, 0, none⟩ = some x := Lib.cell_of_heap hk 0
  have h1 : wr.cell? ⟨B, 1, none⟩ = some y := Lib.cell_of_heap hk 1
  have h2 : wr.cell? ⟨B, 2, none⟩ = some z := Lib.cell_of_heap hk 2
  have h3 : wr.cell? ⟨B, 3, none⟩ = some u := Lib.cell_of_heap hk 3
  simp [results, hb', h0, h1, h2, h3, go_sem]
/-- Four stores into a block of four cells. -/
theorem four {wr : World} {B : Nat} {a b c d : Value} {T : TypeId} (x y z u : Value) (hk : wr.heap[B]? = some (.cells #[a, b, c, d] T (0, 0))) :
    ((((wr.setCell ⟨B, 0, none⟩ x).setCell ⟨B, 1, none⟩ y).setCell ⟨B, 2, none⟩ z).setCell ⟨B, 3, none⟩ u).heap[B]? = some (.cells #[x, y, z, u] T (0, 0)) := by
  have h1 := heap_setCell_same _ B 0 _ _ x hk
  have h2 := heap_setCell_same _ B 1 _ _ y h1
  have h3 := heap_setCell_same _ B 2 _ _ z h2
  exact heap_setCell_same _ B 3 _ _ u h3
theorem below_four {w wr : World} {B : Nat} (x y z u : Value) (h : Below B w wr) : Below B w ((((wr.setCell ⟨B, 0, none⟩ x).setCell ⟨B, 1, none⟩ y).setCell ⟨B, 2, none⟩ z).setCell ⟨B, 3, none⟩ u) :=
  (((h.setCell (Nat.le_refl _) _).setCell (Nat.le_refl _) _).setCell (Nat.le_refl _) _).setCell (Nat.le_refl _) _
/-- What the code asks of what stands behind it. -/
def Rets (R : LR) (w : World) (Q : Exit → Act → World → Prop) : Prop :=
  ∀ (a' : Act) (w' : World) (x y z u : Value) (er : Int), a'.defers = [] → a'.tmps.getD 4 undef = .pointer (some ⟨w.heap.size, 0, none⟩) → a'.tmps.getD 5 undef = .int .i64 er → w'.heap[w.heap.size]? = some (.cells #[x, y, z, u] 27 (0, 0)) → RowPost R w (.returned (.tuple #[.agg #[x, y, z, u], .int .i64 er])) w' → Q .ret a' w'
theorem rets15 {R : LR} {w : World} : Rets R w (bodyPost Tryz.prog Tryz.f15 (RowPost R w)) := fun a' w' x y z u er hd h4 h5 hk hp =>
  bodyPost_ret (results15 h4 hk) hd (by rw [h5]; exact hp)
set_option maxHeartbeats 1000000 in
theorem pass_wrong {R : LR} {w : World} {Q : Exit → Act → World → Prop} (hret : Rets R w Q) (rest : Code) (hr : (Tryz.f15.body.bind firstScope).bind (findLabel · 0) = some (Code.skip.seq rest))
    (a : Act) (wr : World) (hJ : JWrong R w a wr) : rest.wp Tryz.prog Q a wr := by
  change some _ = some _ at hr
  cases hr
  obtain ⟨⟨hd0, hsz, g4, g6, g10⟩, er, g11, hR, hres, hbl⟩ := hJ
  obtain ⟨fr, rfl, hf⟩ := frame_of166 a hsz hd0
  rw [hf] at g4 g6 g10 g11
  rw [g4, g6, g10, g11]
  have z0 := Lib.frozen_of_heap hres 0
  have z1 := Lib.frozen_of_heap hres 1
  have z2 := Lib.frozen_of_heap hres 2
  have z3 := Lib.frozen_of_heap hres 3
  have c0 : wr.cell? ⟨w.heap.size, 0, none⟩ = _ := Lib.cell_of_heap hres 0
  have c1 : wr.cell? ⟨w.heap.size, 1, none⟩ = _ := Lib.cell_of_heap hres 1
  have c2 : wr.cell? ⟨w.heap.size, 2, none⟩ = _ := Lib.cell_of_heap hres 2
  have c3 : wr.cell? ⟨w.heap.size, 3, none⟩ = _ := Lib.cell_of_heap hres 3
  have HR := Lib.hid hR
  have HRET := Lib.hid hret
  have HBL := Lib.hid hbl
  have HRES := Lib.hid hres
  clear hf hsz hd0 hR hret hbl hres
  go_wp2_with fail
  exact HRET.out _ _ _ _ _ _ _ rfl rfl rfl (four _ _ _ _ HRES.out) ⟨below_four _ _ _ _ HBL.out, by rw [HR.out]⟩
theorem PMem.sortT {name : ByteArray} {tags ts : List Tg} {fields : List Fd} {v vf : Value} {tm : Int} {w wr w2 : World} (h : PMem name tags fields v vf tm w wr) (hp : ts.Perm tags)
    (ho : w2.ownsRow (w.heap.size + 3) 82 2 v tags.length (ts.flatMap encT)) (hg : wr.grownBy w2 v.ownBlock) : PMem name ts fields v vf tm w w2 := by
  obtain ⟨k, b, t, h3⟩ := h.val
  have l3 := lt_of_block h3
  have ne : ∀ j, j < w.heap.size + 3 → some j ≠ v.ownBlock := fun j hj e => by have := (h.rt.lt j e.symm).1; omega
  refine ⟨(hg.block _ (by omega) (ne _ (by omega))).trans h.res, (hg.block _ (by omega) (ne _ (by omega))).trans h.row, ⟨k, b, t, (hg.block _ (by omega) (ne _ (by omega))).trans h3⟩, by rw [RT, hp.length_eq]; exact ho, h.rf.kept hg ?_, h.ap, ?_⟩
  · cases hv : vf.ownBlock with
    | none => exact .inl rfl
    | some g => exact .inr fun e => h.ap g e.symm hv
  · exact h.bel.grown hg (by omega) (fun j hj => by have := (h.rt.lt j hj).1; omega)
theorem PMem.sortF {name : ByteArray} {tags : List Tg} {fields fs : List Fd} {v vf : Value} {tm : Int} {w wr w2 : World} (h : PMem name tags fields v vf tm w wr) (hp : fs.Perm fields)
    (ho : w2.ownsRow (w.heap.size + 3) 64 4 vf fields.length (fs.flatMap encF)) (hg : wr.grownBy w2 vf.ownBlock) : PMem name tags fs v vf tm w w2 := by
  obtain ⟨k, b, t, h3⟩ := h.val
  have l3 := lt_of_block h3
  have ne : ∀ j, j < w.heap.size + 3 → some j ≠ vf.ownBlock := fun j hj e => by have := (h.rf.lt j e.symm).1; omega
  refine ⟨(hg.block _ (by omega) (ne _ (by omega))).trans h.res, (hg.block _ (by omega) (ne _ (by omega))).trans h.row, ⟨k, b, t, (hg.block _ (by omega) (ne _ (by omega))).trans h3⟩, h.rt.kept hg ?_, by rw [RF, hp.length_eq]; exact ho, h.ap, ?_⟩
  · cases hv : v.ownBlock with
    | none => exact .inl rfl
    | some g => exact .inr fun e => h.ap g hv e.symm
  · exact h.bel.grown hg (by omega) (fun j hj => by have := (h.rf.lt j hj).1; omega)
theorem own_down {w : World} {b1 b2 e size n : Nat} {v : Value} {xs : List Value} (h : w.ownsRow b1 e size v n xs) (hb : b2 ≤ b1) : w.ownsRow b2 e size v n xs := by
  refine ⟨h.1, ?_⟩
  rcases h.2 with h1 | ⟨g, cap, cur, h1, h2, h3⟩
  · exact .inl h1
  · exact .inr ⟨g, cap, cur, h1, by omega, h3⟩
theorem hp_len {α : Type} {a b : List α} (h : a.Perm b) : a.length = b.length := h.length_eq
theorem tags_sized {tags ts : List Tg} (hp : ts.Perm tags) (h : ∀ p ∈ tags, p.1.size ≤ maxLen ∧ p.2.size ≤ maxLen) : ∀ i, (kOf ts i).size ≤ maxLen ∧ (vOf ts i).size ≤ maxLen := by
  intro i
  by_cases hi : i < ts.length
  · rw [(kOf_get hi).1, (kOf_get hi).2]
    exact h _ (hp.mem_iff.1 (List.getElem_mem hi))
  · have e1 : kOf ts i = ⟨#[]⟩ := by simp [kOf, List.getD, List.getElem?_eq_none (Nat.le_of_not_lt hi)]
    have e2 : vOf ts i = ⟨#[]⟩ := by simp [vOf, List.getD, List.getElem?_eq_none (Nat.le_of_not_lt hi)]
    rw [e1, e2]
    exact ⟨Nat.zero_le _, Nat.zero_le _⟩
set_option maxHeartbeats 4000000 in
theorem pass_end {L : Nat} (hL : L ≤ 1073741824) {R : LR} {w : World} {Q : Exit → Act → World → Prop} (hret : Rets R w Q) (rest : Code) (hr : (Tryz.f15.body.bind firstScope).bind (findLabel · 3) = some (Code.skip.seq rest))
    (a : Act) (wr : World) (hJ : JEnd L R w a wr) : rest.wp Tryz.prog Q a wr := by
  change some _ = some _ at hr
  cases hr
  obtain ⟨⟨hd0, hsz, g4, g6, g10⟩, g11, name, tags, fields, v, vf, tm, hm, ⟨hn1, hn2, hn3, hn4, hn5⟩, hR⟩ := hJ
  obtain ⟨fr, rfl, hf⟩ := frame_of166 a hsz hd0
  rw [hf] at g4 g6 g10 g11
  rw [g4, g6, g10, g11]
  obtain ⟨d0, d1, d2, d3⟩ := hm.cells
  have M44 := Lib.hid (sort44 tags _ v wr hm.rt (by omega))
  have HM := Lib.hid hm
  have HR := Lib.hid hR
  have HRET := Lib.hid hret
  have HN2 := Lib.hid hn2
  have HN3 := Lib.hid hn3
  clear hf hsz hd0 hR hret hm hn2 hn3
  go_wp2_with fail
  refine M44.out.mono ?_
  rintro e w2 ⟨rfl, ts, hp, hwk, ho, hg⟩
  have hm2 := HM.out.sortT hp ho hg
  have HP := Lib.hid hp
  have HWK := Lib.hid hwk
  have HM2 := Lib.hid hm2
  have M47 := Lib.hid (sort47 fields _ vf w2 hm2.rf (by omega))
  clear d0 d1 d2 d3
  obtain ⟨d0, d1, d2, d3⟩ := hm2.cells
  clear ho hg hp hwk hm2
  go_wp2_with fail
  refine M47.out.mono ?_
  rintro e w3 ⟨rfl, fs, hp, hwk, ho, hg⟩
  have hm3 := HM2.out.sortF hp ho hg
  have HP3 := Lib.hid hp
  have HWK3 := Lib.hid hwk
  have HM3 := Lib.hid hm3
  obtain ⟨a1, c1, hv1⟩ := hm3.rt.slice
  obtain ⟨a2, c2, hv2⟩ := hm3.rf.slice
  subst hv1 hv2
  have MF := Lib.hid (formed25 name a1 a2 ts.length c1 c2 tm (kOf ts) (vOf ts) fs w3 (by rw [hp_len HP.out]; omega) (by rw [hp_len hp]; omega) hn1 (tags_sized HP.out HN2.out) (fun p h => HN3.out p (hp.mem_iff.1 h)) hm3.rt.at hm3.rf.at)
  obtain ⟨hrow, heq⟩ := rowOk_of (name := name) HP.out HWK.out hp hwk
  rw [hrow] at MF
  have HEQ := Lib.hid heq
  obtain ⟨ok, hok⟩ : ∃ ok, rowOk name (srt keyT tags) (srt keyF fields) = ok := ⟨_, rfl⟩
  rw [hok] at MF HEQ
  have HRR : Hid (R = if ok = true then (0, some (name, srt keyT tags, srt keyF fields, tm)) else (2, none)) := Lib.hid (by rw [HR.out]; unfold finP; rw [if_pos rfl, hok])
  clear d0 d1 d2 d3
  obtain ⟨d0, d1, d2, d3⟩ := hm3.cells
  clear ho hg hp hwk hm3 hrow heq hok
  go_wp2_with fail
  refine MF.out.mono ?_
  rintro e w4 ⟨rfl, hb4⟩
  have hm4 := HM3.out.later hb4
  have HM4 := Lib.hid hm4
  clear d0 d1 d2 d3
  obtain ⟨d0, d1, d2, d3⟩ := hm4.cells
  obtain ⟨q0, q1, q2, q3, z0, z1, z2, z3⟩ := hm4.rcells
  clear hb4 hm4
  cases ok with
  | true =>
    obtain ⟨rfl, rfl⟩ := HEQ.out rfl
    go_wp2_with fail
    refine HRET.out _ _ _ _ _ _ _ rfl rfl rfl (four _ _ _ _ HM4.out.res) ⟨below_four _ _ _ _ HM4.out.bel, ?_⟩
    rw [HRR.out]
    refine ⟨_, _, rfl, ?_, ?_, HM4.out.ap⟩
    · exact own_down (ownsRow_setCell_below (ownsRow_setCell_below (ownsRow_setCell_below (ownsRow_setCell_below HM4.out.rt (by simp) _) (by simp) _) (by simp) _) (by simp) _) (by omega)
    · exact own_down (ownsRow_setCell_below (ownsRow_setCell_below (ownsRow_setCell_below (ownsRow_setCell_below HM4.out.rf (by simp) _) (by simp) _) (by simp) _) (by simp) _) (by omega)
  | false =>
    go_wp2_with fail
    go_step3
    rename_i K hK
    refine hK _ _ (pass_wrong HRET.out _ rfl _ _ ?_)
    exact ⟨⟨rfl, rfl, rfl, rfl, rfl⟩, 2, rfl, HRR.out, HM4.out.res, HM4.out.bel⟩
end Go.Proofs.YtagiddbfhlokcaaGreatDoor.Ser
/- The reference's way to put rows in order: plain law, and a row's cells turned. No condition. -/
namespace Go.Proofs.YtagiddbfhlokcaaGreatDoor.Ser
open Go.RowKit Go.Sort
set_option maxRecDepth 100000
section
variable {α : Type} {key : α → List UInt8}
/-- The state of an insertion: x moves left through A; C, behind it, is above it. -/
structure Ins (key : α → List UInt8) (L : List α) (i : Nat) (A : List α) (x : α) (C D : List α) : Prop where
  pm : (A ++ x :: (C ++ D)).Perm L
  len : A.length + C.length = i
  wk : Weak key (A ++ C)
  up : ∀ c ∈ C, key x < key c
end
theorem own_cell {w : World} {base e size n g cap : Nat} {xs : List Value} (h : w.ownsRow base e size (.slice (some ⟨g, 0, none⟩) n cap) n xs) {i : Nat} {u : Value} (hi : xs[i]? = some u) (hn : n ≠ 0) : w.cell? ⟨g, i, none⟩ = some u ∧ w.frozen? ⟨g, i, none⟩ = false := by
  obtain ⟨g', cap', hv, _, hlt⟩ := h.form (Nat.pos_of_ne_zero hn)
  injection hv with hv _ _
  injection hv with hv
  injection hv with hv
  subst hv
  have hlen : i < xs.length := by
    rcases Nat.lt_or_ge i xs.length with h1 | h1
    · exact h1
    · rw [List.getElem?_eq_none h1] at hi; cases hi
  refine ⟨(h.cellAt i (by rw [← h.1]; exact hlen)).trans hi, ?_⟩
  rcases h.2 with ⟨h1, _⟩ | ⟨g', cap', cur, h1, h2, h3, h4, h5, h6, h7⟩
  · cases h1
  · injection h1 with h1 _ _
    injection h1 with h1
    injection h1 with h1
    subst h1
    exact Lib.frozen_of_heap h3 i
end Go.Proofs.YtagiddbfhlokcaaGreatDoor.Ser
