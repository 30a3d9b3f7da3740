/- SHOW is taken; a statement's cells. Condition: the table of blanks. -/
import Derived.Test.YtigicmnngppipaaGreatDoorFAZ
import Derived.Deep.CutRange
namespace Go.Proofs.YtigicmnngppipaaGreatDoor.Tp
open Go.RowKit Lx
set_option maxRecDepth 100000
/-- A statement's seventeen cells. -/
def stCells (s : S0) (vi vw vt vq : Value) : List Value := [.int .i64 s.kind, .bool s.all, vi, .string s.into, .string s.frm, vw, .int .i64 s.window, vt, .int .i64 s.fill, .int .i64 s.number.1, .int .u64 s.number.2.1, .string s.number.2.2, .bool s.desc, .int .i64 s.limit, .int .i64 s.offset, .string s.name, vq]
def vNil : Value := .slice none 0 0
def put17 (w : World) (B : Nat) (x0 x1 x2 x3 x4 x5 x6 x7 x8 x9 x10 x11 x12 x13 x14 x15 x16 : Value) : World := ((((((((((((((((w.setCell ⟨B, 0, none⟩ x0).setCell ⟨B, 1, none⟩ x1).setCell ⟨B, 2, none⟩ x2).setCell ⟨B, 3, none⟩ x3).setCell ⟨B, 4, none⟩ x4).setCell ⟨B, 5, none⟩ x5).setCell ⟨B, 6, none⟩ x6).setCell ⟨B, 7, none⟩ x7).setCell ⟨B, 8, none⟩ x8).setCell ⟨B, 9, none⟩ x9).setCell ⟨B, 10, none⟩ x10).setCell ⟨B, 11, none⟩ x11).setCell ⟨B, 12, none⟩ x12).setCell ⟨B, 13, none⟩ x13).setCell ⟨B, 14, none⟩ x14).setCell ⟨B, 15, none⟩ x15).setCell ⟨B, 16, none⟩ x16
theorem put17_heap {w : World} {B : Nat} {T : TypeId} {y0 y1 y2 y3 y4 y5 y6 y7 y8 y9 y10 y11 y12 y13 y14 y15 y16 : Value} (h : w.heap[B]? = some (.cells #[y0, y1, y2, y3, y4, y5, y6, y7, y8, y9, y10, y11, y12, y13, y14, y15, y16] T (0, 0))) (x0 x1 x2 x3 x4 x5 x6 x7 x8 x9 x10 x11 x12 x13 x14 x15 x16 : Value) : (put17 w B x0 x1 x2 x3 x4 x5 x6 x7 x8 x9 x10 x11 x12 x13 x14 x15 x16).heap[B]? = some (.cells #[x0, x1, x2, x3, x4, x5, x6, x7, x8, x9, x10, x11, x12, x13, x14, x15, x16] T (0, 0)) := by
  have h0 : (w.setCell ⟨B, 0, none⟩ x0).heap[B]? = some (.cells #[x0, y1, y2, y3, y4, y5, y6, y7, y8, y9, y10, y11, y12, y13, y14, y15, y16] T (0, 0)) := heap_setCell_same _ B 0 _ _ x0 h
  have h1 : ((w.setCell ⟨B, 0, none⟩ x0).setCell ⟨B, 1, none⟩ x1).heap[B]? = some (.cells #[x0, x1, y2, y3, y4, y5, y6, y7, y8, y9, y10, y11, y12, y13, y14, y15, y16] T (0, 0)) := heap_setCell_same _ B 1 _ _ x1 h0
  have h2 : (((w.setCell ⟨B, 0, none⟩ x0).setCell ⟨B, 1, none⟩ x1).setCell ⟨B, 2, none⟩ x2).heap[B]? = some (.cells #[x0, x1, x2, y3, y4, y5, y6, y7, y8, y9, y10, y11, y12, y13, y14, y15, y16] T (0, 0)) := heap_setCell_same _ B 2 _ _ x2 h1
  have h3 : ((((w.setCell ⟨B, 0, none⟩ x0).setCell ⟨B, 1, none⟩ x1).setCell ⟨B, 2, none⟩ x2).setCell ⟨B, 3, none⟩ x3).heap[B]? = some (.cells #[x0, x1, x2, x3, y4, y5, y6, y7, y8, y9, y10, y11, y12, y13, y14, y15, y16] T (0, 0)) := heap_setCell_same _ B 3 _ _ x3 h2
  have h4 : (((((w.setCell ⟨B, 0, none⟩ x0).setCell ⟨B, 1, none⟩ x1).setCell ⟨B, 2, none⟩ x2).setCell ⟨B, 3, none⟩ x3).setCell ⟨B, 4, none⟩ x4).heap[B]? = some (.cells #[x0, x1, x2, x3, x4, y5, y6, y7, y8, y9, y10, y11, y12, y13, y14, y15, y16] T (0, 0)) := heap_setCell_same _ B 4 _ _ x4 h3
  have h5 : ((((((w.setCell ⟨B, 0, none⟩ x0).setCell ⟨B, 1, none⟩ x1).setCell ⟨B, 2, none⟩ x2).setCell ⟨B, 3, none⟩ x3).setCell ⟨B, 4, none⟩ x4).setCell ⟨B, 5, none⟩ x5).heap[B]? = some (.cells #[x0, x1, x2, x3, x4, x5, y6, y7, y8, y9, y10, y11, y12, y13, y14, y15, y16] T (0, 0)) := heap_setCell_same _ B 5 _ _ x5 h4
  have h6 : (((((((w.setCell ⟨B, 0, none⟩ x0).setCell ⟨B, 1, none⟩ x1).setCell ⟨B, 2, none⟩ x2).setCell ⟨B, 3, none⟩ x3).setCell ⟨B, 4, none⟩ x4).setCell ⟨B, 5, none⟩ x5).setCell ⟨B, 6, none⟩ x6).heap[B]? = some (.cells #[x0, x1, x2, x3, x4, x5, x6, y7, y8, y9, y10, y11, y12, y13, y14, y15, y16] T (0, 0)) := heap_setCell_same _ B 6 _ _ x6 h5
  have h7 : ((((((((w.setCell ⟨B, 0, none⟩ x0).setCell ⟨B, 1, none⟩ x1).setCell ⟨B, 2, none⟩ x2).setCell ⟨B, 3, none⟩ x3).setCell ⟨B, 4, none⟩ x4).setCell ⟨B, 5, none⟩ x5).setCell ⟨B, 6, none⟩ x6).setCell ⟨B, 7, none⟩ x7).heap[B]? = some (.cells #[x0, x1, x2, x3, x4, x5, x6, x7, y8, y9, y10, y11, y12, y13, y14, y15, y16] T (0, 0)) := heap_setCell_same _ B 7 _ _ x7 h6
  have h8 : (((((((((w.setCell ⟨B, 0, none⟩ x0).setCell ⟨B, 1, none⟩ x1).setCell ⟨B, 2, none⟩ x2).setCell ⟨B, 3, none⟩ x3).setCell ⟨B, 4, none⟩ x4).setCell ⟨B, 5, none⟩ x5).setCell ⟨B, 6, none⟩ x6).setCell ⟨B, 7, none⟩ x7).setCell ⟨B, 8, none⟩ x8).heap[B]? = some (.cells #[x0, x1, x2, x3, x4, x5, x6, x7, x8, y9, y10, y11, y12, y13, y14, y15, y16] T (0, 0)) := heap_setCell_same _ B 8 _ _ x8 h7
  have h9 : ((((((((((w.setCell ⟨B, 0, none⟩ x0).setCell ⟨B, 1, none⟩ x1).setCell ⟨B, 2, none⟩ x2).setCell ⟨B, 3, none⟩ x3).setCell ⟨B, 4, none⟩ x4).setCell ⟨B, 5, none⟩ x5).setCell ⟨B, 6, none⟩ x6).setCell ⟨B, 7, none⟩ x7).setCell ⟨B, 8, none⟩ x8).setCell ⟨B, 9, none⟩ x9).heap[B]? = some (.cells #[x0, x1, x2, x3, x4, x5, x6, x7, x8, x9, y10, y11, y12, y13, y14, y15, y16] T (0, 0)) := heap_setCell_same _ B 9 _ _ x9 h8
  have h10 : (((((((((((w.setCell ⟨B, 0, none⟩ x0).setCell ⟨B, 1, none⟩ x1).setCell ⟨B, 2, none⟩ x2).setCell ⟨B, 3, none⟩ x3).setCell ⟨B, 4, none⟩ x4).setCell ⟨B, 5, none⟩ x5).setCell ⟨B, 6, none⟩ x6).setCell ⟨B, 7, none⟩ x7).setCell ⟨B, 8, none⟩ x8).setCell ⟨B, 9, none⟩ x9).setCell ⟨B, 10, none⟩ x10).heap[B]? = some (.cells #[x0, x1, x2, x3, x4, x5, x6, x7, x8, x9, x10, y11, y12, y13, y14, y15, y16] T (0, 0)) := heap_setCell_same _ B 10 _ _ x10 h9
  have h11 : ((((((((((((w.setCell ⟨B, 0, none⟩ x0).setCell ⟨B, 1, none⟩ x1).setCell ⟨B, 2, none⟩ x2).setCell ⟨B, 3, none⟩ x3).setCell ⟨B, 4, none⟩ x4).setCell ⟨B, 5, none⟩ x5).setCell ⟨B, 6, none⟩ x6).setCell ⟨B, 7, none⟩ x7).setCell ⟨B, 8, none⟩ x8).setCell ⟨B, 9, none⟩ x9).setCell ⟨B, 10, none⟩ x10).setCell ⟨B, 11, none⟩ x11).heap[B]? = some (.cells #[x0, x1, x2, x3, x4, x5, x6, x7, x8, x9, x10, x11, y12, y13, y14, y15, y16] T (0, 0)) := heap_setCell_same _ B 11 _ _ x11 h10
  have h12 : (((((((((((((w.setCell ⟨B, 0, none⟩ x0).setCell ⟨B, 1, none⟩ x1).setCell ⟨B, 2, none⟩ x2).setCell ⟨B, 3, none⟩ x3).setCell ⟨B, 4, none⟩ x4).setCell ⟨B, 5, none⟩ x5).setCell ⟨B, 6, none⟩ x6).setCell ⟨B, 7, none⟩ x7).setCell ⟨B, 8, none⟩ x8).setCell ⟨B, 9, none⟩ x9).setCell ⟨B, 10, none⟩ x10).setCell ⟨B, 11, none⟩ x11).setCell ⟨B, 12, none⟩ x12).heap[B]? = some (.cells #[x0, x1, x2, x3, x4, x5, x6, x7, x8, x9, x10, x11, x12, y13, y14, y15, y16] T (0, 0)) := heap_setCell_same _ B 12 _ _ x12 h11
  have h13 : ((((((((((((((w.setCell ⟨B, 0, none⟩ x0).setCell ⟨B, 1, none⟩ x1).setCell ⟨B, 2, none⟩ x2).setCell ⟨B, 3, none⟩ x3).setCell ⟨B, 4, none⟩ x4).setCell ⟨B, 5, none⟩ x5).setCell ⟨B, 6, none⟩ x6).setCell ⟨B, 7, none⟩ x7).setCell ⟨B, 8, none⟩ x8).setCell ⟨B, 9, none⟩ x9).setCell ⟨B, 10, none⟩ x10).setCell ⟨B, 11, none⟩ x11).setCell ⟨B, 12, none⟩ x12).setCell ⟨B, 13, none⟩ x13).heap[B]? = some (.cells #[x0, x1, x2, x3, x4, x5, x6, x7, x8, x9, x10, x11, x12, x13, y14, y15, y16] T (0, 0)) := heap_setCell_same _ B 13 _ _ x13 h12
  have h14 : (((((((((((((((w.setCell ⟨B, 0, none⟩ x0).setCell ⟨B, 1, none⟩ x1).setCell ⟨B, 2, none⟩ x2).setCell ⟨B, 3, none⟩ x3).setCell ⟨B, 4, none⟩ x4).setCell ⟨B, 5, none⟩ x5).setCell ⟨B, 6, none⟩ x6).setCell ⟨B, 7, none⟩ x7).setCell ⟨B, 8, none⟩ x8).setCell ⟨B, 9, none⟩ x9).setCell ⟨B, 10, none⟩ x10).setCell ⟨B, 11, none⟩ x11).setCell ⟨B, 12, none⟩ x12).setCell ⟨B, 13, none⟩ x13).setCell ⟨B, 14, none⟩ x14).heap[B]? = some (.cells #[x0, x1, x2, x3, x4, x5, x6, x7, x8, x9, x10, x11, x12, x13, x14, y15, y16] T (0, 0)) := heap_setCell_same _ B 14 _ _ x14 h13
  have h15 : ((((((((((((((((w.setCell ⟨B, 0, none⟩ x0).setCell ⟨B, 1, none⟩ x1).setCell ⟨B, 2, none⟩ x2).setCell ⟨B, 3, none⟩ x3).setCell ⟨B, 4, none⟩ x4).setCell ⟨B, 5, none⟩ x5).setCell ⟨B, 6, none⟩ x6).setCell ⟨B, 7, none⟩ x7).setCell ⟨B, 8, none⟩ x8).setCell ⟨B, 9, none⟩ x9).setCell ⟨B, 10, none⟩ x10).setCell ⟨B, 11, none⟩ x11).setCell ⟨B, 12, none⟩ x12).setCell ⟨B, 13, none⟩ x13).setCell ⟨B, 14, none⟩ x14).setCell ⟨B, 15, none⟩ x15).heap[B]? = some (.cells #[x0, x1, x2, x3, x4, x5, x6, x7, x8, x9, x10, x11, x12, x13, x14, x15, y16] T (0, 0)) := heap_setCell_same _ B 15 _ _ x15 h14
  have h16 : (((((((((((((((((w.setCell ⟨B, 0, none⟩ x0).setCell ⟨B, 1, none⟩ x1).setCell ⟨B, 2, none⟩ x2).setCell ⟨B, 3, none⟩ x3).setCell ⟨B, 4, none⟩ x4).setCell ⟨B, 5, none⟩ x5).setCell ⟨B, 6, none⟩ x6).setCell ⟨B, 7, none⟩ x7).setCell ⟨B, 8, none⟩ x8).setCell ⟨B, 9, none⟩ x9).setCell ⟨B, 10, none⟩ x10).setCell ⟨B, 11, none⟩ x11).setCell ⟨B, 12, none⟩ x12).setCell ⟨B, 13, none⟩ x13).setCell ⟨B, 14, none⟩ x14).setCell ⟨B, 15, none⟩ x15).setCell ⟨B, 16, none⟩ x16).heap[B]? = some (.cells #[x0, x1, x2, x3, x4, x5, x6, x7, x8, x9, x10, x11, x12, x13, x14, x15, x16] T (0, 0)) := heap_setCell_same _ B 16 _ _ x16 h15
  exact h16
theorem put17_kp {S : Nat → Prop} {a w : World} (h : Kp S a w) {B : Nat} (hB : a.heap.size ≤ B) (x0 x1 x2 x3 x4 x5 x6 x7 x8 x9 x10 x11 x12 x13 x14 x15 x16 : Value) : Kp S a (put17 w B x0 x1 x2 x3 x4 x5 x6 x7 x8 x9 x10 x11 x12 x13 x14 x15 x16) :=
  (((((((((((((((((h.set (p := ⟨B, 0, none⟩) (.inr hB) x0).set (p := ⟨B, 1, none⟩) (.inr hB) x1).set (p := ⟨B, 2, none⟩) (.inr hB) x2).set (p := ⟨B, 3, none⟩) (.inr hB) x3).set (p := ⟨B, 4, none⟩) (.inr hB) x4).set (p := ⟨B, 5, none⟩) (.inr hB) x5).set (p := ⟨B, 6, none⟩) (.inr hB) x6).set (p := ⟨B, 7, none⟩) (.inr hB) x7).set (p := ⟨B, 8, none⟩) (.inr hB) x8).set (p := ⟨B, 9, none⟩) (.inr hB) x9).set (p := ⟨B, 10, none⟩) (.inr hB) x10).set (p := ⟨B, 11, none⟩) (.inr hB) x11).set (p := ⟨B, 12, none⟩) (.inr hB) x12).set (p := ⟨B, 13, none⟩) (.inr hB) x13).set (p := ⟨B, 14, none⟩) (.inr hB) x14).set (p := ⟨B, 15, none⟩) (.inr hB) x15).set (p := ⟨B, 16, none⟩) (.inr hB) x16)
theorem put17_pat {w : World} {P n o B : Nat} {ts : List Tok} (h : PAt w P ts n o) (hB : P < B) (x0 x1 x2 x3 x4 x5 x6 x7 x8 x9 x10 x11 x12 x13 x14 x15 x16 : Value) : PAt (put17 w B x0 x1 x2 x3 x4 x5 x6 x7 x8 x9 x10 x11 x12 x13 x14 x15 x16) P ts n o :=
  (((((((((((((((((h.set (p := ⟨B, 0, none⟩) hB x0).set (p := ⟨B, 1, none⟩) hB x1).set (p := ⟨B, 2, none⟩) hB x2).set (p := ⟨B, 3, none⟩) hB x3).set (p := ⟨B, 4, none⟩) hB x4).set (p := ⟨B, 5, none⟩) hB x5).set (p := ⟨B, 6, none⟩) hB x6).set (p := ⟨B, 7, none⟩) hB x7).set (p := ⟨B, 8, none⟩) hB x8).set (p := ⟨B, 9, none⟩) hB x9).set (p := ⟨B, 10, none⟩) hB x10).set (p := ⟨B, 11, none⟩) hB x11).set (p := ⟨B, 12, none⟩) hB x12).set (p := ⟨B, 13, none⟩) hB x13).set (p := ⟨B, 14, none⟩) hB x14).set (p := ⟨B, 15, none⟩) hB x15).set (p := ⟨B, 16, none⟩) hB x16)
theorem info31s : (Tryz.prog.info? 31).map (·.size) = some 17 := by kernel_rfl
theorem has_any (u : ByteArray) (us : List ByteArray) (ts : List Tok) : (hasP u us ts = .ok (false, ts)) ∨ (∃ r, hasP u us ts = .ok (true, r)) ∨ ∃ q, hasP u us ts = .error q := by
  cases ts with
  | nil => exact .inl rfl
  | cons t r =>
    rw [hasP_cons]
    split
    · cases h : takeAll us r with
      | ok q => exact .inr (.inl ⟨q, rfl⟩)
      | error q => exact .inr (.inr ⟨q, rfl⟩)
    · exact .inl rfl
def ShOut (P n : Nat) (w : World) (R : Res S0) (e : Ending) (w' : World) : Prop :=
  Kp (· = P) w w' ∧ match R with
  | .ok (x, ts) => e = .returned (.agg (stCells x vNil vNil vNil vNil).toArray) ∧ PAt w' P ts n 0
  | .error q => e = stuckE n q
theorem words3 : Words ⟨#[77, 69, 65, 83, 85, 82, 69, 77, 69, 78, 84, 83]⟩ [wMEASUREMENTS] ∧ Words ⟨#[81, 85, 69, 82, 73, 69, 83]⟩ [wQUERIES] ∧ Words ⟨#[83, 69, 82, 73, 69, 83]⟩ [wSERIES] ∧ Words ⟨#[70, 82, 79, 77]⟩ [wFROM] ∧ Words ⟨#[70, 73, 69, 76, 68, 32, 75, 69, 89, 83, 32, 70, 82, 79, 77]⟩ [wFIELD, wKEYS, wFROM] ∧ Words ⟨#[84, 65, 71]⟩ [wTAG] ∧ Words ⟨#[75, 69, 89, 83, 32, 70, 82, 79, 77]⟩ [wKEYS, wFROM] ∧ Words ⟨#[86, 65, 76, 85, 69, 83, 32, 70, 82, 79, 77]⟩ [wVALUES, wFROM] ∧ Words ⟨#[75, 69, 89]⟩ [wKEY] := by
  refine ⟨?_, ?_, ?_, ?_, ?_, ?_, ?_, ?_, ?_⟩ <;> exact ⟨by decide, by decide, by decide, by decide⟩
set_option maxHeartbeats 8000000 in
theorem show_46 (P n : Nat) (W : World) (hE : Env W) (hWP : W.heap.size ≤ P) (ts : List Tok) (w : World) (hW : Below W.heap.size W w) (hP : PAt w P ts n 0) :
    Calls Tryz.prog 46 #[.pointer (some ⟨P, 0, none⟩)] w (ShOut P n w (showP ts)) := by
  obtain ⟨PP, hPP⟩ : ∃ PP, ShOut P n w (showP ts) = PP := ⟨_, rfl⟩
  rw [hPP]
  have HPP := Lib.hid hPP
  have HE := Lib.hid hE
  have HW := Lib.hid hW
  have HWP := Lib.hid hWP
  have HPB := Lib.hid hP.lt
  have hb0 : Below w.heap.size w (w.alloc (.cells #[.int .i64 0, .bool false, .slice none 0 0, .string ⟨#[]⟩, .string ⟨#[]⟩, .slice none 0 0, .int .i64 0, .slice none 0 0, .int .i64 0, .int .i64 0, .int .u64 0, .string ⟨#[]⟩, .bool false, .int .i64 0, .int .i64 0, .string ⟨#[]⟩, .slice none 0 0] 31 (0, 0))) := (Below.refl _ _).alloc (Nat.le_refl _) _
  have hk0 : Kp (· = P) w (w.alloc (.cells #[.int .i64 0, .bool false, .slice none 0 0, .string ⟨#[]⟩, .string ⟨#[]⟩, .slice none 0 0, .int .i64 0, .slice none 0 0, .int .i64 0, .int .i64 0, .int .u64 0, .string ⟨#[]⟩, .bool false, .int .i64 0, .int .i64 0, .string ⟨#[]⟩, .slice none 0 0] 31 (0, 0))) := Kp.of hb0
  have hq0 := hP.later hb0
  have hr0 := newest w (.cells #[.int .i64 0, .bool false, .slice none 0 0, .string ⟨#[]⟩, .string ⟨#[]⟩, .slice none 0 0, .int .i64 0, .slice none 0 0, .int .i64 0, .int .i64 0, .int .u64 0, .string ⟨#[]⟩, .bool false, .int .i64 0, .int .i64 0, .string ⟨#[]⟩, .slice none 0 0] 31 (0, 0))
  obtain ⟨w0, hw0⟩ : ∃ w0, w.alloc (.cells #[.int .i64 0, .bool false, .slice none 0 0, .string ⟨#[]⟩, .string ⟨#[]⟩, .slice none 0 0, .int .i64 0, .slice none 0 0, .int .i64 0, .int .i64 0, .int .u64 0, .string ⟨#[]⟩, .bool false, .int .i64 0, .int .i64 0, .string ⟨#[]⟩, .slice none 0 0] 31 (0, 0)) = w0 := ⟨_, rfl⟩
  rw [hw0] at hk0 hq0 hr0
  have HK0 := Lib.hid hk0
  have HQ0 := Lib.hid hq0
  have HR0 := Lib.hid hr0
  clear hPP hE hW hWP hP hb0 hk0 hq0 hr0
  go_enter Tryz.func46, Tryz.ntmps46
  go_upto_block 0 with (fail)
  go_cut [3] from 3 to 45 (fun _ w' => ∃ x q, showP ts = .ok (x, q) ∧ Kp (· = P) w w' ∧ PAt w' P q n 0 ∧ w'.heap[w.heap.size]? = some (.cells (stCells x vNil vNil vNil vNil).toArray 31 (0, 0)))
  case first =>
    have HM1 := Lib.hid (has_42 P n 0 ⟨#[77, 69, 65, 83, 85, 82, 69, 77, 69, 78, 84, 83]⟩ wMEASUREMENTS [] words3.1 ts W w0 HE.out (HW.out.trans (HK0.out.below HW.out.size (fun k e => by show W.heap.size ≤ k; rw [e]; exact HWP.out))) HQ0.out)
    go_wp2_with fail
    refine HM1.out.mono ?_
    clear HM1
    rintro e w1 ⟨hk1, hm1⟩
    have HR1 : Hid (w1.heap[w.heap.size]? = some (.cells #[.int .i64 0, .bool false, .slice none 0 0, .string ⟨#[]⟩, .string ⟨#[]⟩, .slice none 0 0, .int .i64 0, .slice none 0 0, .int .i64 0, .int .i64 0, .int .u64 0, .string ⟨#[]⟩, .bool false, .int .i64 0, .int .i64 0, .string ⟨#[]⟩, .slice none 0 0] 31 (0, 0))) := Lib.hid ((hk1.block w.heap.size (lt_of_block HR0.out) (by show ¬ w.heap.size = P; have := HPB.out; omega)).trans HR0.out)
    have HK1 := Lib.hid (HK0.out.then hk1)
    clear hk1 
    rcases has_any wMEASUREMENTS [] ts with e1 | ⟨r1, e1⟩ | ⟨q1, e1⟩
    · rw [e1] at hm1
      obtain ⟨rfl, hp1⟩ := hm1
      have HQ1 := Lib.hid hp1
      have E1 := Lib.hid e1
      clear e1 hp1
      have HM2 := Lib.hid (has_42 P n 0 ⟨#[81, 85, 69, 82, 73, 69, 83]⟩ wQUERIES [] words3.2.1 ts W w1 HE.out (HW.out.trans (HK1.out.below HW.out.size (fun k e => by show W.heap.size ≤ k; rw [e]; exact HWP.out))) HQ1.out)
      go_wp2_with fail
      refine HM2.out.mono ?_
      clear HM2
      rintro e w2 ⟨hk2, hm2⟩
      have HR2 : Hid (w2.heap[w.heap.size]? = some (.cells #[.int .i64 0, .bool false, .slice none 0 0, .string ⟨#[]⟩, .string ⟨#[]⟩, .slice none 0 0, .int .i64 0, .slice none 0 0, .int .i64 0, .int .i64 0, .int .u64 0, .string ⟨#[]⟩, .bool false, .int .i64 0, .int .i64 0, .string ⟨#[]⟩, .slice none 0 0] 31 (0, 0))) := Lib.hid ((hk2.block w.heap.size (lt_of_block HR1.out) (by show ¬ w.heap.size = P; have := HPB.out; omega)).trans HR1.out)
      have HK2 := Lib.hid (HK1.out.then hk2)
      clear hk2 
      rcases has_any wQUERIES [] ts with e1 | ⟨r2, e1⟩ | ⟨q2, e1⟩
      · rw [e1] at hm2
        obtain ⟨rfl, hp2⟩ := hm2
        have HQ2 := Lib.hid hp2
        have E2 := Lib.hid e1
        clear e1 hp2
        have HM3 := Lib.hid (has_42 P n 0 ⟨#[83, 69, 82, 73, 69, 83]⟩ wSERIES [] words3.2.2.1 ts W w2 HE.out (HW.out.trans (HK2.out.below HW.out.size (fun k e => by show W.heap.size ≤ k; rw [e]; exact HWP.out))) HQ2.out)
        go_wp2_with fail
        refine HM3.out.mono ?_
        clear HM3
        rintro e w3 ⟨hk3, hm3⟩
        have HR3 : Hid (w3.heap[w.heap.size]? = some (.cells #[.int .i64 0, .bool false, .slice none 0 0, .string ⟨#[]⟩, .string ⟨#[]⟩, .slice none 0 0, .int .i64 0, .slice none 0 0, .int .i64 0, .int .i64 0, .int .u64 0, .string ⟨#[]⟩, .bool false, .int .i64 0, .int .i64 0, .string ⟨#[]⟩, .slice none 0 0] 31 (0, 0))) := Lib.hid ((hk3.block w.heap.size (lt_of_block HR2.out) (by show ¬ w.heap.size = P; have := HPB.out; omega)).trans HR2.out)
        have HK3 := Lib.hid (HK2.out.then hk3)
        clear hk3 
        rcases has_any wSERIES [] ts with e1 | ⟨r3, e1⟩ | ⟨q3, e1⟩
        · rw [e1] at hm3
          obtain ⟨rfl, hp3⟩ := hm3
          have HQ3 := Lib.hid hp3
          have E3 := Lib.hid e1
          clear e1 hp3
          have HM4 := Lib.hid (has_42 P n 0 ⟨#[70, 73, 69, 76, 68, 32, 75, 69, 89, 83, 32, 70, 82, 79, 77]⟩ wFIELD [wKEYS, wFROM] words3.2.2.2.2.1 ts W w3 HE.out (HW.out.trans (HK3.out.below HW.out.size (fun k e => by show W.heap.size ≤ k; rw [e]; exact HWP.out))) HQ3.out)
          go_wp2_with fail
          refine HM4.out.mono ?_
          clear HM4
          rintro e w4 ⟨hk4, hm4⟩
          have HR4 : Hid (w4.heap[w.heap.size]? = some (.cells #[.int .i64 0, .bool false, .slice none 0 0, .string ⟨#[]⟩, .string ⟨#[]⟩, .slice none 0 0, .int .i64 0, .slice none 0 0, .int .i64 0, .int .i64 0, .int .u64 0, .string ⟨#[]⟩, .bool false, .int .i64 0, .int .i64 0, .string ⟨#[]⟩, .slice none 0 0] 31 (0, 0))) := Lib.hid ((hk4.block w.heap.size (lt_of_block HR3.out) (by show ¬ w.heap.size = P; have := HPB.out; omega)).trans HR3.out)
          have HK4 := Lib.hid (HK3.out.then hk4)
          clear hk4 
          rcases has_any wFIELD [wKEYS, wFROM] ts with e1 | ⟨r4, e1⟩ | ⟨q4, e1⟩
          · rw [e1] at hm4
            obtain ⟨rfl, hp4⟩ := hm4
            have HQ4 := Lib.hid hp4
            have E4 := Lib.hid e1
            clear e1 hp4
            have HM5 := Lib.hid (must_45 P n 0 ⟨#[84, 65, 71]⟩ wTAG [] words3.2.2.2.2.2.1 ts W w4 HE.out (HW.out.trans (HK4.out.below HW.out.size (fun k e => by show W.heap.size ≤ k; rw [e]; exact HWP.out))) HQ4.out)
            go_wp2_with fail
            refine HM5.out.mono ?_
            clear HM5
            rintro e w5 ⟨hk5, hm5⟩
            have HR5 : Hid (w5.heap[w.heap.size]? = some (.cells #[.int .i64 0, .bool false, .slice none 0 0, .string ⟨#[]⟩, .string ⟨#[]⟩, .slice none 0 0, .int .i64 0, .slice none 0 0, .int .i64 0, .int .i64 0, .int .u64 0, .string ⟨#[]⟩, .bool false, .int .i64 0, .int .i64 0, .string ⟨#[]⟩, .slice none 0 0] 31 (0, 0))) := Lib.hid ((hk5.block w.heap.size (lt_of_block HR4.out) (by show ¬ w.heap.size = P; have := HPB.out; omega)).trans HR4.out)
            have HK5 := Lib.hid (HK4.out.then hk5)
            clear hk5 
            cases hta5 : takeAll [wTAG] ts with
            | error q5 =>
              simp only [mustR, hta5] at hm5
              obtain rfl := hm5
              unfold stuckE
              simp (config := { zetaDelta := true }) only []
              refine ⟨rfl, ?_⟩
              rw [← HPP.out, show showP ts = .error _ by simp only [showP, ifHas, mustP, E1.out, E2.out, E3.out, E4.out, hta5]; rfl]
              exact ⟨HK5.out, rfl⟩
            | ok r5 =>
              simp only [mustR, hta5] at hm5
              obtain ⟨rfl, hp5⟩ := hm5
              have HQ5 := Lib.hid hp5
              have E5 := Lib.hid hta5
              clear hta5 hp5
              have HM6 := Lib.hid (has_42 P n 0 ⟨#[75, 69, 89, 83, 32, 70, 82, 79, 77]⟩ wKEYS [wFROM] words3.2.2.2.2.2.2.1 r5 W w5 HE.out (HW.out.trans (HK5.out.below HW.out.size (fun k e => by show W.heap.size ≤ k; rw [e]; exact HWP.out))) HQ5.out)
              go_wp2_with fail
              refine HM6.out.mono ?_
              clear HM6
              rintro e w6 ⟨hk6, hm6⟩
              have HR6 : Hid (w6.heap[w.heap.size]? = some (.cells #[.int .i64 0, .bool false, .slice none 0 0, .string ⟨#[]⟩, .string ⟨#[]⟩, .slice none 0 0, .int .i64 0, .slice none 0 0, .int .i64 0, .int .i64 0, .int .u64 0, .string ⟨#[]⟩, .bool false, .int .i64 0, .int .i64 0, .string ⟨#[]⟩, .slice none 0 0] 31 (0, 0))) := Lib.hid ((hk6.block w.heap.size (lt_of_block HR5.out) (by show ¬ w.heap.size = P; have := HPB.out; omega)).trans HR5.out)
              have HK6 := Lib.hid (HK5.out.then hk6)
              clear hk6 
              rcases has_any wKEYS [wFROM] r5 with e1 | ⟨r6, e1⟩ | ⟨q6, e1⟩
              · rw [e1] at hm6
                obtain ⟨rfl, hp6⟩ := hm6
                have HQ6 := Lib.hid hp6
                have E6 := Lib.hid e1
                clear e1 hp6
                have HM7 := Lib.hid (must_45 P n 0 ⟨#[86, 65, 76, 85, 69, 83, 32, 70, 82, 79, 77]⟩ wVALUES [wFROM] words3.2.2.2.2.2.2.2.1 r5 W w6 HE.out (HW.out.trans (HK6.out.below HW.out.size (fun k e => by show W.heap.size ≤ k; rw [e]; exact HWP.out))) HQ6.out)
                go_wp2_with fail
                refine HM7.out.mono ?_
                clear HM7
                rintro e w7 ⟨hk7, hm7⟩
                have HR7 : Hid (w7.heap[w.heap.size]? = some (.cells #[.int .i64 0, .bool false, .slice none 0 0, .string ⟨#[]⟩, .string ⟨#[]⟩, .slice none 0 0, .int .i64 0, .slice none 0 0, .int .i64 0, .int .i64 0, .int .u64 0, .string ⟨#[]⟩, .bool false, .int .i64 0, .int .i64 0, .string ⟨#[]⟩, .slice none 0 0] 31 (0, 0))) := Lib.hid ((hk7.block w.heap.size (lt_of_block HR6.out) (by show ¬ w.heap.size = P; have := HPB.out; omega)).trans HR6.out)
                have HK7 := Lib.hid (HK6.out.then hk7)
                clear hk7 
                cases hta7 : takeAll [wVALUES, wFROM] r5 with
                | error q7 =>
                  simp only [mustR, hta7] at hm7
                  obtain rfl := hm7
                  unfold stuckE
                  simp (config := { zetaDelta := true }) only []
                  refine ⟨rfl, ?_⟩
                  rw [← HPP.out, show showP ts = .error _ by simp only [showP, ifHas, mustP, E1.out, E2.out, E3.out, E4.out, E5.out, E6.out, hta7]; rfl]
                  exact ⟨HK7.out, rfl⟩
                | ok r7 =>
                  simp only [mustR, hta7] at hm7
                  obtain ⟨rfl, hp7⟩ := hm7
                  have HQ7 := Lib.hid hp7
                  have E7 := Lib.hid hta7
                  clear hta7 hp7
                  have HM8 := Lib.hid (name_43 P n 0 r7 W w7 HE.out (HW.out.trans (HK7.out.below HW.out.size (fun k e => by show W.heap.size ≤ k; rw [e]; exact HWP.out))) HQ7.out)
                  go_wp2_with fail
                  refine HM8.out.mono ?_
                  clear HM8
                  rintro e w8 ⟨hk8, hm8⟩
                  have HR8 : Hid (w8.heap[w.heap.size]? = some (.cells #[.int .i64 0, .bool false, .slice none 0 0, .string ⟨#[]⟩, .string ⟨#[]⟩, .slice none 0 0, .int .i64 0, .slice none 0 0, .int .i64 0, .int .i64 0, .int .u64 0, .string ⟨#[]⟩, .bool false, .int .i64 0, .int .i64 0, .string ⟨#[]⟩, .slice none 0 0] 31 (0, 0))) := Lib.hid ((hk8.block w.heap.size (lt_of_block HR7.out) (by show ¬ w.heap.size = P; have := HPB.out; omega)).trans HR7.out)
                  have HK8 := Lib.hid (HK7.out.then hk8)
                  clear hk8 
                  cases hnm8 : nameP r7 with
                  | error q8 =>
                    rw [hnm8] at hm8
                    obtain rfl := hm8
                    unfold stuckE
                    simp (config := { zetaDelta := true }) only []
                    refine ⟨rfl, ?_⟩
                    rw [← HPP.out, show showP ts = .error _ by simp only [showP, ifHas, mustP, bindR, E1.out, E2.out, E3.out, E4.out, E5.out, E6.out, E7.out, hnm8]; rfl]
                    exact ⟨HK8.out, rfl⟩
                  | ok nr8 =>
                    obtain ⟨nm8, r8⟩ := nr8
                    rw [hnm8] at hm8
                    obtain ⟨rfl, hp8⟩ := hm8
                    have HQ8 := Lib.hid hp8
                    have E8 := Lib.hid hnm8
                    clear hnm8 hp8
                    have HM9 := Lib.hid (must_45 P n 0 ⟨#[75, 69, 89]⟩ wKEY [] words3.2.2.2.2.2.2.2.2 r8 W ((w8.setCell ⟨w.heap.size, 0, none⟩ (.int .i64 7)).setCell ⟨w.heap.size, 4, none⟩ (.string nm8)) HE.out (HW.out.trans (((HK8.out.set (p := ⟨w.heap.size, 0, none⟩) (.inr (Nat.le_refl _)) (.int .i64 7)).set (p := ⟨w.heap.size, 4, none⟩) (.inr (Nat.le_refl _)) (.string nm8)).below HW.out.size (fun k e => by show W.heap.size ≤ k; rw [e]; exact HWP.out))) ((HQ8.out.set (p := ⟨w.heap.size, 0, none⟩) HPB.out (.int .i64 7)).set (p := ⟨w.heap.size, 4, none⟩) HPB.out (.string nm8)))
                    have d0 : w8.cell? ⟨w.heap.size, 0, none⟩ = some (.int .i64 0) := Lib.cell_of_heap HR8.out 0
                    have f0 : w8.frozen? ⟨w.heap.size, 0, none⟩ = false := Lib.frozen_of_heap HR8.out 0
                    have d4 : w8.cell? ⟨w.heap.size, 4, none⟩ = some (.string ⟨#[]⟩) := Lib.cell_of_heap HR8.out 4
                    have f4 : w8.frozen? ⟨w.heap.size, 4, none⟩ = false := Lib.frozen_of_heap HR8.out 4
                    go_wp2_with fail
                    refine HM9.out.mono ?_
                    clear HM9
                    rintro e w9 ⟨hk9, hm9⟩
                    have HR9 : Hid (w9.heap[w.heap.size]? = some (.cells #[.int .i64 7, .bool false, .slice none 0 0, .string ⟨#[]⟩, .string nm8, .slice none 0 0, .int .i64 0, .slice none 0 0, .int .i64 0, .int .i64 0, .int .u64 0, .string ⟨#[]⟩, .bool false, .int .i64 0, .int .i64 0, .string ⟨#[]⟩, .slice none 0 0] 31 (0, 0))) := Lib.hid ((hk9.block w.heap.size (lt_of_block (heap_setCell_same _ _ _ _ _ _ (heap_setCell_same _ _ _ _ _ _ HR8.out))) (by show ¬ w.heap.size = P; have := HPB.out; omega)).trans (heap_setCell_same _ _ _ _ _ _ (heap_setCell_same _ _ _ _ _ _ HR8.out)))
                    have HK9 := Lib.hid (((HK8.out.set (p := ⟨w.heap.size, 0, none⟩) (.inr (Nat.le_refl _)) (.int .i64 7)).set (p := ⟨w.heap.size, 4, none⟩) (.inr (Nat.le_refl _)) (.string nm8)).then hk9)
                    clear hk9 d0 f0 d4 f4
                    cases hta9 : takeAll [wKEY] r8 with
                    | error q9 =>
                      simp only [mustR, hta9] at hm9
                      obtain rfl := hm9
                      unfold stuckE
                      simp (config := { zetaDelta := true }) only []
                      refine ⟨rfl, ?_⟩
                      rw [← HPP.out, show showP ts = .error _ by simp only [showP, ifHas, mustP, bindR, E1.out, E2.out, E3.out, E4.out, E5.out, E6.out, E7.out, E8.out, hta9]; rfl]
                      exact ⟨HK9.out, rfl⟩
                    | ok r9 =>
                      simp only [mustR, hta9] at hm9
                      obtain ⟨rfl, hp9⟩ := hm9
                      have HQ9 := Lib.hid hp9
                      have E9 := Lib.hid hta9
                      clear hta9 hp9
                      have HM10 := Lib.hid (name_43 P n 0 r9 W w9 HE.out (HW.out.trans (HK9.out.below HW.out.size (fun k e => by show W.heap.size ≤ k; rw [e]; exact HWP.out))) HQ9.out)
                      go_wp2_with fail
                      refine HM10.out.mono ?_
                      clear HM10
                      rintro e w10 ⟨hk10, hm10⟩
                      have HR10 : Hid (w10.heap[w.heap.size]? = some (.cells #[.int .i64 7, .bool false, .slice none 0 0, .string ⟨#[]⟩, .string nm8, .slice none 0 0, .int .i64 0, .slice none 0 0, .int .i64 0, .int .i64 0, .int .u64 0, .string ⟨#[]⟩, .bool false, .int .i64 0, .int .i64 0, .string ⟨#[]⟩, .slice none 0 0] 31 (0, 0))) := Lib.hid ((hk10.block w.heap.size (lt_of_block HR9.out) (by show ¬ w.heap.size = P; have := HPB.out; omega)).trans HR9.out)
                      have HK10 := Lib.hid (HK9.out.then hk10)
                      clear hk10 
                      cases hnm10 : nameP r9 with
                      | error q10 =>
                        rw [hnm10] at hm10
                        obtain rfl := hm10
                        unfold stuckE
                        simp (config := { zetaDelta := true }) only []
                        refine ⟨rfl, ?_⟩
                        rw [← HPP.out, show showP ts = .error _ by simp only [showP, ifHas, mustP, bindR, E1.out, E2.out, E3.out, E4.out, E5.out, E6.out, E7.out, E8.out, E9.out, hnm10]; rfl]
                        exact ⟨HK10.out, rfl⟩
                      | ok nr10 =>
                        obtain ⟨nm10, r10⟩ := nr10
                        rw [hnm10] at hm10
                        obtain ⟨rfl, hp10⟩ := hm10
                        have HQ10 := Lib.hid hp10
                        have E10 := Lib.hid hnm10
                        clear hnm10 hp10
                        have d15 : w10.cell? ⟨w.heap.size, 15, none⟩ = some (.string ⟨#[]⟩) := Lib.cell_of_heap HR10.out 15
                        have f15 : w10.frozen? ⟨w.heap.size, 15, none⟩ = false := Lib.frozen_of_heap HR10.out 15
                        have hsp : showP ts = .ok ({ s0 with kind := 7, frm := nm8, name := nm10 }, r10) := by simp only [showP, ifHas, mustP, bindR, E1.out, E2.out, E3.out, E4.out, E5.out, E6.out, E7.out, E8.out, E9.out, E10.out]
                        have HSP := Lib.hid hsp
                        clear hsp
                        go_wp2_with fail
                        go_meet
                        exact ⟨_, _, HSP.out, (HK10.out.set (p := ⟨w.heap.size, 15, none⟩) (.inr (Nat.le_refl _)) (.string nm10)), (HQ10.out.set (p := ⟨w.heap.size, 15, none⟩) HPB.out (.string nm10)), (heap_setCell_same _ _ _ _ _ _ HR10.out)⟩
              · rw [e1] at hm6
                obtain ⟨rfl, hp6⟩ := hm6
                have HQ6 := Lib.hid hp6
                have E6 := Lib.hid e1
                clear e1 hp6
                have HM11 := Lib.hid (name_43 P n 0 r6 W w6 HE.out (HW.out.trans (HK6.out.below HW.out.size (fun k e => by show W.heap.size ≤ k; rw [e]; exact HWP.out))) HQ6.out)
                go_wp2_with fail
                refine HM11.out.mono ?_
                clear HM11
                rintro e w11 ⟨hk11, hm11⟩
                have HR11 : Hid (w11.heap[w.heap.size]? = some (.cells #[.int .i64 0, .bool false, .slice none 0 0, .string ⟨#[]⟩, .string ⟨#[]⟩, .slice none 0 0, .int .i64 0, .slice none 0 0, .int .i64 0, .int .i64 0, .int .u64 0, .string ⟨#[]⟩, .bool false, .int .i64 0, .int .i64 0, .string ⟨#[]⟩, .slice none 0 0] 31 (0, 0))) := Lib.hid ((hk11.block w.heap.size (lt_of_block HR6.out) (by show ¬ w.heap.size = P; have := HPB.out; omega)).trans HR6.out)
                have HK11 := Lib.hid (HK6.out.then hk11)
                clear hk11 
                cases hnm11 : nameP r6 with
                | error q11 =>
                  rw [hnm11] at hm11
                  obtain rfl := hm11
                  unfold stuckE
                  simp (config := { zetaDelta := true }) only []
                  refine ⟨rfl, ?_⟩
                  rw [← HPP.out, show showP ts = .error _ by simp only [showP, ifHas, mustP, bindR, E1.out, E2.out, E3.out, E4.out, E5.out, E6.out, hnm11]; rfl]
                  exact ⟨HK11.out, rfl⟩
                | ok nr11 =>
                  obtain ⟨nm11, r11⟩ := nr11
                  rw [hnm11] at hm11
                  obtain ⟨rfl, hp11⟩ := hm11
                  have HQ11 := Lib.hid hp11
                  have E11 := Lib.hid hnm11
                  clear hnm11 hp11
                  have d0 : w11.cell? ⟨w.heap.size, 0, none⟩ = some (.int .i64 0) := Lib.cell_of_heap HR11.out 0
                  have f0 : w11.frozen? ⟨w.heap.size, 0, none⟩ = false := Lib.frozen_of_heap HR11.out 0
                  have d4 : w11.cell? ⟨w.heap.size, 4, none⟩ = some (.string ⟨#[]⟩) := Lib.cell_of_heap HR11.out 4
                  have f4 : w11.frozen? ⟨w.heap.size, 4, none⟩ = false := Lib.frozen_of_heap HR11.out 4
                  have hsp : showP ts = .ok ({ s0 with kind := 6, frm := nm11 }, r11) := by simp only [showP, ifHas, mustP, bindR, E1.out, E2.out, E3.out, E4.out, E5.out, E6.out, E11.out]
                  have HSP := Lib.hid hsp
                  clear hsp
                  go_wp2_with fail
                  go_meet
                  exact ⟨_, _, HSP.out, ((HK11.out.set (p := ⟨w.heap.size, 0, none⟩) (.inr (Nat.le_refl _)) (.int .i64 6)).set (p := ⟨w.heap.size, 4, none⟩) (.inr (Nat.le_refl _)) (.string nm11)), ((HQ11.out.set (p := ⟨w.heap.size, 0, none⟩) HPB.out (.int .i64 6)).set (p := ⟨w.heap.size, 4, none⟩) HPB.out (.string nm11)), (heap_setCell_same _ _ _ _ _ _ (heap_setCell_same _ _ _ _ _ _ HR11.out))⟩
              · rw [e1] at hm6
                obtain rfl := hm6
                unfold stuckE
                simp (config := { zetaDelta := true }) only []
                refine ⟨rfl, ?_⟩
                rw [← HPP.out, show showP ts = .error _ by simp only [showP, ifHas, mustP, E1.out, E2.out, E3.out, E4.out, E5.out, e1]; rfl]
                exact ⟨HK6.out, rfl⟩
          · rw [e1] at hm4
            obtain ⟨rfl, hp4⟩ := hm4
            have HQ4 := Lib.hid hp4
            have E4 := Lib.hid e1
            clear e1 hp4
            have HM12 := Lib.hid (name_43 P n 0 r4 W w4 HE.out (HW.out.trans (HK4.out.below HW.out.size (fun k e => by show W.heap.size ≤ k; rw [e]; exact HWP.out))) HQ4.out)
            go_wp2_with fail
            refine HM12.out.mono ?_
            clear HM12
            rintro e w12 ⟨hk12, hm12⟩
            have HR12 : Hid (w12.heap[w.heap.size]? = some (.cells #[.int .i64 0, .bool false, .slice none 0 0, .string ⟨#[]⟩, .string ⟨#[]⟩, .slice none 0 0, .int .i64 0, .slice none 0 0, .int .i64 0, .int .i64 0, .int .u64 0, .string ⟨#[]⟩, .bool false, .int .i64 0, .int .i64 0, .string ⟨#[]⟩, .slice none 0 0] 31 (0, 0))) := Lib.hid ((hk12.block w.heap.size (lt_of_block HR4.out) (by show ¬ w.heap.size = P; have := HPB.out; omega)).trans HR4.out)
            have HK12 := Lib.hid (HK4.out.then hk12)
            clear hk12 
            cases hnm12 : nameP r4 with
            | error q12 =>
              rw [hnm12] at hm12
              obtain rfl := hm12
              unfold stuckE
              simp (config := { zetaDelta := true }) only []
              refine ⟨rfl, ?_⟩
              rw [← HPP.out, show showP ts = .error _ by simp only [showP, ifHas, bindR, E1.out, E2.out, E3.out, E4.out, hnm12]; rfl]
              exact ⟨HK12.out, rfl⟩
            | ok nr12 =>
              obtain ⟨nm12, r12⟩ := nr12
              rw [hnm12] at hm12
              obtain ⟨rfl, hp12⟩ := hm12
              have HQ12 := Lib.hid hp12
              have E12 := Lib.hid hnm12
              clear hnm12 hp12
              have d0 : w12.cell? ⟨w.heap.size, 0, none⟩ = some (.int .i64 0) := Lib.cell_of_heap HR12.out 0
              have f0 : w12.frozen? ⟨w.heap.size, 0, none⟩ = false := Lib.frozen_of_heap HR12.out 0
              have d4 : w12.cell? ⟨w.heap.size, 4, none⟩ = some (.string ⟨#[]⟩) := Lib.cell_of_heap HR12.out 4
              have f4 : w12.frozen? ⟨w.heap.size, 4, none⟩ = false := Lib.frozen_of_heap HR12.out 4
              have hsp : showP ts = .ok ({ s0 with kind := 8, frm := nm12 }, r12) := by simp only [showP, ifHas, bindR, E1.out, E2.out, E3.out, E4.out, E12.out]
              have HSP := Lib.hid hsp
              clear hsp
              go_wp2_with fail
              go_meet
              exact ⟨_, _, HSP.out, ((HK12.out.set (p := ⟨w.heap.size, 0, none⟩) (.inr (Nat.le_refl _)) (.int .i64 8)).set (p := ⟨w.heap.size, 4, none⟩) (.inr (Nat.le_refl _)) (.string nm12)), ((HQ12.out.set (p := ⟨w.heap.size, 0, none⟩) HPB.out (.int .i64 8)).set (p := ⟨w.heap.size, 4, none⟩) HPB.out (.string nm12)), (heap_setCell_same _ _ _ _ _ _ (heap_setCell_same _ _ _ _ _ _ HR12.out))⟩
          · rw [e1] at hm4
            obtain rfl := hm4
            unfold stuckE
            simp (config := { zetaDelta := true }) only []
            refine ⟨rfl, ?_⟩
            rw [← HPP.out, show showP ts = .error _ by simp only [showP, ifHas, E1.out, E2.out, E3.out, e1]; rfl]
            exact ⟨HK4.out, rfl⟩
        · rw [e1] at hm3
          obtain ⟨rfl, hp3⟩ := hm3
          have HQ3 := Lib.hid hp3
          have E3 := Lib.hid e1
          clear e1 hp3
          have HM13 := Lib.hid (has_42 P n 0 ⟨#[70, 82, 79, 77]⟩ wFROM [] words3.2.2.2.1 r3 W (w3.setCell ⟨w.heap.size, 0, none⟩ (.int .i64 5)) HE.out (HW.out.trans ((HK3.out.set (p := ⟨w.heap.size, 0, none⟩) (.inr (Nat.le_refl _)) (.int .i64 5)).below HW.out.size (fun k e => by show W.heap.size ≤ k; rw [e]; exact HWP.out))) (HQ3.out.set (p := ⟨w.heap.size, 0, none⟩) HPB.out (.int .i64 5)))
          have d0 : w3.cell? ⟨w.heap.size, 0, none⟩ = some (.int .i64 0) := Lib.cell_of_heap HR3.out 0
          have f0 : w3.frozen? ⟨w.heap.size, 0, none⟩ = false := Lib.frozen_of_heap HR3.out 0
          go_wp2_with fail
          refine HM13.out.mono ?_
          clear HM13
          rintro e w13 ⟨hk13, hm13⟩
          have HR13 : Hid (w13.heap[w.heap.size]? = some (.cells #[.int .i64 5, .bool false, .slice none 0 0, .string ⟨#[]⟩, .string ⟨#[]⟩, .slice none 0 0, .int .i64 0, .slice none 0 0, .int .i64 0, .int .i64 0, .int .u64 0, .string ⟨#[]⟩, .bool false, .int .i64 0, .int .i64 0, .string ⟨#[]⟩, .slice none 0 0] 31 (0, 0))) := Lib.hid ((hk13.block w.heap.size (lt_of_block (heap_setCell_same _ _ _ _ _ _ HR3.out)) (by show ¬ w.heap.size = P; have := HPB.out; omega)).trans (heap_setCell_same _ _ _ _ _ _ HR3.out))
          have HK13 := Lib.hid ((HK3.out.set (p := ⟨w.heap.size, 0, none⟩) (.inr (Nat.le_refl _)) (.int .i64 5)).then hk13)
          clear hk13 d0 f0
          rcases has_any wFROM [] r3 with e1 | ⟨r13, e1⟩ | ⟨q13, e1⟩
          · rw [e1] at hm13
            obtain ⟨rfl, hp13⟩ := hm13
            have HQ13 := Lib.hid hp13
            have E13 := Lib.hid e1
            clear e1 hp13
            have hsp : showP ts = .ok ({ s0 with kind := 5 }, r3) := by simp only [showP, ifHas, E1.out, E2.out, E3.out, E13.out]
            have HSP := Lib.hid hsp
            clear hsp
            go_wp2_with fail
            go_meet
            exact ⟨_, _, HSP.out, HK13.out, HQ13.out, HR13.out⟩
          · rw [e1] at hm13
            obtain ⟨rfl, hp13⟩ := hm13
            have HQ13 := Lib.hid hp13
            have E13 := Lib.hid e1
            clear e1 hp13
            have HM14 := Lib.hid (name_43 P n 0 r13 W w13 HE.out (HW.out.trans (HK13.out.below HW.out.size (fun k e => by show W.heap.size ≤ k; rw [e]; exact HWP.out))) HQ13.out)
            go_wp2_with fail
            refine HM14.out.mono ?_
            clear HM14
            rintro e w14 ⟨hk14, hm14⟩
            have HR14 : Hid (w14.heap[w.heap.size]? = some (.cells #[.int .i64 5, .bool false, .slice none 0 0, .string ⟨#[]⟩, .string ⟨#[]⟩, .slice none 0 0, .int .i64 0, .slice none 0 0, .int .i64 0, .int .i64 0, .int .u64 0, .string ⟨#[]⟩, .bool false, .int .i64 0, .int .i64 0, .string ⟨#[]⟩, .slice none 0 0] 31 (0, 0))) := Lib.hid ((hk14.block w.heap.size (lt_of_block HR13.out) (by show ¬ w.heap.size = P; have := HPB.out; omega)).trans HR13.out)
            have HK14 := Lib.hid (HK13.out.then hk14)
            clear hk14 
            cases hnm14 : nameP r13 with
            | error q14 =>
              rw [hnm14] at hm14
              obtain rfl := hm14
              unfold stuckE
              simp (config := { zetaDelta := true }) only []
              refine ⟨rfl, ?_⟩
              rw [← HPP.out, show showP ts = .error _ by simp only [showP, ifHas, bindR, E1.out, E2.out, E3.out, E13.out, hnm14]; rfl]
              exact ⟨HK14.out, rfl⟩
            | ok nr14 =>
              obtain ⟨nm14, r14⟩ := nr14
              rw [hnm14] at hm14
              obtain ⟨rfl, hp14⟩ := hm14
              have HQ14 := Lib.hid hp14
              have E14 := Lib.hid hnm14
              clear hnm14 hp14
              have d4 : w14.cell? ⟨w.heap.size, 4, none⟩ = some (.string ⟨#[]⟩) := Lib.cell_of_heap HR14.out 4
              have f4 : w14.frozen? ⟨w.heap.size, 4, none⟩ = false := Lib.frozen_of_heap HR14.out 4
              have hsp : showP ts = .ok ({ s0 with kind := 5, frm := nm14 }, r14) := by simp only [showP, ifHas, bindR, E1.out, E2.out, E3.out, E13.out, E14.out]
              have HSP := Lib.hid hsp
              clear hsp
              go_wp2_with fail
              go_meet
              exact ⟨_, _, HSP.out, (HK14.out.set (p := ⟨w.heap.size, 4, none⟩) (.inr (Nat.le_refl _)) (.string nm14)), (HQ14.out.set (p := ⟨w.heap.size, 4, none⟩) HPB.out (.string nm14)), (heap_setCell_same _ _ _ _ _ _ HR14.out)⟩
          · rw [e1] at hm13
            obtain rfl := hm13
            unfold stuckE
            simp (config := { zetaDelta := true }) only []
            refine ⟨rfl, ?_⟩
            rw [← HPP.out, show showP ts = .error _ by simp only [showP, ifHas, E1.out, E2.out, E3.out, e1]; rfl]
            exact ⟨HK13.out, rfl⟩
        · rw [e1] at hm3
          obtain rfl := hm3
          unfold stuckE
          simp (config := { zetaDelta := true }) only []
          refine ⟨rfl, ?_⟩
          rw [← HPP.out, show showP ts = .error _ by simp only [showP, ifHas, E1.out, E2.out, e1]; rfl]
          exact ⟨HK3.out, rfl⟩
      · rw [e1] at hm2
        obtain ⟨rfl, hp2⟩ := hm2
        have HQ2 := Lib.hid hp2
        have E2 := Lib.hid e1
        clear e1 hp2
        have d0 : w2.cell? ⟨w.heap.size, 0, none⟩ = some (.int .i64 0) := Lib.cell_of_heap HR2.out 0
        have f0 : w2.frozen? ⟨w.heap.size, 0, none⟩ = false := Lib.frozen_of_heap HR2.out 0
        have hsp : showP ts = .ok ({ s0 with kind := 11 }, r2) := by simp only [showP, ifHas, E1.out, E2.out]
        have HSP := Lib.hid hsp
        clear hsp
        go_wp2_with fail
        go_meet
        exact ⟨_, _, HSP.out, (HK2.out.set (p := ⟨w.heap.size, 0, none⟩) (.inr (Nat.le_refl _)) (.int .i64 11)), (HQ2.out.set (p := ⟨w.heap.size, 0, none⟩) HPB.out (.int .i64 11)), (heap_setCell_same _ _ _ _ _ _ HR2.out)⟩
      · rw [e1] at hm2
        obtain rfl := hm2
        unfold stuckE
        simp (config := { zetaDelta := true }) only []
        refine ⟨rfl, ?_⟩
        rw [← HPP.out, show showP ts = .error _ by simp only [showP, ifHas, E1.out, e1]; rfl]
        exact ⟨HK2.out, rfl⟩
    · rw [e1] at hm1
      obtain ⟨rfl, hp1⟩ := hm1
      have HQ1 := Lib.hid hp1
      have E1 := Lib.hid e1
      clear e1 hp1
      have d0 : w1.cell? ⟨w.heap.size, 0, none⟩ = some (.int .i64 0) := Lib.cell_of_heap HR1.out 0
      have f0 : w1.frozen? ⟨w.heap.size, 0, none⟩ = false := Lib.frozen_of_heap HR1.out 0
      have hsp : showP ts = .ok ({ s0 with kind := 4 }, r1) := by simp only [showP, ifHas, E1.out]
      have HSP := Lib.hid hsp
      clear hsp
      go_wp2_with fail
      go_meet
      exact ⟨_, _, HSP.out, (HK1.out.set (p := ⟨w.heap.size, 0, none⟩) (.inr (Nat.le_refl _)) (.int .i64 4)), (HQ1.out.set (p := ⟨w.heap.size, 0, none⟩) HPB.out (.int .i64 4)), (heap_setCell_same _ _ _ _ _ _ HR1.out)⟩
    · rw [e1] at hm1
      obtain rfl := hm1
      unfold stuckE
      simp (config := { zetaDelta := true }) only []
      refine ⟨rfl, ?_⟩
      rw [← HPP.out, show showP ts = .error _ by simp only [showP, ifHas, e1]; rfl]
      exact ⟨HK1.out, rfl⟩
  case rest =>
    obtain ⟨x, q, h1, h2, h3, h4⟩ := hcut
    have HRE := Lib.hid h4
    have d0 : wc.cell? ⟨w.heap.size, 0, none⟩ = some (.int .i64 x.kind) := Lib.cell_of_heap h4 0
    have f0 : wc.frozen? ⟨w.heap.size, 0, none⟩ = false := Lib.frozen_of_heap h4 0
    have d1 : wc.cell? ⟨w.heap.size, 1, none⟩ = some (.bool x.all) := Lib.cell_of_heap h4 1
    have f1 : wc.frozen? ⟨w.heap.size, 1, none⟩ = false := Lib.frozen_of_heap h4 1
    have d2 : wc.cell? ⟨w.heap.size, 2, none⟩ = some (.slice none 0 0) := Lib.cell_of_heap h4 2
    have f2 : wc.frozen? ⟨w.heap.size, 2, none⟩ = false := Lib.frozen_of_heap h4 2
    have d3 : wc.cell? ⟨w.heap.size, 3, none⟩ = some (.string x.into) := Lib.cell_of_heap h4 3
    have f3 : wc.frozen? ⟨w.heap.size, 3, none⟩ = false := Lib.frozen_of_heap h4 3
    have d4 : wc.cell? ⟨w.heap.size, 4, none⟩ = some (.string x.frm) := Lib.cell_of_heap h4 4
    have f4 : wc.frozen? ⟨w.heap.size, 4, none⟩ = false := Lib.frozen_of_heap h4 4
    have d5 : wc.cell? ⟨w.heap.size, 5, none⟩ = some (.slice none 0 0) := Lib.cell_of_heap h4 5
    have f5 : wc.frozen? ⟨w.heap.size, 5, none⟩ = false := Lib.frozen_of_heap h4 5
    have d6 : wc.cell? ⟨w.heap.size, 6, none⟩ = some (.int .i64 x.window) := Lib.cell_of_heap h4 6
    have f6 : wc.frozen? ⟨w.heap.size, 6, none⟩ = false := Lib.frozen_of_heap h4 6
    have d7 : wc.cell? ⟨w.heap.size, 7, none⟩ = some (.slice none 0 0) := Lib.cell_of_heap h4 7
    have f7 : wc.frozen? ⟨w.heap.size, 7, none⟩ = false := Lib.frozen_of_heap h4 7
    have d8 : wc.cell? ⟨w.heap.size, 8, none⟩ = some (.int .i64 x.fill) := Lib.cell_of_heap h4 8
    have f8 : wc.frozen? ⟨w.heap.size, 8, none⟩ = false := Lib.frozen_of_heap h4 8
    have d9 : wc.cell? ⟨w.heap.size, 9, none⟩ = some (.int .i64 x.number.1) := Lib.cell_of_heap h4 9
    have f9 : wc.frozen? ⟨w.heap.size, 9, none⟩ = false := Lib.frozen_of_heap h4 9
    have d10 : wc.cell? ⟨w.heap.size, 10, none⟩ = some (.int .u64 x.number.2.1) := Lib.cell_of_heap h4 10
    have f10 : wc.frozen? ⟨w.heap.size, 10, none⟩ = false := Lib.frozen_of_heap h4 10
    have d11 : wc.cell? ⟨w.heap.size, 11, none⟩ = some (.string x.number.2.2) := Lib.cell_of_heap h4 11
    have f11 : wc.frozen? ⟨w.heap.size, 11, none⟩ = false := Lib.frozen_of_heap h4 11
    have d12 : wc.cell? ⟨w.heap.size, 12, none⟩ = some (.bool x.desc) := Lib.cell_of_heap h4 12
    have f12 : wc.frozen? ⟨w.heap.size, 12, none⟩ = false := Lib.frozen_of_heap h4 12
    have d13 : wc.cell? ⟨w.heap.size, 13, none⟩ = some (.int .i64 x.limit) := Lib.cell_of_heap h4 13
    have f13 : wc.frozen? ⟨w.heap.size, 13, none⟩ = false := Lib.frozen_of_heap h4 13
    have d14 : wc.cell? ⟨w.heap.size, 14, none⟩ = some (.int .i64 x.offset) := Lib.cell_of_heap h4 14
    have f14 : wc.frozen? ⟨w.heap.size, 14, none⟩ = false := Lib.frozen_of_heap h4 14
    have d15 : wc.cell? ⟨w.heap.size, 15, none⟩ = some (.string x.name) := Lib.cell_of_heap h4 15
    have f15 : wc.frozen? ⟨w.heap.size, 15, none⟩ = false := Lib.frozen_of_heap h4 15
    have d16 : wc.cell? ⟨w.heap.size, 16, none⟩ = some (.slice none 0 0) := Lib.cell_of_heap h4 16
    have f16 : wc.frozen? ⟨w.heap.size, 16, none⟩ = false := Lib.frozen_of_heap h4 16
    clear h4
    go_wp2_with fail
    refine bodyPost_ret (results_cell_row rfl _ _ w.heap.size 31 _ (0, 0) _ rfl (put17_heap HRE.out _ _ _ _ _ _ _ _ _ _ _ _ _ _ _ _ _) Tryz.underlying31 (by kernel_rfl) info31s) rfl ?_
    rw [← HPP.out, h1]
    exact ⟨put17_kp h2 (Nat.le_refl _) _ _ _ _ _ _ _ _ _ _ _ _ _ _ _ _ _, rfl, put17_pat h3 HPB.out _ _ _ _ _ _ _ _ _ _ _ _ _ _ _ _ _⟩
end Go.Proofs.YtigicmnngppipaaGreatDoor.Tp
