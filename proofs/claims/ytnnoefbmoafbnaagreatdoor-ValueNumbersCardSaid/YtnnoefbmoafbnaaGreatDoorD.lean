/- fmtEFG at 1.5's digits. No condition. -/
import Derived.Test.YtnnoefbmoafbnaaGreatDoorC
import Derived.OwnWalk
import Derived.Lib.Bytes
namespace Go.Proofs.YtnnoefbmoafbnaaGreatDoor
open Go.RowKit
set_option maxRecDepth 100000
theorem info5 : (Tryz.prog.info? 5).map (fun i => (i.zero, i.size, i.bytes)) = some (some (.int .u8 0), 1, 1) := by kernel_rfl
structure St (w0 : World) (g b : Nat) (l : List UInt8) (w : World) : Prop where
  own : w.ownsRow g 5 1 (.slice (some ⟨g, 0, none⟩) l.length 24) l.length (Lib.byteCells l)
  c0 : w.cell? ⟨b, 0, none⟩ = some (.int .u8 49)
  c1 : w.cell? ⟨b, 1, none⟩ = some (.int .u8 53)
  bel : Below g w0 w
  gb : g < b
  bw : b < w.heap.size
theorem byteCells_app (l m : List UInt8) : Lib.byteCells (l ++ m) = Lib.byteCells l ++ Lib.byteCells m := by simp [Lib.byteCells]
theorem St.app1 {w0 w w2 : World} {g b : Nat} {l : List UInt8} (h : St w0 g b l w) (m : List UInt8) (hown : w2.ownsRow g 5 1 (.slice (some ⟨g, 0, none⟩) (l.length + m.length) 24) (l.length + m.length) (Lib.byteCells l ++ Lib.byteCells m)) (hg : w.grownBy w2 (some g)) : St w0 g b (l ++ m) w2 := by
  have hbk : w2.heap[b]? = w.heap[b]? := hg.block b h.bw (fun e => by have := h.gb; cases e; omega)
  refine ⟨by rw [List.length_append, byteCells_app]; exact hown, ?_, ?_, ?_, h.gb, Nat.lt_of_lt_of_le h.bw hg.size⟩
  · rw [World.cell?_of_block hbk]; exact h.c0
  · rw [World.cell?_of_block hbk]; exact h.c1
  · exact h.bel.grown hg (by have := h.gb; have := h.bw; omega) (fun j hj => by cases hj; exact Nat.le_refl _)
theorem St.alloc {w0 w : World} {g b : Nat} {l : List UInt8} (h : St w0 g b l w) (o : Obj) : St w0 g b l (w.alloc o) := by
  have hb := (Below.refl w.heap.size w).alloc (Nat.le_refl _) o
  refine ⟨World.ownsRow.alloc h.own _, ?_, ?_, ?_, h.gb, Nat.lt_of_lt_of_le h.bw hb.size⟩
  · rw [hb.cell (p := ⟨b, 0, none⟩) h.bw]; exact h.c0
  · rw [hb.cell (p := ⟨b, 1, none⟩) h.bw]; exact h.c1
  · exact h.bel.alloc (by have := h.gb; have := h.bw; omega) o
theorem St.app {w0 w w2 : World} {g b : Nat} {l : List UInt8} {o : Obj} (h : St w0 g b l w) (m : List UInt8) (hown : w2.ownsRow g 5 1 (.slice (some ⟨g, 0, none⟩) (l.length + m.length) 24) (l.length + m.length) (Lib.byteCells l ++ Lib.byteCells m)) (hg : (w.alloc o).grownBy w2 (some g)) : St w0 g b (l ++ m) w2 := (h.alloc o).app1 m hown hg
theorem news1 {w : World} {b : Nat} (h : w.cell? ⟨b, 1, none⟩ = some (.int .u8 53)) : ∀ j u, [Value.int .u8 53][j]? = some u → w.cell? (Addr.add ⟨b, 1, none⟩ j) = some u := by
  intro j u hj
  match j, hj with
  | 0, hj => simp at hj; subst hj; simpa [Addr.add] using h

theorem efg15e (w0 w1 : World) (g b : Nat) (h : St w0 g b [] w1) :
    Calls Tryz.prog 68 #[.slice (some ⟨g, 0, none⟩) 0 24, .bool false, .slice (some ⟨b, 0, none⟩) 32 32, .int .i64 1, .int .i64 2, .int .i64 1, .int .u8 101, .bool true] w1 fun e w' => e = .returned (.slice (some ⟨g, 0, none⟩) 7 24) ∧ St w0 g b [49, 46, 53, 101, 43, 48, 48] w' := by
  obtain ⟨i0, hi, hz0, hz1, hz2⟩ := info_parts info5
  have HI := Lib.hid hi
  have HZ1 := Lib.hid hz1
  have HS0 := Lib.hid h
  clear hi hz0 hz1 hz2 h
  have k0 := HS0.out.c0
  go_enter Tryz.func68, Tryz.ntmps68
  go_wp2_with (first
    | (at_builtin; (refine wpList_append_fits _ rfl (.tmp 87) (.tmp 89) 76 rfl g 5 i0 1 Tryz.underlying76 HI.out HZ1.out g 0 24 (Lib.byteCells []) rfl (World.ownsRow.alloc HS0.out.own _) ⟨w1.heap.size, 0, none⟩ 1 1 [.int .u8 49] rfl rfl (World.news_of_block (cs := #[.int .u8 49]) (t := 5) (fr := (0, 0)) (heap_alloc_new w1 _)) (by simp [Value.oneCell']) (by omega) ?_); intro w2 hown hgrow; have HS1 := Lib.hid (HS0.out.app [49] hown hgrow); clear hown hgrow)
    | (at_builtin; (refine wpList_append_fits _ rfl (.tmp 93) (.tmp 94) 76 rfl g 5 i0 1 Tryz.underlying76 HI.out HZ1.out g 1 24 (Lib.byteCells [49]) rfl (World.ownsRow.alloc HS1.out.own _) ⟨w2.heap.size, 0, none⟩ 1 1 [.int .u8 46] rfl rfl (World.news_of_block (cs := #[.int .u8 46]) (t := 5) (fr := (0, 0)) (heap_alloc_new w2 _)) (by simp [Value.oneCell']) (by omega) ?_); intro w3 hown hgrow; have HS2 := Lib.hid (HS1.out.app [46] hown hgrow); clear hown hgrow)
    | (at_builtin; go_must (refine wpList_append_fits _ rfl (.tmp 103) (.tmp 107) 76 rfl g 5 i0 1 Tryz.underlying76 HI.out HZ1.out g 2 24 (Lib.byteCells [49, 46]) rfl HS2.out.own ⟨b, 1, none⟩ 1 31 [.int .u8 53] rfl rfl (news1 HS2.out.c1) (by simp [Value.oneCell']) (by omega) ?_); intro w4 hown hgrow; have HS3 := Lib.hid (HS2.out.app1 [53] hown hgrow); clear hown hgrow)
    | fail)
  go_loopw [0, 114] (fun v i wr => v = .slice (some ⟨g, 0, none⟩) 3 24 ∧ i = .int .i64 0 ∧ wr = w4) (fun _ _ _ => 0)
  case atStart => exact ⟨rfl, rfl, rfl⟩
  case round =>
    obtain ⟨rfl, rfl, hw⟩ := hrel
    obtain rfl := hw.symm
    go_wp2_with (first
      | (at_builtin; (refine wpList_append_fits _ rfl (.tmp 120) (.tmp 122) 76 rfl g 5 i0 1 Tryz.underlying76 HI.out HZ1.out g 3 24 (Lib.byteCells [49, 46, 53]) rfl (World.ownsRow.alloc HS3.out.own _) ⟨w4.heap.size, 0, none⟩ 1 1 [.int .u8 101] rfl rfl (World.news_of_block (cs := #[.int .u8 101]) (t := 5) (fr := (0, 0)) (heap_alloc_new w4 _)) (by simp [Value.oneCell']) (by omega) ?_); intro w5 hown hgrow; have HS4 := Lib.hid (HS3.out.app [101] hown hgrow); clear hown hgrow)
      | (at_builtin; (refine wpList_append_fits _ rfl (.tmp 132) (.tmp 134) 76 rfl g 5 i0 1 Tryz.underlying76 HI.out HZ1.out g 4 24 (Lib.byteCells [49, 46, 53, 101]) rfl (World.ownsRow.alloc HS4.out.own _) ⟨w5.heap.size, 0, none⟩ 1 1 [.int .u8 43] rfl rfl (World.news_of_block (cs := #[.int .u8 43]) (t := 5) (fr := (0, 0)) (heap_alloc_new w5 _)) (by simp [Value.oneCell']) (by omega) ?_); intro w6 hown hgrow; have HS5 := Lib.hid (HS4.out.app [43] hown hgrow); clear hown hgrow)
      | (at_builtin; go_must (refine wpList_append_fits _ rfl (.tmp 155) (.tmp 159) 76 rfl g 5 i0 1 Tryz.underlying76 HI.out HZ1.out g 5 24 (Lib.byteCells [49, 46, 53, 101, 43]) rfl (World.ownsRow.alloc HS5.out.own _) ⟨w6.heap.size, 0, none⟩ 2 2 [.int .u8 48, .int .u8 48] rfl rfl (World.news_of_block (cs := #[.int .u8 48, .int .u8 48]) (t := 5) (fr := (0, 0)) (heap_alloc_new w6 _)) (by simp [Value.oneCell']) (by omega) ?_); intro w7 hown hgrow; have HS6 := Lib.hid (HS5.out.app [48, 48] hown hgrow); clear hown hgrow)
      | fail)
    go_ret
    exact ⟨rfl, HS6.out⟩
end Go.Proofs.YtnnoefbmoafbnaaGreatDoor