/- FormatFloat of nought, by 'e' and by 'f': the walks of fmtEFG, ftoa64 and FormatFloat at that number. No condition. -/
import Derived.Test.YtnnoefbmoafbnaaDoorA
import Derived.Lib.Bytes
import Derived.OwnWalk
import Derived.WalkSpells
import Derived.Deep.AppendLies
namespace Go.Proofs.YtnnoefbmoafbnaaDoor
open Go.RowKit
theorem info5 : (Tryd.prog.info? 5).map (fun i => (i.zero, i.size, i.bytes)) = some (some (.int .u8 0), 1, 1) := by kernel_rfl
def BOwn (w : World) (base : Nat) (v : Value) (l : List UInt8) : Prop := w.ownsRow base 5 1 v l.length (Lib.byteCells l)
theorem own_ge {w : World} {base e size n b : Nat} {v : Value} {xs : List Value} (h : w.ownsRow base e size v n xs) (hb : v.ownBlock = some b) : base ≤ b := (h.lt b hb).1
theorem below_app {B n : Nat} {w w' w2 : World} {o : Obj} {v : Value} {xs : List Value} (hle : B ≤ w.heap.size) (hb : Below B w w') (hown : w'.ownsRow B 5 1 v n xs) (hg : (w'.alloc o).grownBy w2 v.ownBlock) : Below B w w2 :=
  (hb.alloc (Nat.le_trans hle hb.size) o).grown hg (by have := hb.size; simp; omega) (fun j hj => own_ge hown hj)
theorem str_of_own {w : World} {base : Nat} {v : Value} {l : List UInt8} (h : BOwn w base v l) : (convert 50 9 v).run Tryd.prog w = .ok (.string ⟨l.toArray⟩) w := by
  rcases h.2 with ⟨rfl, h0⟩ | ⟨g, cap, cur, rfl, _⟩
  · have : l = [] := List.length_eq_zero_iff.1 h0
    subst this
    rw [run_convert_bytes_string w 50 9 5 none 0 0 Tryd.underlying50 Tryd.underlying5 Tryd.underlying9]
    rfl
  · refine run_convert_bytes_back w 50 9 5 ⟨g, 0, none⟩ cap l Tryd.underlying50 Tryd.underlying5 Tryd.underlying9 fun j hj => ?_
    have := h.cellAt j (by omega)
    have e : (Addr.add ⟨g, 0, none⟩ j) = ⟨g, j, none⟩ := by unfold Addr.add; split <;> simp_all
    rw [e, this]
    simp [Lib.byteCells, hj]
def Row0 (B : Nat) (w : World) (l : List UInt8) (e : Ending) (w' : World) : Prop := ∃ v', e = .returned v' ∧ BOwn w' B v' l ∧ Below B w w'

set_option maxRecDepth 100000 in
theorem efg0e (B : Nat) (v0 : Value) (w0 : World) (hown : w0.ownsRow B 5 1 v0 0 []) (hB : B ≤ w0.heap.size) :
    Calls Tryd.prog 50 #[v0, .bool false, .slice none 0 0, .int .i64 0, .int .i64 0, .int .i64 (-1), .int .u8 101, .bool true] w0 (Row0 B w0 [48, 101, 43, 48, 48]) := by
  obtain ⟨i0, hi, hz0, hz1, hz2⟩ := info_parts info5
  have HI := Lib.hid hi
  have HZ0 := Lib.hid hz0
  have HZ1 := Lib.hid hz1
  have HZ2 := Lib.hid hz2
  have HO0 := Lib.hid hown
  have HB0 := Lib.hid ((Below.refl B w0).mono (Nat.le_refl _))
  have HLE := Lib.hid hB
  clear hi hz0 hz1 hz2 hown hB
  go_enter Tryd.func50, Tryd.ntmps50
  go_wp2_with (first
    | (at_builtin; (refine wpList_append_own _ rfl (.tmp 87) (.tmp 89) 50 rfl B 5 i0 _ 1 1 Tryd.underlying50 HI.out HZ0.out HZ1.out HZ2.out rfl (by omega) _ 0 _ rfl (World.ownsRow.alloc HO0.out _) ⟨w0.heap.size, 0, none⟩ 1 1 [.int .u8 48] rfl rfl (World.news_of_block (cs := #[.int .u8 48]) (t := 5) (fr := (0, 0)) (heap_alloc_new w0 _)) (by simp [Value.oneCell']) (by unfold maxLen; omega) (by omega) (by have := HB0.out.size; have := HLE.out; simp; omega) ?_); intro v1 w1 hown hgrow hnn; clear hnn; have HB1 := Lib.hid (below_app HLE.out HB0.out HO0.out hgrow); have HO1 := Lib.hid hown; clear hown hgrow)
    | (at_builtin; (refine wpList_append_own _ rfl (.tmp 120) (.tmp 122) 50 rfl B 5 i0 _ 1 1 Tryd.underlying50 HI.out HZ0.out HZ1.out HZ2.out rfl (by omega) _ (0 + 1) _ rfl (World.ownsRow.alloc HO1.out _) ⟨w1.heap.size, 0, none⟩ 1 1 [.int .u8 101] rfl rfl (World.news_of_block (cs := #[.int .u8 101]) (t := 5) (fr := (0, 0)) (heap_alloc_new w1 _)) (by simp [Value.oneCell']) (by unfold maxLen; omega) (by omega) (by have := HB1.out.size; have := HLE.out; simp; omega) ?_); intro v2 w2 hown hgrow hnn; clear hnn; have HB2 := Lib.hid (below_app HLE.out HB1.out HO1.out hgrow); have HO2 := Lib.hid hown; clear hown hgrow)
    | (at_builtin; (refine wpList_append_own _ rfl (.tmp 132) (.tmp 134) 50 rfl B 5 i0 _ 1 1 Tryd.underlying50 HI.out HZ0.out HZ1.out HZ2.out rfl (by omega) _ (0 + 1 + 1) _ rfl (World.ownsRow.alloc HO2.out _) ⟨w2.heap.size, 0, none⟩ 1 1 [.int .u8 43] rfl rfl (World.news_of_block (cs := #[.int .u8 43]) (t := 5) (fr := (0, 0)) (heap_alloc_new w2 _)) (by simp [Value.oneCell']) (by unfold maxLen; omega) (by omega) (by have := HB2.out.size; have := HLE.out; simp; omega) ?_); intro v3 w3 hown hgrow hnn; clear hnn; have HB3 := Lib.hid (below_app HLE.out HB2.out HO2.out hgrow); have HO3 := Lib.hid hown; clear hown hgrow)
    | (at_builtin; go_must (refine wpList_append_own _ rfl (.tmp 155) (.tmp 159) 50 rfl B 5 i0 _ 1 1 Tryd.underlying50 HI.out HZ0.out HZ1.out HZ2.out rfl (by omega) _ (0 + 1 + 1 + 1) _ rfl (World.ownsRow.alloc HO3.out _) ⟨w3.heap.size, 0, none⟩ 2 2 [.int .u8 48, .int .u8 48] rfl rfl (World.news_of_block (cs := #[.int .u8 48, .int .u8 48]) (t := 5) (fr := (0, 0)) (heap_alloc_new w3 _)) (by simp [Value.oneCell']) (by unfold maxLen; omega) (by omega) (by have := HB3.out.size; have := HLE.out; simp; omega) ?_); intro v4 w4 hown hgrow hnn; clear hnn; have HB4 := Lib.hid (below_app HLE.out HB3.out HO3.out hgrow); have HO4 := Lib.hid hown; clear hown hgrow)
    | fail)
  go_ret
  exact ⟨_, rfl, HO4.out, HB4.out⟩
set_option maxRecDepth 100000 in
theorem efg0f (B : Nat) (v0 : Value) (w0 : World) (hown : w0.ownsRow B 5 1 v0 0 []) (hB : B ≤ w0.heap.size) :
    Calls Tryd.prog 50 #[v0, .bool false, .slice none 0 0, .int .i64 0, .int .i64 0, .int .i64 (-1), .int .u8 102, .bool true] w0 (Row0 B w0 [48]) := by
  obtain ⟨i0, hi, hz0, hz1, hz2⟩ := info_parts info5
  have HI := Lib.hid hi
  have HZ0 := Lib.hid hz0
  have HZ1 := Lib.hid hz1
  have HZ2 := Lib.hid hz2
  have HO0 := Lib.hid hown
  have HB0 := Lib.hid ((Below.refl B w0).mono (Nat.le_refl _))
  have HLE := Lib.hid hB
  clear hi hz0 hz1 hz2 hown hB
  go_enter Tryd.func50, Tryd.ntmps50
  go_wp2_with (first
    | (at_builtin; (refine wpList_append_own _ rfl (.tmp 209) (.tmp 210) 50 rfl B 5 i0 _ 1 1 Tryd.underlying50 HI.out HZ0.out HZ1.out HZ2.out rfl (by omega) _ 0 _ rfl (World.ownsRow.alloc HO0.out _) ⟨w0.heap.size, 0, none⟩ 1 1 [.int .u8 48] rfl rfl (World.news_of_block (cs := #[.int .u8 48]) (t := 5) (fr := (0, 0)) (heap_alloc_new w0 _)) (by simp [Value.oneCell']) (by unfold maxLen; omega) (by omega) (by have := HB0.out.size; have := HLE.out; simp; omega) ?_); intro v1 w1 hown hgrow hnn; clear hnn; have HB1 := Lib.hid (below_app HLE.out HB0.out HO0.out hgrow); have HO1 := Lib.hid hown; clear hown hgrow)
    | fail)
  go_ret
  exact ⟨_, rfl, HO1.out, HB1.out⟩
end Go.Proofs.YtnnoefbmoafbnaaDoor