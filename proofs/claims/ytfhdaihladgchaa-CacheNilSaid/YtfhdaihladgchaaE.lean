/- A point is put into a row of points. Conditions: its place, the row's length. -/
import Derived.Test.YtfhdaihladgchaaD
import Derived.Lib.Overlaps
import Derived.Lib.AppendZerosOnto
import Derived.Deep.RegionLaw
import Derived.Outline
namespace Go.Proofs.Ytfhdaihladgchaa
open Go.RowKit
theorem slice_from (g o n c k : Nat) (z : Int) (hz : z = (k : Int)) (hk : k ≤ n) (hne : c ≠ k) (w' : World) : (Instr.slice 23 (.slice (some ⟨g, o, none⟩) n c) (some (.int .i64 z)) none none).run Try.prog w' = .ok (.slice (some ⟨g, o + k * 4, none⟩) (n - k) (c - k)) w' := by
  subst hz
  have hso : (Try.prog.info? 33).map (·.size) = some 4 := by kernel_rfl
  have h1 : ¬ (n : Int) < k := by omega
  simp [Instr.slice, Instr.sliceBounds, Instr.sliceBound, asIntOf, go_sem, hne]
  intro h; omega
theorem slice_any (a : Option Addr) (n c k : Nat) (hk : k ≤ n) : ∃ a', ∀ w', (Instr.slice 23 (.slice a n c) (some (.int .i64 (k : Int))) none none).run Try.prog w' = .ok (.slice a' (n - k) (c - k)) w' := by
  refine ⟨if c = k then a else a.map (·.add (k * 4)), fun w' => ?_⟩
  have hso : (Try.prog.info? 33).map (·.size) = some 4 := by kernel_rfl
  have h1 : ¬ (n : Int) < k := by omega
  simp [Instr.slice, Instr.sliceBounds, Instr.sliceBound, asIntOf, go_sem]
  intro h; omega
theorem slice_upto (a : Option Addr) (n c k : Nat) (z : Int) (hz : z = (k : Int)) (hk : k ≤ c) (w' : World) : (Instr.slice 23 (.slice a n c) none (some (.int .i64 z)) none).run Try.prog w' = .ok (.slice a k c) w' := by
  subst hz
  have h1 : ¬ (c : Int) < k := by omega
  simp [Instr.slice, Instr.sliceBounds, Instr.sliceBound, asIntOf, go_sem]
  omega
def InsPost (w : World) (base : Nat) (v : Value) (l : List Pt) (i : Nat) (p : Pt) (e : Ending) (w' : World) : Prop :=
  ∃ v', e = .returned v' ∧ w'.ownsRow base 33 4 v' (l.length + 1) (ptC (l.take i ++ p :: l.drop i)) ∧ w.grownBy w' v.ownBlock ∧ (v'.ownBlock = v.ownBlock ∨ v'.ownBlock = some w.heap.size)
set_option maxRecDepth 100000 in
theorem insert_end (w : World) (base : Nat) (v : Value) (l : List Pt) (p : Pt) (vb : Nat) (hs : w.ownsRow base 33 4 v l.length (ptC l)) (hv : w.heap[vb]? = some (.cells (ptV p).toArray 33 (0, 0))) (hbase : base ≤ w.heap.size) (hn : l.length ≤ 1000000000000) :
    Calls Try.prog 24 #[v, .int .i64 l.length, .slice (some ⟨vb, 0, none⟩) 1 1] w (InsPost w base v l l.length p) := by
  obtain ⟨i0, z0', hi, hz0, hz1, hz2, hz3⟩ := zparts33
  have HI := Lib.hid hi
  have HI0 := Lib.hid hz0
  have HI1 := Lib.hid hz1
  have HI2 := Lib.hid hz2
  have HI3 := Lib.hid hz3
  clear hi hz0 hz1 hz2 hz3
  obtain ⟨a, c, rfl⟩ : ∃ a c, v = .slice a l.length c := by
    rcases hs.2 with ⟨h1, h2⟩ | ⟨g, c, cur, h1, _⟩
    · exact ⟨none, 0, by rw [h1, h2]⟩
    · exact ⟨_, c, h1⟩
  have HS := Lib.hid hs
  have hsrc : SrcN w 4 (.slice (some ⟨vb, 0, none⟩) 1 1) 1 (ptV p) := SrcN.of_block (cs := (ptV p).toArray) (by exact hv) rfl (by simp [ptV, Value.oneCell']) 1
  have HSRC := Lib.hid hsrc
  have HBA := Lib.hid hbase
  obtain ⟨n, hN⟩ : ∃ n, l.length = n := ⟨_, rfl⟩
  have HN := Lib.hid hN
  rw [hN] at hn HS ⊢
  obtain ⟨a', hsl⟩ := slice_any a n c n (Nat.le_refl _)
  clear hs hv hsrc hbase hN
  go_enter Try.func24, Try.ntmps24
  go_wp2_with (at_builtin; go_must (refine wpList_append_srcN rfl _ _ 23 rfl base 33 i0 z0' 4 40 Try.underlying23 HI.out HI0.out HI1.out HI2.out HI3.out (by omega) (.slice a n c) n (ptC l) rfl HS.out (.slice (some ⟨vb, 0, none⟩) 1 1) 1 (ptV p) rfl HSRC.out (by unfold maxLen; omega) (by omega) HBA.out ?_); intro v3 w3 hr3 hg3 hat3)
  have HR3 := Lib.hid hr3
  have HG3 := Lib.hid hg3
  have HAT := Lib.hid hat3
  clear hr3 hg3 hat3
  go_wp2_with fail
  go_ret
  refine ⟨v3, rfl, ?_, HG3.out, HAT.out⟩
  rw [HN.out, ← HN.out, List.take_length, List.drop_length, ptC_append, HN.out]
  exact HR3.out
end Go.Proofs.Ytfhdaihladgchaa
