/- Several texts of this proof, laid together. Conditions: as each says. -/
import Derived.Test.YtagiddbfhlokcaaGreatDoorMAA
import Derived.Deep.WholeRow
import Derived.Laws.CopyRow
/- The replacer of value.Print is built. Conditions: the six texts, where they lie. -/
namespace Go.Proofs.YtagiddbfhlokcaaGreatDoor.Rp
open Go.RowKit
set_option maxRecDepth 100000
theorem info240 : (Tryz.prog.info? 240).map (fun i => (i.zero, i.size)) = some (some (Value.agg (Array.replicate 257 (.slice none 0 0))), 257) := by kernel_rfl
theorem size240 : (Tryz.prog.info? 240).map (·.size) = some 257 := by kernel_rfl
theorem made67 (w : World) : (Instr.makeSlice 67 (.int .i64 0) (.int .i64 3)).run Tryz.prog w = .ok (.slice (some ⟨w.heap.size, 0, none⟩) 0 3) (w.alloc (.cells #[.string ⟨#[]⟩, .string ⟨#[]⟩, .string ⟨#[]⟩] 9)) := by kernel_rfl
theorem all240 (v : Value) (h : v.oneCell' = true) : ((Array.replicate 257 (.slice none 0 0) : Array Value).setIfInBounds 256 v).all (·.oneCell') = true := by
  rw [Array.all_eq_true]
  intro i hi
  rw [Array.getElem_setIfInBounds (by simpa using hi)]
  split
  · exact h
  · rw [Array.getElem_replicate]
    rfl
theorem eq59 (w : World) : (binOp .eql 59 (.slice none 0 0) (.slice none 0 0)).run Tryz.prog w = .ok (.bool true) w := by kernel_rfl
theorem conv59 (c : UInt8) (w : World) : (convert 59 9 (.slice (some ⟨w.heap.size, 0, none⟩) 1 1)).run Tryz.prog (w.alloc (.cells #[.int .u8 (c.toNat : Int)] 5)) = .ok (.string ⟨#[c]⟩) (w.alloc (.cells #[.int .u8 (c.toNat : Int)] 5)) := by
  refine run_convert_bytes_back _ 59 9 5 ⟨w.heap.size, 0, none⟩ 1 [c] Tryz.underlying59 Tryz.underlying5 Tryz.underlying9 fun j hj => ?_
  have : j = 0 := by simp at hj; omega
  subst this
  rw [show (Addr.add ⟨w.heap.size, 0, none⟩ 0) = ⟨w.heap.size, 0, none⟩ from rfl]
  simp
theorem back59 (c d : UInt8) : ∃ (cp : World → Nat) (RW : World → Array Value) (fz : World → Nat × Nat), (∀ w : World, (convert 9 59 (.string ⟨#[c, d]⟩)).run Tryz.prog w = .ok (.slice (some ⟨w.heap.size, 0, none⟩) 2 (cp w)) (w.drew.alloc (.cells (RW w) 5 (fz w)))) ∧
    ∀ w, (RW w)[0]? = some (.int .u8 (c.toNat : Int)) ∧ (RW w)[1]? = some (.int .u8 (d.toNat : Int)) := by
  refine ⟨fun w => grownCap w 2 0 5, fun w => bytesRow ⟨#[c, d]⟩ (grownCap w 2 0 5), fun w => ((bytesRow ⟨#[c, d]⟩ (grownCap w 2 0 5)).size, (bytesRow ⟨#[c, d]⟩ (grownCap w 2 0 5)).size + 1), fun w => run_bytes_of_string w 9 59 5 ⟨#[c, d]⟩ Tryz.underlying9 Tryz.underlying59 Tryz.underlying5, fun w => ?_⟩
  exact ⟨bytesRow_at _ _ 0 (by simp), bytesRow_at _ _ 1 (by simp)⟩
/-- The table of a replacer under way: k of the three bytes are done. -/
structure RepK (w0 w : World) (n k : Nat) : Prop where
  bel : Below n w0 w
  two : n + 1 < w.heap.size
  tbl : ∀ c, c < 256 → ¬ (c = 10 ∧ 1 ≤ k) → ¬ (c = 34 ∧ 2 ≤ k) → ¬ (c = 92 ∧ 3 ≤ k) → w.cell? ⟨n + 1, c, none⟩ = some (.slice none 0 0)
  d10 : 1 ≤ k → ∃ b c, n + 1 < b ∧ b < w.heap.size ∧ w.cell? ⟨n + 1, 10, none⟩ = some (.slice (some ⟨b, 0, none⟩) 2 c) ∧ w.cell? ⟨b, 0, none⟩ = some (.int .u8 92) ∧ w.cell? ⟨b, 1, none⟩ = some (.int .u8 110)
  d34 : 2 ≤ k → ∃ b c, n + 1 < b ∧ b < w.heap.size ∧ w.cell? ⟨n + 1, 34, none⟩ = some (.slice (some ⟨b, 0, none⟩) 2 c) ∧ w.cell? ⟨b, 0, none⟩ = some (.int .u8 92) ∧ w.cell? ⟨b, 1, none⟩ = some (.int .u8 34)
  d92 : 3 ≤ k → ∃ b c, n + 1 < b ∧ b < w.heap.size ∧ w.cell? ⟨n + 1, 92, none⟩ = some (.slice (some ⟨b, 0, none⟩) 2 c) ∧ w.cell? ⟨b, 0, none⟩ = some (.int .u8 92) ∧ w.cell? ⟨b, 1, none⟩ = some (.int .u8 92)
  sl : w.cell? ⟨n + 1, 256, none⟩ = some (.slice (some ⟨n, 0, none⟩) k 3)
  t0 : w.cell? ⟨n, 0, none⟩ = some (.string (if 1 ≤ k then ⟨#[10]⟩ else ⟨#[]⟩))
  t1 : w.cell? ⟨n, 1, none⟩ = some (.string (if 2 ≤ k then ⟨#[34]⟩ else ⟨#[]⟩))
  t2 : w.cell? ⟨n, 2, none⟩ = some (.string (if 3 ≤ k then ⟨#[92]⟩ else ⟨#[]⟩))
  fz : ∀ c, w.frozen? ⟨n + 1, c, none⟩ = false
  ft : ∀ c, w.frozen? ⟨n, c, none⟩ = false
theorem frz {w : World} {b i : Nat} {cs : Array Value} {t : TypeId} (h : w.heap[b]? = some (.cells cs t (0, 0))) : w.frozen? ⟨b, i, none⟩ = false := by
  unfold World.frozen?
  simp only [h]
  simp
theorem rep_zero (w : World) : RepK w ((w.alloc (.cells #[.string ⟨#[]⟩, .string ⟨#[]⟩, .string ⟨#[]⟩] 9)).alloc (.cells ((Array.replicate 257 (.slice none 0 0) : Array Value).setIfInBounds 256 (.slice (some ⟨w.heap.size, 0, none⟩) 0 3)) 240)) w.heap.size 0 := by
  have hh : ((w.alloc (.cells #[.string ⟨#[]⟩, .string ⟨#[]⟩, .string ⟨#[]⟩] 9)).alloc (.cells ((Array.replicate 257 (.slice none 0 0) : Array Value).setIfInBounds 256 (.slice (some ⟨w.heap.size, 0, none⟩) 0 3)) 240)).heap[w.heap.size + 1]? = some (.cells ((Array.replicate 257 (.slice none 0 0) : Array Value).setIfInBounds 256 (.slice (some ⟨w.heap.size, 0, none⟩) 0 3)) 240) := by
    have h := heap_alloc_last (w.alloc (.cells #[.string ⟨#[]⟩, .string ⟨#[]⟩, .string ⟨#[]⟩] 9)) (.cells ((Array.replicate 257 (.slice none 0 0) : Array Value).setIfInBounds 256 (.slice (some ⟨w.heap.size, 0, none⟩) 0 3)) 240)
    rw [show (w.alloc (.cells #[.string ⟨#[]⟩, .string ⟨#[]⟩, .string ⟨#[]⟩] 9)).heap.size = w.heap.size + 1 by simp] at h
    exact h
  have h0 : ((w.alloc (.cells #[.string ⟨#[]⟩, .string ⟨#[]⟩, .string ⟨#[]⟩] 9)).alloc (.cells ((Array.replicate 257 (.slice none 0 0) : Array Value).setIfInBounds 256 (.slice (some ⟨w.heap.size, 0, none⟩) 0 3)) 240)).heap[w.heap.size]? = some (.cells #[.string ⟨#[]⟩, .string ⟨#[]⟩, .string ⟨#[]⟩] 9) :=
    (Below.heap_alloc _ _ _ (by simp)).trans (heap_alloc_last w _)
  refine ⟨((Below.refl _ w).alloc (Nat.le_refl _) _).alloc (by simp) _, by simp, ?_, fun h => absurd h (by decide), fun h => absurd h (by decide), fun h => absurd h (by decide), ?_, ?_, ?_, ?_, fun c => ?_, fun c => ?_⟩
  · intro c hc _ _ _
    refine (cell_of_row _ _ c _ _ _ hh).trans ?_
    rw [Array.getElem?_setIfInBounds_ne (by omega), Array.getElem?_replicate, if_pos (by omega)]
  · refine (cell_of_row _ _ 256 _ _ _ hh).trans ?_
    rw [Array.getElem?_setIfInBounds_self_of_lt (by simp)]
  · exact (cell_of_row _ _ 0 _ _ _ h0).trans rfl
  · exact (cell_of_row _ _ 1 _ _ _ h0).trans rfl
  · exact (cell_of_row _ _ 2 _ _ _ h0).trans rfl
  · exact frz hh
  · exact frz h0
/-- The world behind a round of the table's making. -/
def nextW (w : World) (n k o : Nat) (s : ByteArray) (c : Nat) (o1 o2 : Obj) (R : Array Value) (fz : Nat × Nat) : World :=
  ((((((w.setCell ⟨n, k, none⟩ (.string s)).setCell ⟨n + 1, 256, none⟩ (.slice (some ⟨n, 0, none⟩) (k + 1) 3)).setCell ⟨n + 1, o, none⟩ (.slice (some ⟨w.heap.size + 1 + 1, 0, none⟩) 2 c)).alloc o1).alloc o2).alloc (.cells R 5 fz)).drew
section
variable {w : World} {n k o : Nat} {s : ByteArray} {c : Nat} {o1 o2 : Obj} {R : Array Value} {fz : Nat × Nat}
theorem nw_in {p : Addr} (hp : p.block < w.heap.size) : (nextW w n k o s c o1 o2 R fz).cell? p = (((w.setCell ⟨n, k, none⟩ (.string s)).setCell ⟨n + 1, 256, none⟩ (.slice (some ⟨n, 0, none⟩) (k + 1) 3)).setCell ⟨n + 1, o, none⟩ (.slice (some ⟨w.heap.size + 1 + 1, 0, none⟩) 2 c)).cell? p := by
  unfold nextW
  rw [World.cell?_drew, World.cell?_of_block (Below.heap_alloc _ _ _ (by simp <;> omega)), World.cell?_of_block (Below.heap_alloc _ _ _ (by simp <;> omega)), World.cell?_of_block (Below.heap_alloc _ _ _ (by simp <;> omega))]
theorem nw_fz {p : Addr} (hp : p.block < w.heap.size) : (nextW w n k o s c o1 o2 R fz).frozen? p = w.frozen? p := by
  unfold nextW
  rw [show ∀ x : World, x.drew.frozen? p = x.frozen? p from fun _ => rfl, World.frozen?_of_block (Below.heap_alloc _ _ _ (by simp <;> omega)), World.frozen?_of_block (Below.heap_alloc _ _ _ (by simp <;> omega)), World.frozen?_of_block (Below.heap_alloc _ _ _ (by simp <;> omega))]
  simp
theorem nw_old {p : Addr} (hp : p.block < w.heap.size) (h1 : (⟨n, k, none⟩ : Addr) ≠ p) (h2 : (⟨n + 1, 256, none⟩ : Addr) ≠ p) (h3 : (⟨n + 1, o, none⟩ : Addr) ≠ p) : (nextW w n k o s c o1 o2 R fz).cell? p = w.cell? p := by
  rw [nw_in hp, World.cell?_setCell_other _ _ _ _ h3, World.cell?_setCell_other _ _ _ _ h2, World.cell?_setCell_other _ _ _ _ h1]
theorem nw_str (hn : n < w.heap.size) {x : Value} (hx : w.cell? ⟨n, k, none⟩ = some x) : (nextW w n k o s c o1 o2 R fz).cell? ⟨n, k, none⟩ = some (.string s) := by
  rw [nw_in hn, World.cell?_setCell_other _ _ _ _ (by simp), World.cell?_setCell_other _ _ _ _ (by simp)]
  exact World.cell?_setCell_same _ _ _ hx
theorem nw_sl (hn : n + 1 < w.heap.size) (ho : o < 256) {x : Value} (hx : w.cell? ⟨n + 1, 256, none⟩ = some x) : (nextW w n k o s c o1 o2 R fz).cell? ⟨n + 1, 256, none⟩ = some (.slice (some ⟨n, 0, none⟩) (k + 1) 3) := by
  rw [nw_in hn, World.cell?_setCell_other _ _ _ _ (by simp <;> omega)]
  exact World.cell?_setCell_same _ _ _ ((World.cell?_setCell_other _ _ _ _ (by simp)).trans hx)
theorem nw_ent (hn : n + 1 < w.heap.size) (ho : o < 256) {x : Value} (hx : w.cell? ⟨n + 1, o, none⟩ = some x) : (nextW w n k o s c o1 o2 R fz).cell? ⟨n + 1, o, none⟩ = some (.slice (some ⟨w.heap.size + 1 + 1, 0, none⟩) 2 c) := by
  rw [nw_in hn]
  exact World.cell?_setCell_same _ _ _ ((World.cell?_setCell_other _ _ _ _ (by simp <;> omega)).trans ((World.cell?_setCell_other _ _ _ _ (by simp)).trans hx))
theorem nw_new (j : Nat) {x : Value} (hx : R[j]? = some x) : (nextW w n k o s c o1 o2 R fz).cell? ⟨w.heap.size + 1 + 1, j, none⟩ = some x := by
  unfold nextW
  rw [World.cell?_drew]
  refine (cell_of_row _ _ j R 5 fz ?_).trans hx
  have h := heap_alloc_last ((((((w.setCell ⟨n, k, none⟩ (.string s)).setCell ⟨n + 1, 256, none⟩ (.slice (some ⟨n, 0, none⟩) (k + 1) 3)).setCell ⟨n + 1, o, none⟩ (.slice (some ⟨w.heap.size + 1 + 1, 0, none⟩) 2 c)).alloc o1).alloc o2)) (.cells R 5 fz)
  simpa using h
theorem nw_size : (nextW w n k o s c o1 o2 R fz).heap.size = w.heap.size + 3 := by
  unfold nextW
  simp
theorem nw_below {w0 : World} (hn : n ≤ w.heap.size) (h : Below n w0 w) : Below n w0 (nextW w n k o s c o1 o2 R fz) := by
  unfold nextW
  refine ((((((h.setCell (Nat.le_refl _) _).setCell (Nat.le_succ _) _).setCell (Nat.le_succ _) _).alloc ?_ _).alloc ?_ _).alloc ?_ _).drew <;> simp <;> omega
theorem nw_keep {p : Addr} (h2 : n + 1 < p.block ∧ p.block < w.heap.size) : (nextW w n k o s c o1 o2 R fz).cell? p = w.cell? p := by
  have e : ∀ j i : Nat, j ≤ n + 1 → (⟨j, i, none⟩ : Addr) ≠ p := fun j i hj h => by
    have := congrArg Addr.block h
    simp at this
    omega
  exact nw_old h2.2 (e _ _ (by omega)) (e _ _ (by omega)) (e _ _ (by omega))
theorem nw_keepd {p : Addr} {b c' : Nat} {u : Int} (hp : p.block = n + 1 ∧ p.off ≠ 256 ∧ p.off ≠ o ∧ n + 1 < w.heap.size) (h : n + 1 < b ∧ b < w.heap.size ∧ w.cell? p = some (.slice (some ⟨b, 0, none⟩) 2 c') ∧ w.cell? ⟨b, 0, none⟩ = some (.int .u8 92) ∧ w.cell? ⟨b, 1, none⟩ = some (.int .u8 u)) :
    ∃ b c', n + 1 < b ∧ b < (nextW w n k o s c o1 o2 R fz).heap.size ∧ (nextW w n k o s c o1 o2 R fz).cell? p = some (.slice (some ⟨b, 0, none⟩) 2 c') ∧ (nextW w n k o s c o1 o2 R fz).cell? ⟨b, 0, none⟩ = some (.int .u8 92) ∧ (nextW w n k o s c o1 o2 R fz).cell? ⟨b, 1, none⟩ = some (.int .u8 u) := by
  obtain ⟨h1, h2, h3, h4, h5⟩ := h
  obtain ⟨p1, p2, p3, p4⟩ := hp
  refine ⟨b, c', h1, by rw [nw_size]; omega, (nw_old (by omega) ?_ ?_ ?_).trans h3, (nw_keep ⟨h1, h2⟩).trans h4, (nw_keep ⟨h1, h2⟩).trans h5⟩
  · intro e; rw [← e] at p1; simp at p1
  · intro e; rw [← e] at p2; simp at p2
  · intro e; rw [← e] at p3; simp at p3
theorem rep_next {w0 : World} {x : Int} (h : RepK w0 w n k) (hk : (k = 0 ∧ o = 10 ∧ s = ⟨#[10]⟩ ∧ x = 110) ∨ (k = 1 ∧ o = 34 ∧ s = ⟨#[34]⟩ ∧ x = 34) ∨ (k = 2 ∧ o = 92 ∧ s = ⟨#[92]⟩ ∧ x = 92)) (hR : R[0]? = some (.int .u8 92) ∧ R[1]? = some (.int .u8 x)) :
    RepK w0 (nextW w n k o s c o1 o2 R fz) n (k + 1) := by
  have ht := h.two
  have ho : o < 256 := by omega
  have new : ∃ b c', n + 1 < b ∧ b < (nextW w n k o s c o1 o2 R fz).heap.size ∧ (nextW w n k o s c o1 o2 R fz).cell? ⟨n + 1, o, none⟩ = some (.slice (some ⟨b, 0, none⟩) 2 c') ∧ (nextW w n k o s c o1 o2 R fz).cell? ⟨b, 0, none⟩ = some (.int .u8 92) ∧ (nextW w n k o s c o1 o2 R fz).cell? ⟨b, 1, none⟩ = some (.int .u8 x) :=
    ⟨w.heap.size + 1 + 1, c, by omega, by rw [nw_size]; omega, nw_ent ht ho (h.tbl o ho (by omega) (by omega) (by omega)), nw_new 0 hR.1, nw_new 1 hR.2⟩
  have tt : ∀ i (v : Value), i ≠ k → w.cell? ⟨n, i, none⟩ = some v → (nextW w n k o s c o1 o2 R fz).cell? ⟨n, i, none⟩ = some v := fun i v hi hv =>
    (nw_old (show n < _ by omega) (by simp <;> omega) (by simp) (by simp)).trans hv
  refine ⟨nw_below (by omega) h.bel, by rw [nw_size]; omega, ?_, ?_, ?_, ?_, nw_sl ht ho h.sl, ?_, ?_, ?_, fun i => (nw_fz (show n + 1 < _ from ht)).trans (h.fz i), fun i => (nw_fz (show n < _ by omega)).trans (h.ft i)⟩
  · intro i hi a1 a2 a3
    exact (nw_old (show n + 1 < _ from ht) (by simp) (by simp <;> omega) (by simp <;> omega)).trans (h.tbl i hi (by omega) (by omega) (by omega))
  · intro _
    rcases hk with ⟨rfl, rfl, rfl, rfl⟩ | ⟨rfl, rfl, rfl, rfl⟩ | ⟨rfl, rfl, rfl, rfl⟩
    · exact new
    · obtain ⟨b, c', q⟩ := h.d10 (by decide)
      exact nw_keepd ⟨rfl, by simp, by simp, ht⟩ q
    · obtain ⟨b, c', q⟩ := h.d10 (by decide)
      exact nw_keepd ⟨rfl, by simp, by simp, ht⟩ q
  · intro hq
    rcases hk with ⟨rfl, rfl, rfl, rfl⟩ | ⟨rfl, rfl, rfl, rfl⟩ | ⟨rfl, rfl, rfl, rfl⟩
    · exact absurd hq (by decide)
    · exact new
    · obtain ⟨b, c', q⟩ := h.d34 (by decide)
      exact nw_keepd ⟨rfl, by simp, by simp, ht⟩ q
  · intro hq
    rcases hk with ⟨rfl, rfl, rfl, rfl⟩ | ⟨rfl, rfl, rfl, rfl⟩ | ⟨rfl, rfl, rfl, rfl⟩
    · exact absurd hq (by decide)
    · exact absurd hq (by decide)
    · exact new
  · rcases hk with ⟨rfl, rfl, rfl, rfl⟩ | ⟨rfl, rfl, rfl, rfl⟩ | ⟨rfl, rfl, rfl, rfl⟩
    · exact nw_str (by omega) h.t0
    · exact tt 0 _ (by decide) h.t0
    · exact tt 0 _ (by decide) h.t0
  · rcases hk with ⟨rfl, rfl, rfl, rfl⟩ | ⟨rfl, rfl, rfl, rfl⟩ | ⟨rfl, rfl, rfl, rfl⟩
    · exact tt 1 _ (by decide) h.t1
    · exact nw_str (by omega) h.t1
    · exact tt 1 _ (by decide) h.t1
  · rcases hk with ⟨rfl, rfl, rfl, rfl⟩ | ⟨rfl, rfl, rfl, rfl⟩ | ⟨rfl, rfl, rfl, rfl⟩
    · exact tt 2 _ (by decide) h.t2
    · exact tt 2 _ (by decide) h.t2
    · exact nw_str (by omega) h.t2
end
set_option maxHeartbeats 4000000 in
theorem build_155 (rb bo oc : Nat) (w : World) (hbo : bo < w.heap.size) (hr : w.cell? ⟨rb, 4, none⟩ = some (.slice (some ⟨bo, 0, none⟩) 6 oc))
    (c0 : w.cell? ⟨bo, 0, none⟩ = some (.string ⟨#[92]⟩)) (c1 : w.cell? ⟨bo, 1, none⟩ = some (.string ⟨#[92, 92]⟩)) (c2 : w.cell? ⟨bo, 2, none⟩ = some (.string ⟨#[34]⟩))
    (c3 : w.cell? ⟨bo, 3, none⟩ = some (.string ⟨#[92, 34]⟩)) (c4 : w.cell? ⟨bo, 4, none⟩ = some (.string ⟨#[10]⟩)) (c5 : w.cell? ⟨bo, 5, none⟩ = some (.string ⟨#[92, 110]⟩)) :
    Calls Tryz.prog 155 #[.pointer (some ⟨rb, 0, none⟩)] w fun e w' => e = .returned (.iface 241 (.pointer (some ⟨w.heap.size + 1, 0, none⟩))) ∧ RepK w w' w.heap.size 3 := by
  obtain ⟨Z0, hZ0⟩ : ∃ Z, (Array.replicate 257 (.slice none 0 0) : Array Value) = Z := ⟨_, rfl⟩
  have hmk := made67
  have hZs : Z0.size = 257 := by rw [← hZ0, Array.size_replicate]
  have hz : ∀ w : World, (zeroValue 240).run Tryz.prog w = .ok (.agg Z0) w := by
    subst hZ0
    exact (zero_of_info info240).1
  have hst : ∀ (w : World) (o : Obj) (b c d : Nat), (storeCells ⟨w.heap.size + 1, 0, none⟩ (Z0.toList.set 256 (.slice (some ⟨b, 0, none⟩) c d)) 0).run Tryz.prog ((w.alloc o).alloc (.cells Z0 240)) = .ok () ((w.alloc o).alloc (.cells (Z0.setIfInBounds 256 (.slice (some ⟨b, 0, none⟩) c d)) 240)) := by
    intro w o b c d
    have h := run_storeCells_new (P := Tryz.prog) (w.alloc o) 240 Z0 (Z0.setIfInBounds 256 (.slice (some ⟨b, 0, none⟩) c d)) (by rw [size240, Array.size_setIfInBounds, hZs]) (by rw [Array.size_setIfInBounds]) (by rw [← hZ0]; exact all240 _ rfl)
    rw [Array.toList_setIfInBounds, show (w.alloc o).heap.size = w.heap.size + 1 by simp] at h
    exact h
  go_enter Tryz.func155, Tryz.ntmps155
  go_wp2_with fail
  go_loopw [4, 5] (fun v i wr => wr = w ∧ ∃ k : Nat, k ≤ 3 ∧ i = .int .i64 (2 * k : Nat) ∧ v = .bool (decide (k = 0))) (fun _ i _ => (6 - intOf i).toNat)
  case atStart => exact ⟨rfl, 0, by decide, rfl, rfl⟩
  case round =>
    obtain ⟨rfl, k, hk, rfl, rfl⟩ := hrel
    obtain rfl | rfl | rfl | rfl : k = 0 ∨ k = 1 ∨ k = 2 ∨ k = 3 := by omega
    · go_wp2_with fail
      go_roundw
      case rel => exact ⟨trivial, 1, by decide, rfl, rfl⟩
      case measure => simp [intOf]
    · go_wp2_with fail
      go_roundw
      case rel => exact ⟨trivial, 2, by decide, rfl, rfl⟩
      case measure => simp [intOf]
    · go_wp2_with fail
      go_roundw
      case rel => exact ⟨trivial, 3, by decide, rfl, rfl⟩
      case measure => simp [intOf]
    · have HK := Lib.hid (show RepK wr ((wr.alloc (.cells #[.string ⟨#[]⟩, .string ⟨#[]⟩, .string ⟨#[]⟩] 9)).alloc (.cells (Z0.setIfInBounds 256 (.slice (some ⟨wr.heap.size, 0, none⟩) 0 3)) 240)) wr.heap.size 0 from by rw [← hZ0]; exact rep_zero wr)
      go_wp2_with fail
      obtain ⟨n, hn⟩ : ∃ n, wr.heap.size = n := ⟨_, rfl⟩
      rw [hn] at HK ⊢
      have HN := Lib.hid hn
      obtain ⟨W1, hW1⟩ : ∃ W1, (wr.alloc (.cells #[.string ⟨#[]⟩, .string ⟨#[]⟩, .string ⟨#[]⟩] 9)).alloc (.cells (Z0.setIfInBounds 256 (.slice (some ⟨n, 0, none⟩) 0 3)) 240) = W1 := ⟨_, rfl⟩
      rw [hW1] at HK ⊢
      have HC4 : Hid (∀ wx, Below n wr wx → wx.cell? ⟨bo, 4, none⟩ = some (.string ⟨#[10]⟩) ∧ wx.cell? ⟨bo, 5, none⟩ = some (.string ⟨#[92, 110]⟩)) := Lib.hid (fun wx h => ⟨(h.cell (by show bo < n; omega)).trans c4, (h.cell (by show bo < n; omega)).trans c5⟩)
      have HC2 : Hid (∀ wx, Below n wr wx → wx.cell? ⟨bo, 2, none⟩ = some (.string ⟨#[34]⟩) ∧ wx.cell? ⟨bo, 3, none⟩ = some (.string ⟨#[92, 34]⟩)) := Lib.hid (fun wx h => ⟨(h.cell (by show bo < n; omega)).trans c2, (h.cell (by show bo < n; omega)).trans c3⟩)
      have HC0 : Hid (∀ wx, Below n wr wx → wx.cell? ⟨bo, 0, none⟩ = some (.string ⟨#[92]⟩) ∧ wx.cell? ⟨bo, 1, none⟩ = some (.string ⟨#[92, 92]⟩)) := Lib.hid (fun wx h => ⟨(h.cell (by show bo < n; omega)).trans c0, (h.cell (by show bo < n; omega)).trans c1⟩)
      clear hW1 hst hmk hz hn c0 c1 c2 c3 c4 c5 hr hbo
      go_loopw [12] (fun i wx => ∃ k : Nat, k ≤ 3 ∧ i = .int .i64 (4 - 2 * (k : Nat) : Int) ∧ RepK wr wx n k) (fun i _ => (4 + intOf i).toNat)
      case atStart => exact ⟨0, by decide, rfl, HK.out⟩
      case round =>
        obtain ⟨k, hk, rfl, hK⟩ := hrel
        obtain rfl | rfl | rfl | rfl : k = 0 ∨ k = 1 ∨ k = 2 ∨ k = 3 := by omega
        · have HK2 := Lib.hid hK
          have e1 := hK.tbl 10 (by decide) (by decide) (by decide) (by decide)
          have e2 := hK.sl
          have e3 := hK.t0
          have e4 := hK.fz
          have e5 := hK.ft
          obtain ⟨e6, e7⟩ := HC4.out _ hK.bel
          clear hK
          have he59 := eq59
          have hcv := conv59 10
          simp only [show (((10 : UInt8).toNat : Nat) : Int) = 10 from rfl] at hcv
          obtain ⟨cp, RW, fz, hcb, hRW⟩ := back59 92 110
          have s1 := HK2.out.two
          have s2 := Nat.lt_trans (Nat.lt_succ_self n) s1
          have g10 : ∀ h, ((({ data := #[10] } : ByteArray)[0]'h).toNat : Int) = 10 := fun _ => rfl
          go_wp2_with fail
          go_roundw
          case rel => exact ⟨0 + 1, by decide, rfl, rep_next HK2.out (by simp) (hRW _)⟩
          case measure => simp [intOf]
        · have HK2 := Lib.hid hK
          have e1 := hK.tbl 34 (by decide) (by decide) (by decide) (by decide)
          have e2 := hK.sl
          have e3 := hK.t1
          have e4 := hK.fz
          have e5 := hK.ft
          obtain ⟨e6, e7⟩ := HC2.out _ hK.bel
          clear hK
          have he59 := eq59
          have hcv := conv59 34
          simp only [show (((34 : UInt8).toNat : Nat) : Int) = 34 from rfl] at hcv
          obtain ⟨cp, RW, fz, hcb, hRW⟩ := back59 92 34
          have s1 := HK2.out.two
          have s2 := Nat.lt_trans (Nat.lt_succ_self n) s1
          have g10 : ∀ h, ((({ data := #[34] } : ByteArray)[0]'h).toNat : Int) = 34 := fun _ => rfl
          go_wp2_with fail
          go_roundw
          case rel => exact ⟨1 + 1, by decide, rfl, rep_next HK2.out (by simp) (hRW _)⟩
          case measure => simp [intOf]
        · have HK2 := Lib.hid hK
          have e1 := hK.tbl 92 (by decide) (by decide) (by decide) (by decide)
          have e2 := hK.sl
          have e3 := hK.t2
          have e4 := hK.fz
          have e5 := hK.ft
          obtain ⟨e6, e7⟩ := HC0.out _ hK.bel
          clear hK
          have he59 := eq59
          have hcv := conv59 92
          simp only [show (((92 : UInt8).toNat : Nat) : Int) = 92 from rfl] at hcv
          obtain ⟨cp, RW, fz, hcb, hRW⟩ := back59 92 92
          have s1 := HK2.out.two
          have s2 := Nat.lt_trans (Nat.lt_succ_self n) s1
          have g10 : ∀ h, ((({ data := #[92] } : ByteArray)[0]'h).toNat : Int) = 92 := fun _ => rfl
          go_wp2_with fail
          go_roundw
          case rel => exact ⟨2 + 1, by decide, rfl, rep_next HK2.out (by simp) (hRW _)⟩
          case measure => simp [intOf]
        · go_wp2_with fail
          go_ret
          exact ⟨by rw [HN.out]; rfl, by rw [HN.out]; exact hK⟩
end Go.Proofs.YtagiddbfhlokcaaGreatDoor.Rp
/- The replacer is made and built once. Conditions: the six texts, where they lie. -/
namespace Go.Proofs.YtagiddbfhlokcaaGreatDoor.Rp
open Go.RowKit
set_option maxRecDepth 100000
/-- The six texts in a block. -/
structure Six (w : World) (bo : Nat) : Prop where
  lt : bo < w.heap.size
  c0 : w.cell? ⟨bo, 0, none⟩ = some (.string ⟨#[92]⟩)
  c1 : w.cell? ⟨bo, 1, none⟩ = some (.string ⟨#[92, 92]⟩)
  c2 : w.cell? ⟨bo, 2, none⟩ = some (.string ⟨#[34]⟩)
  c3 : w.cell? ⟨bo, 3, none⟩ = some (.string ⟨#[92, 34]⟩)
  c4 : w.cell? ⟨bo, 4, none⟩ = some (.string ⟨#[10]⟩)
  c5 : w.cell? ⟨bo, 5, none⟩ = some (.string ⟨#[92, 110]⟩)
theorem once_106 (rb bo oc : Nat) (w : World) (hrb : rb < w.heap.size) (h3 : w.cell? ⟨rb, 3, none⟩ = some .nilIface) (hr : w.cell? ⟨rb, 4, none⟩ = some (.slice (some ⟨bo, 0, none⟩) 6 oc))
    (f3 : w.frozen? ⟨rb, 3, none⟩ = false) (f4 : w.frozen? ⟨rb, 4, none⟩ = false) (hs : Six w bo) :
    Calls Tryz.prog 106 #[.pointer (some ⟨rb, 0, none⟩)] w fun e w' => e = .returned (.tuple #[]) ∧ ∃ w1, RepK w w1 w.heap.size 3 ∧ w' = (w1.setCell ⟨rb, 3, none⟩ (.iface 241 (.pointer (some ⟨w.heap.size + 1, 0, none⟩)))).setCell ⟨rb, 4, none⟩ (.slice none 0 0) := by
  go_enter Tryz.func106, Tryz.ntmps106
  go_wp2_with (go_at_call 155; refine (build_155 rb bo oc _ hs.lt hr hs.c0 hs.c1 hs.c2 hs.c3 hs.c4 hs.c5).mono ?_; rintro e w1 ⟨rfl, hK⟩; have k3 := (hK.bel.cell (p := ⟨rb, 3, none⟩) hrb).trans h3; have k4 := (hK.bel.cell (p := ⟨rb, 4, none⟩) hrb).trans hr; have g3 := (hK.bel.frozen (p := ⟨rb, 3, none⟩) hrb).trans f3; have g4 := (hK.bel.frozen (p := ⟨rb, 4, none⟩) hrb).trans f4)
  go_end0
  exact ⟨rfl, w1, hK, rfl⟩
/-- A replacer that is not yet built. -/
structure Raw (w : World) (rb bo oc : Nat) : Prop where
  lt : rb < w.heap.size
  z0 : w.cell? ⟨rb, 0, none⟩ = some (.int .u32 0)
  z1 : w.cell? ⟨rb, 1, none⟩ = some (.int .i32 0)
  z3 : w.cell? ⟨rb, 3, none⟩ = some .nilIface
  z4 : w.cell? ⟨rb, 4, none⟩ = some (.slice (some ⟨bo, 0, none⟩) 6 oc)
  fz : ∀ c, w.frozen? ⟨rb, c, none⟩ = false
  six : Six w bo
def texts : List Value := [.string ⟨#[92]⟩, .string ⟨#[92, 92]⟩, .string ⟨#[34]⟩, .string ⟨#[92, 34]⟩, .string ⟨#[10]⟩, .string ⟨#[92, 110]⟩]
theorem info9 : ((Tryz.prog.info? 9).map fun i => (i.zero, i.size, i.bytes)) = some (some (.string ⟨#[]⟩), 1, 16) := by kernel_rfl
theorem six_row {w : World} {m : Nat} (h : Six w m) : ∀ (j : Nat) (u : Value), texts[j]? = some u → w.cell? ((⟨m, 0, none⟩ : Addr).add j) = some u := by
  intro j v hj
  rw [show (Addr.add ⟨m, 0, none⟩ j) = ⟨m, j, none⟩ by unfold Addr.add; split <;> simp_all]
  have hj6 : j < 6 := (List.getElem?_eq_some_iff.1 hj).1
  obtain rfl | rfl | rfl | rfl | rfl | rfl : j = 0 ∨ j = 1 ∨ j = 2 ∨ j = 3 ∨ j = 4 ∨ j = 5 := by omega
  · exact h.c0.trans hj
  · exact h.c1.trans hj
  · exact h.c2.trans hj
  · exact h.c3.trans hj
  · exact h.c4.trans hj
  · exact h.c5.trans hj
theorem six_own {w : World} {base : Nat} {v : Value} {b : Nat} (h : w.ownsRow base 9 1 v 6 texts) (hb : v.ownBlock = none ∨ v.ownBlock = some b) : ∃ oc, v = .slice (some ⟨b, 0, none⟩) 6 oc ∧ Six w b := by
  rcases h.2 with ⟨rfl, h0⟩ | ⟨g, cap, cur, rfl, _, hg, _⟩
  · exact absurd h0 (by decide)
  · rcases hb with hb | hb
    · cases hb
    · obtain rfl : g = b := Option.some.inj hb
      have c : ∀ j, j < 6 → w.cell? ⟨g, j, none⟩ = texts[j]? := fun j hj => h.cellAt j (by omega)
      exact ⟨cap, rfl, (Array.getElem?_eq_some_iff.1 hg).1, c 0 (by decide), c 1 (by decide), c 2 (by decide), c 3 (by decide), c 4 (by decide), c 5 (by decide)⟩
theorem Six.keep {w w' : World} {b B : Nat} (h : Six w b) (hw : Below B w w') (hb : b < B) : Six w' b :=
  ⟨Nat.lt_of_lt_of_le h.lt hw.size, (hw.cell (p := ⟨b, 0, none⟩) hb).trans h.c0, (hw.cell (p := ⟨b, 1, none⟩) hb).trans h.c1, (hw.cell (p := ⟨b, 2, none⟩) hb).trans h.c2, (hw.cell (p := ⟨b, 3, none⟩) hb).trans h.c3, (hw.cell (p := ⟨b, 4, none⟩) hb).trans h.c4, (hw.cell (p := ⟨b, 5, none⟩) hb).trans h.c5⟩
theorem raw_new {w : World} {b oc : Nat} (h : Six w b) : Raw (w.alloc (.cells #[.int .u32 0, .int .i32 0, .int .u32 0, .nilIface, .slice (some ⟨b, 0, none⟩) 6 oc] 159)) w.heap.size b oc := by
  have hh := heap_alloc_last w (.cells #[.int .u32 0, .int .i32 0, .int .u32 0, .nilIface, .slice (some ⟨b, 0, none⟩) 6 oc] 159)
  exact ⟨by simp, (cell_of_row _ _ 0 _ _ _ hh).trans rfl, (cell_of_row _ _ 1 _ _ _ hh).trans rfl, (cell_of_row _ _ 3 _ _ _ hh).trans rfl, (cell_of_row _ _ 4 _ _ _ hh).trans rfl, fun c => frz hh, h.keep ((Below.refl w.heap.size w).alloc (Nat.le_refl _) _) h.lt⟩
theorem new_68 (m : Nat) (w : World) (h : Six w m) : Calls Tryz.prog 68 #[.slice (some ⟨m, 0, none⟩) 6 6] w fun e w' => ∃ rb bo oc, e = .returned (.pointer (some ⟨rb, 0, none⟩)) ∧ Below w.heap.size w w' ∧ w.heap.size ≤ rb ∧ Raw w' rb bo oc := by
  obtain ⟨i0, hi, hz0, hz1, hz2⟩ := info_parts info9
  have HI := Lib.hid hi
  have HZ0 := Lib.hid hz0
  have HZ1 := Lib.hid hz1
  have HZ2 := Lib.hid hz2
  have HS := Lib.hid h
  clear hi hz0 hz1 hz2 h
  go_enter Tryz.func68, Tryz.ntmps68
  go_wp2_with (at_builtin; go_must (refine wpList_append_own_at _ rfl (.const (.slice none 0 0)) (.tmp 8) 67 rfl w.heap.size 9 i0 (.string ⟨#[]⟩) 1 16 Tryz.underlying67 HI.out HZ0.out HZ1.out HZ2.out rfl (by decide) _ _ _ rfl (World.ownsRow_nil _ _ _ _) ⟨m, 0, none⟩ 6 6 texts rfl rfl (six_row HS.out) (by simp [texts, Value.oneCell']) (by decide) (by decide) (Nat.le_refl _) ?_); intro vz wz hown hgrow hnil hblk; obtain ⟨oc, rfl, hsix⟩ := six_own hown hblk; have HX := Lib.hid hsix; have HG := Lib.hid hgrow; clear hown hgrow hnil hblk hsix)
  go_ret
  have hbl := ((Below.refl w.heap.size w).grown HG.out (Nat.le_refl _) (fun k hk => by cases hk)).alloc (Nat.le_of_lt HX.out.lt) (.cells #[.int .u32 0, .int .i32 0, .int .u32 0, .nilIface, .slice (some ⟨w.heap.size, 0, none⟩) 6 oc] 159)
  exact ⟨wz.heap.size, w.heap.size, oc, rfl, hbl, Nat.le_of_lt HX.out.lt, raw_new HX.out⟩
/-- A replacer's table, whole. -/
structure Rep (w : World) (n : Nat) : Prop where
  two : n + 1 < w.heap.size
  tbl : ∀ c, c < 256 → c ≠ 10 → c ≠ 34 → c ≠ 92 → w.cell? ⟨n + 1, c, none⟩ = some (.slice none 0 0)
  d10 : ∃ b c, n + 1 < b ∧ b < w.heap.size ∧ w.cell? ⟨n + 1, 10, none⟩ = some (.slice (some ⟨b, 0, none⟩) 2 c) ∧ w.cell? ⟨b, 0, none⟩ = some (.int .u8 92) ∧ w.cell? ⟨b, 1, none⟩ = some (.int .u8 110)
  d34 : ∃ b c, n + 1 < b ∧ b < w.heap.size ∧ w.cell? ⟨n + 1, 34, none⟩ = some (.slice (some ⟨b, 0, none⟩) 2 c) ∧ w.cell? ⟨b, 0, none⟩ = some (.int .u8 92) ∧ w.cell? ⟨b, 1, none⟩ = some (.int .u8 34)
  d92 : ∃ b c, n + 1 < b ∧ b < w.heap.size ∧ w.cell? ⟨n + 1, 92, none⟩ = some (.slice (some ⟨b, 0, none⟩) 2 c) ∧ w.cell? ⟨b, 0, none⟩ = some (.int .u8 92) ∧ w.cell? ⟨b, 1, none⟩ = some (.int .u8 92)
  sl : w.cell? ⟨n + 1, 256, none⟩ = some (.slice (some ⟨n, 0, none⟩) 3 3)
  t0 : w.cell? ⟨n, 0, none⟩ = some (.string ⟨#[10]⟩)
  t1 : w.cell? ⟨n, 1, none⟩ = some (.string ⟨#[34]⟩)
  t2 : w.cell? ⟨n, 2, none⟩ = some (.string ⟨#[92]⟩)
theorem RepK.rep {w0 w w' : World} {n : Nat} (h : RepK w0 w n 3) (hw : ∀ p : Addr, n ≤ p.block → w'.cell? p = w.cell? p) (hs : w.heap.size ≤ w'.heap.size) : Rep w' n := by
  have dd : ∀ (o : Nat) (u : Int), (∃ b c, n + 1 < b ∧ b < w.heap.size ∧ w.cell? ⟨n + 1, o, none⟩ = some (.slice (some ⟨b, 0, none⟩) 2 c) ∧ w.cell? ⟨b, 0, none⟩ = some (.int .u8 92) ∧ w.cell? ⟨b, 1, none⟩ = some (.int .u8 u)) →
      ∃ b c, n + 1 < b ∧ b < w'.heap.size ∧ w'.cell? ⟨n + 1, o, none⟩ = some (.slice (some ⟨b, 0, none⟩) 2 c) ∧ w'.cell? ⟨b, 0, none⟩ = some (.int .u8 92) ∧ w'.cell? ⟨b, 1, none⟩ = some (.int .u8 u) := by
    rintro o u ⟨b, c, h1, h2, h3, h4, h5⟩
    exact ⟨b, c, h1, by omega, (hw _ (by show n ≤ n + 1; omega)).trans h3, (hw _ (by show n ≤ b; omega)).trans h4, (hw _ (by show n ≤ b; omega)).trans h5⟩
  exact ⟨Nat.lt_of_lt_of_le h.two hs, fun c hc a1 a2 a3 => (hw _ (by show n ≤ n + 1; omega)).trans (h.tbl c hc (fun q => a1 q.1) (fun q => a2 q.1) (fun q => a3 q.1)), dd _ _ (h.d10 (by decide)), dd _ _ (h.d34 (by decide)), dd _ _ (h.d92 (by decide)),
    (hw _ (by show n ≤ n + 1; omega)).trans h.sl, (hw _ (Nat.le_refl n)).trans h.t0, (hw _ (Nat.le_refl n)).trans h.t1, (hw _ (Nat.le_refl n)).trans h.t2⟩
theorem do_105 (B rb bo oc : Nat) (w : World) (hB : B ≤ rb) (h : Raw w rb bo oc) : Calls Tryz.prog 105 #[.pointer (some ⟨rb, 0, none⟩), .func (.func 106) #[.pointer (some ⟨rb, 0, none⟩)] #[]] w fun e w' => e = .returned (.tuple #[]) ∧ (Below B w w' ∧ w'.cell? ⟨rb, 3, none⟩ = some (.iface 241 (.pointer (some ⟨w.heap.size + 1, 0, none⟩))) ∧ Rep w' w.heap.size) := by
  have hsz : (w.setCell ⟨rb, 0 + 1, none⟩ (.int .i32 1)).heap.size = w.heap.size := by simp
  have keep : ∀ j, j ≠ 1 → (w.setCell ⟨rb, 0 + 1, none⟩ (.int .i32 1)).cell? ⟨rb, j, none⟩ = w.cell? ⟨rb, j, none⟩ := fun j hj => World.cell?_setCell_other _ _ _ _ (by simp <;> omega)
  have fz : ∀ j, (w.setCell ⟨rb, 0 + 1, none⟩ (.int .i32 1)).frozen? ⟨rb, j, none⟩ = false := fun j => by simpa using h.fz j
  have bne : rb ≠ bo := by
    rintro rfl
    have := h.z0.symm.trans h.six.c0
    cases this
  have hsix : Six (w.setCell ⟨rb, 0 + 1, none⟩ (.int .i32 1)) bo := by
    have k : ∀ j, (w.setCell ⟨rb, 0 + 1, none⟩ (.int .i32 1)).cell? ⟨bo, j, none⟩ = w.cell? ⟨bo, j, none⟩ := fun j => World.cell?_setCell_other _ _ _ _ (fun e => bne (congrArg Addr.block e))
    exact ⟨by rw [hsz]; exact h.six.lt, (k 0).trans h.six.c0, (k 1).trans h.six.c1, (k 2).trans h.six.c2, (k 3).trans h.six.c3, (k 4).trans h.six.c4, (k 5).trans h.six.c5⟩
  refine once rb 0 ⟨rb, 0, none⟩ w _ h.z0 h.z1 (h.fz 1) ?_
  refine (once_106 rb bo oc _ (by rw [hsz]; exact h.lt) ((keep 3 (by decide)).trans h.z3) ((keep 4 (by decide)).trans h.z4) (fz 3) (fz 4) hsix).mono ?_
  rintro e w' ⟨rfl, w1, hK, rfl⟩
  rw [hsz] at hK ⊢
  have hb := hK.bel
  have kk : ∀ j, w1.cell? ⟨rb, j, none⟩ = (w.setCell ⟨rb, 0 + 1, none⟩ (.int .i32 1)).cell? ⟨rb, j, none⟩ := fun j => hb.cell (p := ⟨rb, j, none⟩) h.lt
  have kf : ∀ j, w1.frozen? ⟨rb, j, none⟩ = false := fun j => (hb.frozen (p := ⟨rb, j, none⟩) h.lt).trans (fz j)
  refine ⟨rfl, ?_, ?_, ?_, ?_, ?_, ?_, ?_⟩
  · rw [World.cell?_setCell_other _ _ _ _ (by simp), World.cell?_setCell_other _ _ _ _ (by simp), kk, keep 0 (by decide)]
    exact h.z0
  · rw [World.cell?_setCell_other _ _ _ _ (by simp), World.cell?_setCell_other _ _ _ _ (by simp), kk]
    exact World.cell?_setCell_same _ _ _ h.z1
  · simpa using kf 0
  · simpa using kf 1
  · exact (((((((Below.refl B w).setCell (p := ⟨rb, 0 + 1, none⟩) hB _).trans (hb.mono (Nat.le_trans hB (Nat.le_of_lt h.lt)))).setCell (p := ⟨rb, 3, none⟩) hB _).setCell (p := ⟨rb, 4, none⟩) hB _).drew.setCell (p := ⟨rb, 0, none⟩) hB _).setCell (p := ⟨rb, 0 + 1, none⟩) hB _)
  · rw [World.cell?_setCell_other _ _ _ _ (by simp), World.cell?_setCell_other _ _ _ _ (by simp), World.cell?_drew, World.cell?_setCell_other _ _ _ _ (by simp)]
    exact World.cell?_setCell_same _ _ _ ((kk 3).trans ((keep 3 (by decide)).trans h.z3))
  · refine hK.rep (fun p hp => ?_) (by simp)
    have ne : ∀ j, (⟨rb, j, none⟩ : Addr) ≠ p := fun j e => by
      rw [← e] at hp
      exact absurd h.lt (Nat.not_lt.2 hp)
    rw [World.cell?_setCell_other _ _ _ _ (ne _), World.cell?_setCell_other _ _ _ _ (ne _), World.cell?_drew, World.cell?_setCell_other _ _ _ _ (ne _), World.cell?_setCell_other _ _ _ _ (ne _)]
end Go.Proofs.YtagiddbfhlokcaaGreatDoor.Rp
/- A buffer that is filled from the left. Condition: its length. -/
namespace Go.Proofs.YtagiddbfhlokcaaGreatDoor.Rp
open Go.RowKit
set_option maxRecDepth 100000
/-- A buffer of N bytes, of which d stand. -/
structure Buf (w wx : World) (B N : Nat) (d : List UInt8) : Prop where
  bel : Below B w wx
  row : wx.heap[B]? = some (.cells (Lib.byteCells d ++ List.replicate (N - d.length) (Value.int .u8 0)).toArray 5 (0, 0))
  le : d.length ≤ N
theorem byteCells_len (d : List UInt8) : (Lib.byteCells d).length = d.length := by simp [Lib.byteCells]
theorem Buf.push {w wx : World} {B N : Nat} {d : List UInt8} (h : Buf w wx B N d) (c : UInt8) (hl : d.length < N) : Buf w (wx.setCell ⟨B, d.length, none⟩ (.int .u8 (c.toNat : Int))) B N (d ++ [c]) := by
  refine ⟨h.bel.setCell (Nat.le_refl _) _, ?_, by simp; omega⟩
  rw [setCell_eq_setRow _ _ _ _ _ _ _ h.row, setRow_heap _ _ _ _ _ _ h.row]
  congr 2
  have e1 : N - d.length = (N - (d ++ [c]).length) + 1 := by simp; omega
  rw [e1, List.replicate_succ]
  apply Array.ext'
  rw [Array.toList_setIfInBounds]
  show List.set (Lib.byteCells d ++ Value.int .u8 0 :: List.replicate (N - (d ++ [c]).length) (Value.int .u8 0)) d.length (Value.int .u8 (c.toNat : Int)) = Lib.byteCells (d ++ [c]) ++ List.replicate (N - (d ++ [c]).length) (Value.int .u8 0)
  have hn := byteCells_len d
  simp only [List.set_append, hn, Nat.lt_irrefl, if_false, Nat.sub_self, List.set_cons_zero]
  simp [Lib.byteCells]
theorem Buf.cell {w wx : World} {B N : Nat} {d : List UInt8} (h : Buf w wx B N d) {j : Nat} (hj : j < N) : ∃ x : Int, wx.cell? ⟨B, j, none⟩ = some (.int .u8 x) := by
  have := cell_of_row _ _ j _ _ _ h.row
  rw [this, List.getElem?_toArray, List.getElem?_append]
  split
  · rename_i hlt
    rw [byteCells_len] at hlt
    exact ⟨_, by rw [Lib.byteCells, List.getElem?_map, List.getElem?_eq_getElem hlt]; rfl⟩
  · rename_i hlt
    rw [byteCells_len] at hlt ⊢
    exact ⟨0, by rw [List.getElem?_replicate, if_pos (by omega)]⟩
theorem Buf.fz {w wx : World} {B N : Nat} {d : List UInt8} (h : Buf w wx B N d) (j : Nat) : wx.frozen? ⟨B, j, none⟩ = false := frz h.row
theorem Buf.drewN {w wx : World} {B N : Nat} {d : List UInt8} (h : Buf w wx B N d) (n : Nat) : Buf w (wx.drewN n) B N d := ⟨below_drewN h.bel n, h.row, h.le⟩
theorem below_setRow (w : World) (B : Nat) (cs : Array Value) : Below B w (w.setRow B cs) := by
  refine ⟨rfl, rfl, rfl, ?_, fun k hk => ?_⟩
  · simp [World.setRow]
  · simp only [World.setRow]
    rw [Array.getElem?_modify, if_neg (by omega)]
theorem info5s : (Tryz.prog.info? 5).map (·.size) = some 1 := by kernel_rfl
/-- A copy of two bytes or one into the buffer, as a drawn region meets it. -/
theorem step_copyB {ops : Array Oper} {o : Oper} {a : Act} {w0 w : World} {B N : Nat} {d : List UInt8} (hb : Buf w0 w B N d) {K : Act → World → Prop} {Q : Exit → Act → World → Prop} {E : Prop} (hgd : o.guard = none) (dd s : Operand)
    (ho : o.op = .call { callee := .builtin .copy, args := #[dd, s], argTypes := #[59, 59] })
    (dLen dCap : Nat) (ad : Addr) (sCap : Nat) (q : List UInt8) (hd : a.eval dd = .slice (some ⟨B, d.length, none⟩) dLen dCap) (hs : a.eval s = .slice (some ad) q.length sCap)
    (hsrc : ∀ j v, (Lib.byteCells q)[j]? = some v → w.cell? (ad.add j) = some v) (hl : q.length ≤ dLen) (hfit : d.length + q.length ≤ N)
    (h : ∀ w', Buf w0 w' B N (d ++ q) → K (a.put o.dst (goInt q.length)) w') :
    if Region.wanted o (yielded ops a.tmps) = true then Oper.wp Tryz.prog o a w K Q else E := by
  have hw : Region.wanted o (yielded ops a.tmps) = true := by simp [Region.wanted, hgd]
  rw [if_pos hw]
  have hle := hb.le
  have hn : (Lib.byteCells q).length = q.length := byteCells_len q
  have hrun := run_copy_row (P := Tryz.prog) w 59 59 o.type 5 B d.length dLen dCap ad q.length sCap _ 5 (Lib.byteCells q) Tryz.underlying59 info5s hb.row (by rw [hn]; exact (Nat.min_eq_left hl).symm) hsrc (by simp [Lib.byteCells]; omega) (by simp [Lib.byteCells, Value.oneCell'])
  unfold Oper.wp
  simp [execOp, ho, resolve, invoke, builtin, hd, hs, hrun, Result.andThen]
  rw [hn]
  refine h _ ⟨?_, ?_, by simp; omega⟩
  · exact hb.bel.trans (below_setRow w B _)
  · rw [setRow_heap _ _ _ _ _ _ hb.row]
    congr 2
    have hd2 := byteCells_len d
    rw [List.take_append_of_le_length (by rw [hd2]; exact Nat.le_refl _), List.take_of_length_le (by rw [hd2]; exact Nat.le_refl _), List.drop_append, List.drop_of_length_le (by rw [hd2]; omega), List.nil_append, hd2, List.drop_replicate]
    have e : N - d.length - (d.length + q.length - d.length) = N - (d ++ q).length := by simp; omega
    rw [e]
    simp [Lib.byteCells]
end Go.Proofs.YtagiddbfhlokcaaGreatDoor.Rp
