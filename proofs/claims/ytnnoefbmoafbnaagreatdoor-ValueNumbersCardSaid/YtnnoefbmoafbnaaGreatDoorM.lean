/- The walk of ValueNumbers. Conditions: the cells of the two tables of powers. -/
import Derived.Test.YtnnoefbmoafbnaaGreatDoorL
import Derived.Deep.Strs
import Derived.ChangeShapes
namespace Go.Proofs.YtnnoefbmoafbnaaGreatDoor
open Go.RowKit Go.WideShapes Go.ChangeShapes Go.Deep
set_option maxRecDepth 100000
theorem trod_float {H : Type} {enc : TypeId × Value → H} {P : Program} {w : World} {base : Nat} {spare : Nat → Bool} {held : Bool} {t : TypeId} {k : FloatKind} {fuel : Nat} {cs : List Value} {x : DataW H × List MemPlace}
    (ht : P.underlying t = some (.float k)) (h : DataW.trod enc P w base spare held fuel t cs = some x) : ∃ n, cs = [.float k n] ∧ x = (.lit (.float k n), []) ∧ (Lit.float k n).wf = true := by
  cases fuel with
  | zero => simp [DataW.trod] at h
  | succ n =>
    unfold DataW.trod at h
    rw [ht] at h
    split at h <;> simp_all
theorem value_open {H : Type} {enc : TypeId × Value → H} {W : World} {base : Nat} {v : Value} {d : DataW H} {p : List MemPlace} (h : DataW.Trod enc Tryz.prog W 0 (fun _ => true) true 24 v d p) (o : Value.okWide Tryz.prog W .any base 24 v) :
    ∃ (k b : Int) (s : ByteArray), v = .agg #[.int .i64 k, .int .u64 b, .string s] ∧ (Lit.int .u64 b).wf = true := by
  obtain ⟨cs, rfl, hcs⟩ := okWide_struct Tryz.underlying24 o
  obtain ⟨fuel, hf⟩ := h
  cases fuel with
  | zero => simp [DataW.trod] at hf
  | succ n =>
    obtain ⟨y0, y1, y2, m, _, hl, e0, e1, e2⟩ := trod_struct3 Tryz.underlying24 hf
    obtain ⟨k, g0, _⟩ := DataW.trod_int Tryz.underlying3 e0
    obtain ⟨b, g1, _, hb⟩ := DataW.trod_int Tryz.underlying22 e1
    obtain ⟨s, g2, _⟩ := DataW.trod_string Tryz.underlying9 e2
    have c24 : Tryz.prog.cellsOf 24 = 3 := by kernel_rfl
    have c3 : Tryz.prog.cellsOf 3 = 1 := by kernel_rfl
    have c22 : Tryz.prog.cellsOf 22 = 1 := by kernel_rfl
    have c9 : Tryz.prog.cellsOf 9 = 1 := by kernel_rfl
    rw [c24] at hcs
    simp only [c3, c22, c9] at g0 g1 g2
    obtain ⟨l⟩ := cs
    match l, hcs with
    | [x, y, z], _ =>
      simp [Value.cells] at g0 g1 g2
      subst g0 g1 g2
      exact ⟨k, b, s, rfl, hb⟩
theorem valueNumbers_walk (H : Type) (enc : TypeId × Value → H) (W : World) (base : Nat) (v0 v1 : Value) (d0 d1 : DataW H) (p0 p1 : List MemPlace) (h0 : DataW.Trod enc Tryz.prog W 0 (fun _ => true) true 24 v0 d0 p0) (o0 : Value.okWide Tryz.prog W .any base 24 v0)
    (h1 : DataW.Trod enc Tryz.prog W 0 (fun _ => true) true 25 v1 d1 p1) (o1 : Value.okWide Tryz.prog W .any base 25 v1) (henv : Env W) (h8 : 8 < W.heap.size) :
    Calls Tryz.prog 3 #[v0, v1] W fun e w' => e = .returned (.bool true) ∧ Below W.heap.size W w' := by
  obtain ⟨k, b, s, rfl, _⟩ := value_open h0 o0
  obtain ⟨x, rfl⟩ : ∃ x, v1 = .float .f64 x := by
    simp only [Value.okWide, Tryz.underlying25, Cell.okWide] at o1
    cases v1 <;> simp_all [Cell.ok]
  have hb0 := (Below.refl W.heap.size W).alloc (Nat.le_refl _) (.cells #[.int .i64 k, .int .u64 b, .string s] 24)
  have HB0 := Lib.hid hb0
  have HE0 := Lib.hid (henv.later hb0 h8)
  have H8 := Lib.hid (show 8 < (W.alloc (.cells #[.int .i64 k, .int .u64 b, .string s] 24)).heap.size by simp; omega)
  have h7 := fun x => run7 x
  clear hb0 henv h0 o0 h1 o1
  go_enter Tryz.func3, Tryz.ntmps3
  go_wp2_with fail
  refine (awake15 _ HE0.out H8.out).mono ?_
  rintro e w1 ⟨rfl, hb1⟩
  have c0 : w1.heap[W.heap.size]? = some (.cells #[.int .i64 k, .int .u64 b, .string s] 24 (0, 0)) := (hb1.block _ (by simp)).trans (heap_alloc_new W _)
  have HB1 := Lib.hid (HB0.out.trans (hb1.mono (by simp)))
  have k0 : w1.cell? ⟨W.heap.size, 0, none⟩ = some (.int .i64 k) := by rw [Lib.cell_of_heap c0]; rfl
  have k1 : w1.cell? ⟨W.heap.size, 1, none⟩ = some (.int .u64 b) := by rw [Lib.cell_of_heap c0]; rfl
  have k2 : w1.cell? ⟨W.heap.size, 2, none⟩ = some (.string s) := by rw [Lib.cell_of_heap c0]; rfl
  have hlt : W.heap.size < w1.heap.size := by have := hb1.size; simp at this; omega
  have HLT := Lib.hid hlt
  clear hb1 c0 hlt
  go_wp2_with fail
  refine (number5 _ _ _ _).mono ?_
  rintro e w' ⟨rfl, hw⟩
  subst hw
  have hb2 := (Below.refl w1.heap.size w1).alloc (Nat.le_refl _) (.cells #[.int .i64 k, .int .u64 b, .string s] 24)
  have j0 := (hb2.cell (p := ⟨W.heap.size, 0, none⟩) HLT.out).trans k0
  have j1 := (hb2.cell (p := ⟨W.heap.size, 1, none⟩) HLT.out).trans k1
  have j2 := (hb2.cell (p := ⟨W.heap.size, 2, none⟩) HLT.out).trans k2
  clear hb2 k0 k1 k2
  go_wp2_with fail
  refine (number6 _ _ _ _).mono ?_
  rintro e w' ⟨rfl, hw⟩
  subst hw
  obtain ⟨X, hX⟩ : ∃ X, numX k b = X := ⟨_, rfl⟩
  obtain ⟨O, hO⟩ : ∃ O, numO k = O := ⟨_, rfl⟩
  rw [hX, hO]
  clear hX hO j0 j1 j2
  go_wp2_with fail
  refine (of8 _ _).mono ?_
  rintro e w' ⟨rfl, hw⟩
  subst hw
  go_wp2_with fail
  refine (of9 _ _).mono ?_
  rintro e w' ⟨rfl, hw⟩
  subst hw
  unfold vFl
  go_wp2_with fail
  go_ret
  refine ⟨rfl, HB1.out.trans ?_⟩
  have hb := ((((Below.refl w1.heap.size w1).alloc (Nat.le_refl _) (.cells #[.int .i64 k, .int .u64 b, .string s] 24)).alloc (by simp) (.cells #[.int .i64 k, .int .u64 b, .string s] 24)).alloc (by simp; omega) (cFl x)).alloc (by simp; omega) (cFl x)
  exact hb.mono (Nat.le_of_lt HLT.out)
end Go.Proofs.YtnnoefbmoafbnaaGreatDoor
