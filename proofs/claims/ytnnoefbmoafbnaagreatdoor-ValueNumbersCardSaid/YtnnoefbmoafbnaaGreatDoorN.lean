/- The cells of the two tables of powers out of the row's condition. -/
import Derived.Test.YtnnoefbmoafbnaaGreatDoorLaid
import Derived.ChangeSame
namespace Go.Proofs.YtnnoefbmoafbnaaGreatDoor
open Go.RowKit Go.WideShapes Go.ChangeShapes Go.Deep
set_option maxRecDepth 100000
theorem row364 : (Pinned.pow10Rows.map fun x => (DataW.agg [.lit (.int .u64 x.1), .lit (.int .u64 x.2)] : DataW Unit))[364]? = some (.agg [.lit (.int .u64 10240000000000000000), .lit (.int .u64 0)]) := by kernel_rfl
theorem pow_cells {W : World} {fuel : Nat} {cs : List Value} {p : List MemPlace} (h : DataW.trod (fun _ => ()) Tryz.prog W 0 (fun _ => true) false fuel 187 cs = some (Pinned.pow10Tab, p)) :
    cs[728]? = some (.int .u64 10240000000000000000) ∧ cs[729]? = some (.int .u64 0) := by
  obtain ⟨xs, m, _, hx, hl, hn, hf⟩ := DataW.trod_array Tryz.underlying187 h
  have c186 : Tryz.prog.cellsOf 186 = 2 := by kernel_rfl
  have c22 : Tryz.prog.cellsOf 22 = 1 := by kernel_rfl
  have h1 : (Pinned.pow10Rows.map fun x => (DataW.agg [.lit (.int .u64 x.1), .lit (.int .u64 x.2)] : DataW Unit)) = xs.map (·.1) := by
    have := congrArg Prod.fst hx
    simp only [Pinned.pow10Tab, DataW.agg.injEq] at this
    exact this
  have h2 := row364
  rw [h1, List.getElem?_map] at h2
  obtain ⟨y, hy, hy1⟩ := Option.map_eq_some_iff.1 h2
  have h3 := hf 364 (by omega)
  rw [hy, c186] at h3
  cases m with
  | zero => simp [DataW.trod] at h3
  | succ m =>
    obtain ⟨y0, y1, k, rfl, _, e0, e1⟩ := trod_struct2 Tryz.underlying186 h3
    simp only [c22] at e0 e1
    obtain ⟨a, g0, rfl, _⟩ := DataW.trod_int Tryz.underlying22 e0
    obtain ⟨b, g1, rfl, _⟩ := DataW.trod_int Tryz.underlying22 e1
    simp only [DataW.agg.injEq, List.cons.injEq, DataW.lit.injEq, Lit.int.injEq, true_and, and_true] at hy1
    obtain ⟨rfl, rfl⟩ := hy1
    constructor
    · have := congrArg (·[0]?) g0
      simpa [List.getElem?_take, List.getElem?_drop] using this
    · have := congrArg (·[0]?) g1
      simpa [List.getElem?_take, List.getElem?_drop] using this
theorem tab_is : (Rows.laid_internal_strconv_uint64pow10 : DataW Unit) = Lib.tabData .u64 Lib.pow10Tab := by kernel_rfl
theorem env_of {W : World} (h : laidMetH Tryz.prog Laid.lst W) : Env W ∧ 8 < W.heap.size := by
  rw [MakeChecks.laidMetH_plain _ _ _ Laid.plain] at h
  have h3 := laidMet.tail (laidMet.tail (laidMet.tail (x := _) (r := _) h))
  have h7 := laidMet.tail (laidMet.tail (laidMet.tail (laidMet.tail (x := _) (r := _) h3)))
  rw [tab_is] at h3
  have ht := Lib.tabIs_of_head (by kernel_rfl : Tryz.prog.globalNamed "internal/strconv.uint64pow10" = some 1) (by kernel_rfl : (Tryz.prog.globals[1]?).map (·.type) = some 93) Tryz.underlying93 Tryz.underlying22 (by kernel_rfl : Tryz.prog.cellsOf 22 = 1) (by kernel_rfl) h3
  obtain ⟨ps, ⟨g, t, cs, fuel, p, q, hg, hty, hvar, hd, _, _⟩, _⟩ := h7
  obtain rfl := Option.some.inj ((by kernel_rfl : Tryz.prog.globalNamed "internal/strconv.pow10Tab" = some 8).symm.trans hg)
  obtain rfl := Option.some.inj ((by kernel_rfl : (Tryz.prog.globals[8]?).map (·.type) = some 187).symm.trans hty)
  obtain ⟨k0, k1⟩ := pow_cells hd
  have j0 := World.var?_cell hg hvar 728
  have j1 := World.var?_cell hg hvar 729
  rw [show cs[728]? = _ from by simpa using k0] at j0
  rw [show cs[729]? = _ from by simpa using k1] at j1
  exact ⟨⟨⟨j0, j1⟩, ht⟩, World.block_lt_of_cell? W _ j0⟩
end Go.Proofs.YtnnoefbmoafbnaaGreatDoor
