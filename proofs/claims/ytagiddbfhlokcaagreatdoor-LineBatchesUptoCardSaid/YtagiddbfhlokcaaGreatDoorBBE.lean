/- Several texts of this proof, laid together. Conditions: as each says. -/
import Derived.Test.YtagiddbfhlokcaaGreatDoorBBD
import Derived.ChangeSame
import Derived.ChangeArms
import Derived.Deep.Strs
import Derived.FnData
import Derived.OpenShut
import Derived.Test.YtagiddbfhlokcaaGreatDoorRows
import Derived.Test.YtagiddbfhlokcaaGreatDoorBAA
import Derived.Test.YtagiddbfhlokcaaGreatDoorBAB
import Derived.WalkKit
import Derived.ProofKit
import Derived.Below
import Derived.WalkLawsBesides
import Derived.WalkSpells
import Derived.BigQuiet
import Derived.Lib.Hide
import Derived.Deep.AppendLies
import Derived.Lib.SmallJoins
import Derived.Deep.RegionHeld
import Derived.OwnWalk
import Derived.Lib.Bytes
/- The tables of strconv out of the row's condition: cells. No condition. -/
namespace Go.Proofs.YtagiddbfhlokcaaGreatDoor
open Go.RowKit Go.WideShapes Go.ChangeShapes Go.Deep
set_option maxRecDepth 100000
theorem slice_cells {W : World} {t e : TypeId} {c fuel : Nat} {cs : List Value} {xs : List (DataW Unit)} {p : List MemPlace} (ht : Tryz.prog.underlying t = some (.slice e)) (hc : Tryz.prog.cellsOf e = c) (hc0 : 0 < c) (hx : xs ≠ [])
    (h : DataW.trod (fun _ => ()) Tryz.prog W 0 (fun _ => true) false fuel t cs = some (.slice xs [], p)) :
    ∃ (B o n : Nat), cs = [.slice (some ⟨B, o, none⟩) xs.length xs.length] ∧ ∀ i (hi : i < xs.length), ∃ cs' p', (List.range c).mapM (fun j => W.cell? ⟨B, o + i * c + j, none⟩) = some cs' ∧ DataW.trod (fun _ => ()) Tryz.prog W 0 (fun _ => true) false n e cs' = some (xs[i], p') := by
  rcases DataW.trod_slice ht h with ⟨_, hh⟩ | ⟨a, len, cap, elems, rest, n, _, rfl, hh, _, hle, _, hel, hf, hsp, _⟩
  · cases hh
  · simp only [Prod.mk.injEq, DataW.slice.injEq] at hh
    obtain ⟨⟨h1, h2⟩, _⟩ := hh
    have hr : rest = [] := by
      cases rest with
      | nil => rfl
      | cons a b => cases h2
    have hrl := (hsp rfl).1
    rw [hr] at hrl
    have hcap : cap = len := by simp at hrl; omega
    have hlen : xs.length = len := by rw [h1, List.length_map]; exact hel
    have key : ∀ i (hi : i < xs.length), ∃ cs' p', (List.range c).mapM (fun j => W.cell? ((a.add (i * c)).add j)) = some cs' ∧ DataW.trod (fun _ => ()) Tryz.prog W 0 (fun _ => true) false n e cs' = some (xs[i], p') := by
      intro i hi
      have h3 := hf i (by omega)
      rw [hc] at h3
      have hel2 : elems[i]? = some (elems[i]'(by omega)) := List.getElem?_eq_getElem (by omega)
      rw [hel2, Option.bind_eq_some_iff] at h3
      obtain ⟨cs', h4, h5⟩ := h3
      unfold World.cells? at h4
      rw [if_pos (Nat.zero_le _)] at h4
      refine ⟨cs', (elems[i]'(by omega)).2, h4, ?_⟩
      rw [h5]
      congr 1
      have : xs[i] = (elems[i]'(by omega)).1 := by simp [h1]
      rw [this]
    have hsp2 : a.spot = none := by
      obtain ⟨cs', p', h4, _⟩ := key 0 (List.length_pos_iff.2 hx)
      have h6 : ∃ v, W.cell? ((a.add (0 * c)).add 0) = some v := by
        obtain ⟨c', rfl⟩ : ∃ c', c = c' + 1 := ⟨c - 1, by omega⟩
        rw [List.range_succ_eq_map] at h4
        simp only [List.mapM_cons, Option.bind_eq_bind, Option.bind_eq_some_iff] at h4
        obtain ⟨v, hv, _⟩ := h4
        exact ⟨v, hv⟩
      obtain ⟨v, hv⟩ := h6
      rw [Nat.zero_mul] at hv
      exact World.cell?_spot (by simpa [Addr.add] using hv)
    obtain ⟨B, o, sp⟩ := a
    simp only at hsp2
    subst hsp2
    refine ⟨B, o, n, by rw [hlen, hcap], fun i hi => ?_⟩
    obtain ⟨cs', p', h4, h5⟩ := key i hi
    refine ⟨cs', p', ?_, h5⟩
    rw [← h4]
    congr 1
    funext j
    rw [Addr.add_lit, Addr.add_lit]
theorem trod_float {W : World} {t : TypeId} {k : FloatKind} {fuel : Nat} {cs : List Value} {x : DataW Unit × List MemPlace} (ht : Tryz.prog.underlying t = some (.float k)) (h : DataW.trod (fun _ => ()) Tryz.prog W 0 (fun _ => true) false fuel t cs = some x) : ∃ b, cs = [.float k b] ∧ x.1 = .lit (.float k b) := by
  cases fuel with
  | zero => simp [DataW.trod] at h
  | succ n =>
    unfold DataW.trod at h
    rw [ht] at h
    split at h <;> simp_all
    obtain ⟨_, rfl⟩ := h
    rfl
theorem one_of {W : World} {B o : Nat} {cs : List Value} {v : Value} (h : (List.range 1).mapM (fun j => W.cell? ⟨B, o + j, none⟩) = some cs) (hv : cs = [v]) : W.cell? ⟨B, o, none⟩ = some v := by
  subst hv
  simp [List.range_succ_eq_map] at h
  cases hh : W.cell? ⟨B, o, none⟩ with
  | none => rw [hh] at h; cases h
  | some u => rw [hh] at h; simpa using h
theorem two_of {W : World} {B o : Nat} {cs : List Value} {u v : Value} (h : (List.range 2).mapM (fun j => W.cell? ⟨B, o + j, none⟩) = some cs) (hv : cs = [u, v]) : W.cell? ⟨B, o, none⟩ = some u ∧ W.cell? ⟨B, o + 1, none⟩ = some v := by
  subst hv
  simp [List.range_succ_eq_map] at h
  cases hh : W.cell? ⟨B, o, none⟩ with
  | none => rw [hh] at h; cases h
  | some a =>
    cases h2 : W.cell? ⟨B, o + 1, none⟩ with
    | none => rw [hh, h2] at h; cases h
    | some b => rw [hh, h2] at h; simpa using h
/-- Whole numbers in a slice. -/
theorem ints_of {W : World} {t : TypeId} {fuel : Nat} {cs : List Value} {zs : List Int} {p : List MemPlace} (ht : Tryz.prog.underlying t = some (.slice 3)) (hx : zs ≠ [])
    (h : DataW.trod (fun _ => ()) Tryz.prog W 0 (fun _ => true) false fuel t cs = some (.slice (zs.map fun z => .lit (.int .i64 z)) [], p)) :
    ∃ (B o : Nat), cs = [.slice (some ⟨B, o, none⟩) zs.length zs.length] ∧ ∀ i (hi : i < zs.length), W.cell? ⟨B, o + i, none⟩ = some (.int .i64 zs[i]) := by
  obtain ⟨B, o, n, hcs, hf⟩ := slice_cells ht (by kernel_rfl : Tryz.prog.cellsOf 3 = 1) (by omega) (by simpa using hx) h
  refine ⟨B, o, by rw [hcs, List.length_map], fun i hi => ?_⟩
  obtain ⟨cs', p', h1, h2⟩ := hf i (by rw [List.length_map]; exact hi)
  obtain ⟨m, h3, h4, _⟩ := DataW.trod_int Tryz.underlying3 h2
  rw [Nat.mul_one] at h1
  have h5 := one_of h1 h3
  simp at h4
  rw [h5, h4.1]
/-- Floats in a slice. -/
theorem floats_of {W : World} {t : TypeId} {fuel : Nat} {cs : List Value} {zs : List Nat} {p : List MemPlace} (ht : Tryz.prog.underlying t = some (.slice 99)) (hx : zs ≠ [])
    (h : DataW.trod (fun _ => ()) Tryz.prog W 0 (fun _ => true) false fuel t cs = some (.slice (zs.map fun z => .lit (.float .f64 z)) [], p)) :
    ∃ (B o : Nat), cs = [.slice (some ⟨B, o, none⟩) zs.length zs.length] ∧ ∀ i (hi : i < zs.length), W.cell? ⟨B, o + i, none⟩ = some (.float .f64 zs[i]) := by
  obtain ⟨B, o, n, hcs, hf⟩ := slice_cells ht (by kernel_rfl : Tryz.prog.cellsOf 99 = 1) (by omega) (by simpa using hx) h
  refine ⟨B, o, by rw [hcs, List.length_map], fun i hi => ?_⟩
  obtain ⟨cs', p', h1, h2⟩ := hf i (by rw [List.length_map]; exact hi)
  obtain ⟨m, h3, h4⟩ := trod_float Tryz.underlying99 h2
  rw [Nat.mul_one] at h1
  have h5 := one_of h1 h3
  simp at h4
  rw [h5, h4]
/-- Pairs of a number and a text, in a slice. -/
theorem cheats_of {W : World} {fuel : Nat} {cs : List Value} {zs : List (Nat × List UInt8)} {p : List MemPlace} (hx : zs ≠ [])
    (h : DataW.trod (fun _ => ()) Tryz.prog W 0 (fun _ => true) false fuel 343 cs = some (.slice (zs.map fun x => .agg [.lit (.int .i64 x.1), .lit (.string x.2)]) [], p)) :
    ∃ (B o : Nat), cs = [.slice (some ⟨B, o, none⟩) zs.length zs.length] ∧ ∀ i (hi : i < zs.length), W.cell? ⟨B, o + i * 2, none⟩ = some (.int .i64 zs[i].1) ∧ W.cell? ⟨B, o + i * 2 + 1, none⟩ = some (.string ⟨zs[i].2.toArray⟩) := by
  obtain ⟨B, o, n, hcs, hf⟩ := slice_cells Tryz.underlying343 (by kernel_rfl : Tryz.prog.cellsOf 342 = 2) (by omega) (by simpa using hx) h
  refine ⟨B, o, by rw [hcs, List.length_map], fun i hi => ?_⟩
  obtain ⟨cs', p', h1, h2⟩ := hf i (by rw [List.length_map]; exact hi)
  obtain ⟨y0, y1, k, h3, hl, e0, e1⟩ := trod_struct2 Tryz.underlying342 h2
  have c3 : Tryz.prog.cellsOf 3 = 1 := by kernel_rfl
  have c9 : Tryz.prog.cellsOf 9 = 1 := by kernel_rfl
  simp only [c3, c9] at e0 e1
  obtain ⟨a, g0, rfl, _⟩ := DataW.trod_int Tryz.underlying3 e0
  obtain ⟨s, g1, rfl, _⟩ := DataW.trod_string Tryz.underlying9 e1
  simp at h3
  obtain ⟨⟨h4, h5⟩, _⟩ := h3
  have hcs2 : cs' = [.int .i64 a, .string s] := by
    rw [show Tryz.prog.cellsOf 342 = 2 by kernel_rfl] at hl
    match cs', hl with
    | [u, v], _ => simp at g0 g1; rw [g0, g1]
  obtain ⟨h6, h7⟩ := two_of h1 hcs2
  refine ⟨by rw [h6, h4], ?_⟩
  rw [h7]
  congr 2
  rw [h5]
  
theorem laid_head {n : String} {d : DataW Unit} {r : List (String × DataW Unit)} {W : World} {g : Nat} {t : TypeId} (h : laidMet Tryz.prog ((n, d) :: r) W) (hg : Tryz.prog.globalNamed n = some g) (ht : (Tryz.prog.globals[g]?).map (·.type) = some t) :
    ∃ (cs : List Value) (fuel : Nat) (p : List MemPlace), DataW.trod (fun _ => ()) Tryz.prog W 0 (fun _ => true) false fuel t cs = some (d, p) ∧ ∀ i, W.cell? ⟨g, i, none⟩ = cs[i]? := by
  obtain ⟨ps, ⟨g', t', cs, fuel, p, q, hg', ht', hvar, hd, _, _⟩, _⟩ := h
  obtain rfl := Option.some.inj (hg.symm.trans hg')
  obtain rfl := Option.some.inj (ht.symm.trans ht')
  refine ⟨cs.toList, fuel, p, hd, fun i => ?_⟩
  rw [World.var?_cell hg hvar i]
  simp
theorem lst_met {W : World} (h : laidMetH Tryz.prog Laid.lst W) : laidMet Tryz.prog Laid.lst W := by
  rw [MakeChecks.laidMetH_plain _ _ _ Laid.plain] at h
  exact h
theorem drop_met {W : World} (k : Nat) (hk : k ≤ 14) (h : laidMet Tryz.prog Laid.lst W) : laidMet Tryz.prog (Laid.lst.drop k) W := by
  match k, hk with
  | 0, _ => exact h
  | 1, _ => exact h.tail
  | 2, _ => exact h.tail.tail
  | 3, _ => exact h.tail.tail.tail
  | 4, _ => exact h.tail.tail.tail.tail
  | 5, _ => exact h.tail.tail.tail.tail.tail
  | 6, _ => exact h.tail.tail.tail.tail.tail.tail
  | 7, _ => exact h.tail.tail.tail.tail.tail.tail.tail
  | 8, _ => exact h.tail.tail.tail.tail.tail.tail.tail.tail
  | 9, _ => exact h.tail.tail.tail.tail.tail.tail.tail.tail.tail
  | 10, _ => exact h.tail.tail.tail.tail.tail.tail.tail.tail.tail.tail
  | 11, _ => exact h.tail.tail.tail.tail.tail.tail.tail.tail.tail.tail.tail
  | 12, _ => exact h.tail.tail.tail.tail.tail.tail.tail.tail.tail.tail.tail.tail
  | 13, _ => exact h.tail.tail.tail.tail.tail.tail.tail.tail.tail.tail.tail.tail.tail
  | 14, _ => exact h.tail.tail.tail.tail.tail.tail.tail.tail.tail.tail.tail.tail.tail.tail
theorem info_of {W : World} (h : laidMet Tryz.prog Laid.lst W) : W.cell? ⟨7, 0, none⟩ = some (.int .u64 52) ∧ W.cell? ⟨7, 1, none⟩ = some (.int .u64 11) ∧ W.cell? ⟨7, 2, none⟩ = some (.int .i64 (-1023)) := by
  have h3 := drop_met 3 (by omega) h
  obtain ⟨cs, fuel, p, hd, hc⟩ := laid_head (n := "internal/strconv.float64info") (d := Rows.laid_internal_strconv_float64info) (r := Laid.lst.drop 4) (g := 7) (t := 258) h3 (by kernel_rfl) (by kernel_rfl)
  obtain ⟨y0, y1, y2, k, hx, hl, e0, e1, e2⟩ := trod_struct3 Tryz.underlying258 hd
  rw [show Tryz.prog.cellsOf 258 = 3 by kernel_rfl] at hl
  obtain ⟨a, b, c, rfl⟩ : ∃ a b c, cs = [a, b, c] := by
    match cs, hl with
    | [a, b, c], _ => exact ⟨a, b, c, rfl⟩
  have c60 : Tryz.prog.cellsOf 60 = 1 := by kernel_rfl
  have c3 : Tryz.prog.cellsOf 3 = 1 := by kernel_rfl
  simp only [c60, c3] at e0 e1 e2
  obtain ⟨n0, g0, rfl, _⟩ := DataW.trod_int Tryz.underlying60 e0
  obtain ⟨n1, g1, rfl, _⟩ := DataW.trod_int Tryz.underlying60 e1
  obtain ⟨n2, g2, rfl, _⟩ := DataW.trod_int Tryz.underlying3 e2
  simp [Rows.laid_internal_strconv_float64info] at hx
  simp at g0 g1 g2
  obtain ⟨⟨rfl, rfl, rfl⟩, _⟩ := hx
  refine ⟨by rw [hc 0]; simp [g0], by rw [hc 1]; simp [g1], by rw [hc 2]; simp [g2]⟩
theorem op_of {W : World} (h : laidMet Tryz.prog Laid.lst W) : W.cell? ⟨6, 0, none⟩ = some (.bool true) := by
  have h3 := drop_met 4 (by omega) h
  obtain ⟨cs, fuel, p, hd, hc⟩ := laid_head (n := "internal/strconv.optimize") (d := Rows.laid_internal_strconv_optimize) (r := Laid.lst.drop 5) (g := 6) (t := 4) h3 (by kernel_rfl) (by kernel_rfl)
  obtain ⟨b, rfl, hx⟩ := DataW.trod_bool Tryz.underlying4 hd
  simp [Rows.laid_internal_strconv_optimize] at hx
  rw [hc 0, ← hx.1]
  rfl
def ptL : List Int := [1, 3, 6, 9, 13, 16, 19, 23, 26]
theorem pt_of {W : World} (h : laidMet Tryz.prog Laid.lst W) : ∃ B o, W.cell? ⟨11, 0, none⟩ = some (.slice (some ⟨B, o, none⟩) 9 9) ∧ ∀ i (hi : i < 9), W.cell? ⟨B, o + i, none⟩ = some (.int .i64 (ptL[i]'hi)) := by
  have h3 := drop_met 5 (by omega) h
  obtain ⟨cs, fuel, p, hd, hc⟩ := laid_head (n := "internal/strconv.powtab") (d := Rows.laid_internal_strconv_powtab) (r := Laid.lst.drop 6) (g := 11) (t := 45) h3 (by kernel_rfl) (by kernel_rfl)
  have e : (Rows.laid_internal_strconv_powtab : DataW Unit) = .slice (ptL.map fun z => .lit (.int .i64 z)) [] := by kernel_rfl
  rw [e] at hd
  obtain ⟨B, o, rfl, hf⟩ := ints_of Tryz.underlying45 (by decide) hd
  exact ⟨B, o, by rw [hc 0]; rfl, fun i hi => hf i hi⟩
def flL : List Nat := [4607182418800017408, 4621819117588971520, 4636737291354636288, 4652007308841189376, 4666723172467343360, 4681608360884174848, 4696837146684686336, 4711630319722168320, 4726483295884279808, 4741671816366391296, 4756540486875873280, 4771362005757984768, 4786511204640096256, 4801453603149578240, 4816244402031689728, 4831355200913801216, 4846369599423283200, 4861130398305394688, 4876203697187506176, 4891288408196988160, 4906019910204099648, 4921056587992461136, 4936209963552724370]
theorem fl_of {W : World} (h : laidMet Tryz.prog Laid.lst W) : ∃ B o, W.cell? ⟨12, 0, none⟩ = some (.slice (some ⟨B, o, none⟩) 23 23) ∧ ∀ i (hi : i < 23), W.cell? ⟨B, o + i, none⟩ = some (.float .f64 (flL[i]'hi)) := by
  have h3 := drop_met 6 (by omega) h
  obtain ⟨cs, fuel, p, hd, hc⟩ := laid_head (n := "internal/strconv.float64pow10") (d := Rows.laid_internal_strconv_float64pow10) (r := Laid.lst.drop 7) (g := 12) (t := 313) h3 (by kernel_rfl) (by kernel_rfl)
  have e : (Rows.laid_internal_strconv_float64pow10 : DataW Unit) = .slice (flL.map fun z => .lit (.float .f64 z)) [] := by kernel_rfl
  rw [e] at hd
  obtain ⟨B, o, rfl, hf⟩ := floats_of Tryz.underlying313 (by decide) hd
  exact ⟨B, o, by rw [hc 0]; rfl, fun i hi => hf i hi⟩
theorem ch_of {W : World} (h : laidMet Tryz.prog Laid.lst W) : ∃ B o, W.cell? ⟨16, 0, none⟩ = some (.slice (some ⟨B, o, none⟩) 61 61) ∧ ∀ i (hi : i < Pinned.cheatRows.length), W.cell? ⟨B, o + i * 2, none⟩ = some (.int .i64 (Pinned.cheatRows[i]'hi).1) ∧ W.cell? ⟨B, o + i * 2 + 1, none⟩ = some (.string ⟨(Pinned.cheatRows[i]'hi).2.toArray⟩) := by
  have h3 := drop_met 12 (by omega) h
  obtain ⟨cs, fuel, p, hd, hc⟩ := laid_head (n := "internal/strconv.leftcheats") (d := Rows.laid_internal_strconv_leftcheats) (r := Laid.lst.drop 13) (g := 16) (t := 343) h3 (by kernel_rfl) (by kernel_rfl)
  have hd2 : DataW.trod (fun _ => ()) Tryz.prog W 0 (fun _ => true) false fuel 343 cs = some (.slice (Pinned.cheatRows.map fun x => .agg [.lit (.int .i64 x.1), .lit (.string x.2)]) [], p) := hd
  obtain ⟨B, o, rfl, hf⟩ := cheats_of (by decide) hd2
  exact ⟨B, o, by rw [hc 0]; rfl, hf⟩
theorem er_of {W : World} (h : laidMet Tryz.prog Laid.lst W) : ∃ tp p, W.cell? ⟨3, 0, none⟩ = some (.iface tp p) := by
  have h3 := drop_met 10 (by omega) h
  obtain ⟨cs, fuel, p, hd, hc⟩ := laid_head (n := "strconv.ErrRange") (d := Rows.laid_strconv_ErrRange) (r := Laid.lst.drop 11) (g := 3) (t := 104) h3 (by kernel_rfl) (by kernel_rfl)
  cases fuel with
  | zero => simp [DataW.trod] at hd
  | succ n =>
    unfold DataW.trod at hd
    rw [Tryz.underlying104] at hd
    split at hd
    all_goals first
      | (cases hd; done)
      | skip
    all_goals simp_all
    all_goals done
theorem pow_of {W : World} (h : laidMet Tryz.prog Laid.lst W) : ∀ k (hk : k < Pinned.pow10Rows.length), W.cell? ⟨15, k * 2, none⟩ = some (.int .u64 (Pinned.pow10Rows[k]'hk).1) ∧ W.cell? ⟨15, k * 2 + 1, none⟩ = some (.int .u64 (Pinned.pow10Rows[k]'hk).2) := by
  have h3 := drop_met 13 (by omega) h
  obtain ⟨cs, fuel, p, hd, hc⟩ := laid_head (n := "internal/strconv.pow10Tab") (d := Rows.laid_internal_strconv_pow10Tab) (r := Laid.lst.drop 14) (g := 15) (t := 337) h3 (by kernel_rfl) (by kernel_rfl)
  obtain ⟨xs, m, _, hx, hl, hn, hf⟩ := DataW.trod_array Tryz.underlying337 hd
  have c336 : Tryz.prog.cellsOf 336 = 2 := by kernel_rfl
  have c51 : Tryz.prog.cellsOf 51 = 1 := by kernel_rfl
  have h1 : (Pinned.pow10Rows.map fun x => (DataW.agg [.lit (.int .u64 x.1), .lit (.int .u64 x.2)] : DataW Unit)) = xs.map (·.1) := by
    have := congrArg Prod.fst hx
    unfold Rows.laid_internal_strconv_pow10Tab at this
    simp only [Pinned.pow10Tab, DataW.agg.injEq] at this
    exact this
  have hlen : Pinned.pow10Rows.length = xs.length := by have := congrArg List.length h1; simpa using this
  intro k hk
  have h2 : xs[k]? = some (xs[k]'(by omega)) := List.getElem?_eq_getElem (by omega)
  have h4 : (xs[k]'(by omega)).1 = .agg [.lit (.int .u64 (Pinned.pow10Rows[k]'hk).1), .lit (.int .u64 (Pinned.pow10Rows[k]'hk).2)] := by
    have := congrArg (·[k]?) h1
    simp only [List.getElem?_map, List.getElem?_eq_getElem hk, h2, Option.map_some] at this
    exact (Option.some.inj this).symm
  have h5 := hf k (by omega)
  rw [h2, c336] at h5
  cases m with
  | zero => simp [DataW.trod] at h5
  | succ m =>
    obtain ⟨y0, y1, q, h6, _, e0, e1⟩ := trod_struct2 Tryz.underlying336 h5
    simp only [c51] at e0 e1
    obtain ⟨a, g0, rfl, _⟩ := DataW.trod_int Tryz.underlying51 e0
    obtain ⟨b, g1, rfl, _⟩ := DataW.trod_int Tryz.underlying51 e1
    rw [h6] at h4
    simp only [DataW.agg.injEq, List.cons.injEq, DataW.lit.injEq, Lit.int.injEq, true_and, and_true] at h4
    obtain ⟨rfl, rfl⟩ := h4
    constructor
    · have := congrArg (·[0]?) g0
      rw [hc (k * 2)]
      simpa [List.getElem?_take, List.getElem?_drop] using this
    · have := congrArg (·[0]?) g1
      rw [hc (k * 2 + 1)]
      simpa [List.getElem?_take, List.getElem?_drop] using this
end Go.Proofs.YtagiddbfhlokcaaGreatDoor
/- FormatFloat's arithmetic at 1.5: the scaling. Conditions: two cells of the table of powers. -/
namespace Go.Proofs.YtagiddbfhlokcaaGreatDoor.One
open Go.RowKit
set_option maxRecDepth 100000
theorem log2 (w : World) : Calls Tryz.prog 240 #[.int .i64 16] w fun e w' => e = .returned (.int .i64 53) ∧ w' = w := by
  go_enter Tryz.func240, Tryz.ntmps240
  go_wp2
  go_ret
  exact ⟨rfl, rfl⟩
theorem log10 (w : World) : Calls Tryz.prog 159 #[.int .i64 (-52)] w fun e w' => e = .returned (.int .i64 (-16)) ∧ w' = w := by
  go_enter Tryz.func159, Tryz.ntmps159
  go_wp2
  go_ret
  exact ⟨rfl, rfl⟩
def Pow (w : World) : Prop := w.cell? ⟨15, 728, none⟩ = some (.int .u64 10240000000000000000) ∧ w.cell? ⟨15, 729, none⟩ = some (.int .u64 0)
def Pre (w : World) (b : Nat) (x y z : Value) : Prop := w.heap[b]? = some (.cells #[x, y, z] 306 (0, 0))
theorem Pre.c0 {w : World} {b : Nat} {x y z : Value} (h : Pre w b x y z) : w.cell? ⟨b, 0, none⟩ = some x := by rw [Lib.cell_of_heap h]; rfl
theorem Pre.c1 {w : World} {b : Nat} {x y z : Value} (h : Pre w b x y z) : w.cell? ⟨b, 1, none⟩ = some y := by rw [Lib.cell_of_heap h]; rfl
theorem Pre.c2 {w : World} {b : Nat} {x y z : Value} (h : Pre w b x y z) : w.cell? ⟨b, 2, none⟩ = some z := by rw [Lib.cell_of_heap h]; rfl
theorem nudge0 (u : Nat) (w : World) (h : u = 59999999999999995 ∨ u = 60000000000000005) : Calls Tryz.prog 252 #[.int .u64 u, .int .i64 0] w fun e w' => e = .returned (.int .u64 u) ∧ w' = w := by
  rcases h with rfl | rfl <;>
  · go_enter Tryz.func252, Tryz.ntmps252
    go_wp2
    go_ret
    exact ⟨rfl, rfl⟩
theorem ceil15 (w : World) : Calls Tryz.prog 253 #[.int .u64 59999999999999995] w fun e w' => e = .returned (.int .u64 14999999999999999) ∧ w' = w := by
  go_enter Tryz.func253, Tryz.ntmps253
  go_wp2
  go_ret
  exact ⟨rfl, rfl⟩
theorem floor15 (w : World) : Calls Tryz.prog 254 #[.int .u64 60000000000000005] w fun e w' => e = .returned (.int .u64 15000000000000001) ∧ w' = w := by
  go_enter Tryz.func254, Tryz.ntmps254
  go_wp2
  go_ret
  exact ⟨rfl, rfl⟩
theorem mulLo (w : World) : Calls Tryz.prog 271 #[.int .u64 13835058055282162688, .int .u64 10240000000000000000] w fun e w' => e = .returned (.tuple #[.int .u64 7679999999999999431, .int .u64 10437377940734869504]) ∧ w' = w := by
  have h := Tryz.bits_Mul64 13835058055282162688 10240000000000000000 (by omega) (by omega) w
  have e1 : 13835058055282162688 * 10240000000000000000 / 18446744073709551616 = 7679999999999999431 := by rfl
  have e2 : 13835058055282162688 * 10240000000000000000 % 18446744073709551616 = 10437377940734869504 := by rfl
  rw [e1, e2] at h
  exact h
theorem mulHi (w : World) : Calls Tryz.prog 271 #[.int .u64 13835058055282164736, .int .u64 10240000000000000000] w fun e w' => e = .returned (.tuple #[.int .u64 7680000000000000568, .int .u64 8009366132974682112]) ∧ w' = w := by
  have h := Tryz.bits_Mul64 13835058055282164736 10240000000000000000 (by omega) (by omega) w
  have e1 : 13835058055282164736 * 10240000000000000000 / 18446744073709551616 = 7680000000000000568 := by rfl
  have e2 : 13835058055282164736 * 10240000000000000000 % 18446744073709551616 = 8009366132974682112 := by rfl
  rw [e1, e2] at h
  exact h
theorem uscaleLo (w : World) (b : Nat) (y : Value) (h : Pre w b (.int .u64 10240000000000000000) y (.int .i64 7)) : Calls Tryz.prog 242 #[.int .u64 13835058055282162688, .pointer (some ⟨b, 0, none⟩)] w fun e w' => e = .returned (.int .u64 59999999999999995) ∧ w' = w := by
  have c0 := h.c0
  have c2 := h.c2
  have b7 : bits BinOp.and IntKind.i64 7 63 = 7 := by kernel_rfl
  have b8 : bits BinOp.or IntKind.u64 59999999999999995 1 = 59999999999999995 := by kernel_rfl
  have b9 : bits BinOp.or IntKind.u64 60000000000000004 1 = 60000000000000005 := by kernel_rfl
  go_enter Tryz.func242, Tryz.ntmps242
  go_wp2_with fail
  refine (mulLo _).mono ?_
  rintro e w' ⟨rfl, rfl⟩
  go_wp2_with fail
  go_ret
  exact ⟨rfl, rfl⟩
theorem uscaleHi (w : World) (b : Nat) (y : Value) (h : Pre w b (.int .u64 10240000000000000000) y (.int .i64 7)) : Calls Tryz.prog 242 #[.int .u64 13835058055282164736, .pointer (some ⟨b, 0, none⟩)] w fun e w' => e = .returned (.int .u64 60000000000000005) ∧ w' = w := by
  have c0 := h.c0
  have c2 := h.c2
  have b7 : bits BinOp.and IntKind.i64 7 63 = 7 := by kernel_rfl
  have b8 : bits BinOp.or IntKind.u64 59999999999999995 1 = 59999999999999995 := by kernel_rfl
  have b9 : bits BinOp.or IntKind.u64 60000000000000004 1 = 60000000000000005 := by kernel_rfl
  go_enter Tryz.func242, Tryz.ntmps242
  go_wp2_with fail
  refine (mulHi _).mono ?_
  rintro e w' ⟨rfl, rfl⟩
  go_wp2_with fail
  go_ret
  exact ⟨rfl, rfl⟩
end Go.Proofs.YtagiddbfhlokcaaGreatDoor.One
/- FormatFloat's shortest digits at 1.5. Conditions: two cells of the table of powers. -/
namespace Go.Proofs.YtagiddbfhlokcaaGreatDoor.One
open Go.RowKit
set_option maxRecDepth 100000
theorem Pre.set0 {w : World} {b : Nat} {x y z : Value} (h : Pre w b x y z) (v : Value) : Pre (w.setCell ⟨b, 0, none⟩ v) b v y z := Joins.block_setCell (i := 0) h v
theorem Pre.set1 {w : World} {b : Nat} {x y z : Value} (h : Pre w b x y z) (v : Value) : Pre (w.setCell ⟨b, 1, none⟩ v) b x v z := Joins.block_setCell (i := 1) h v
theorem Pre.set2 {w : World} {b : Nat} {x y z : Value} (h : Pre w b x y z) (v : Value) : Pre (w.setCell ⟨b, 2, none⟩ v) b x y v := Joins.block_setCell (i := 2) h v
theorem Pow.set {w : World} {b i : Nat} (h : Pow w) (hb : 15 < b) (v : Value) : Pow (w.setCell ⟨b, i, none⟩ v) :=
  ⟨by rw [World.cell?_setCell_far _ _ _ _ (by simp; omega)]; exact h.1, by rw [World.cell?_setCell_far _ _ _ _ (by simp; omega)]; exact h.2⟩
theorem prescale15 (w : World) (b : Nat) (x y z : Value) (h : Pre w b x y z) (hp : Pow w) (hb : 15 < b) :
    Calls Tryz.prog 241 #[.pointer (some ⟨b, 0, none⟩), .int .i64 (-63), .int .i64 16, .int .i64 53] w fun e w' => e = .returned (.tuple #[]) ∧ Pre w' b (.int .u64 10240000000000000000) (.int .u64 0) (.int .i64 7) ∧ Below b w w' := by
  have p0 := hp.1
  have c0 := h.c0
  have h1 := h.set0 (.int .u64 10240000000000000000)
  have p1 := (hp.set (i := 0) hb (.int .u64 10240000000000000000)).2
  have c1 := h1.c1
  have h2 := h1.set1 (.int .u64 0)
  have c2 := h2.c2
  have f0 := Lib.frozen_of_heap h 0
  have f1 := Lib.frozen_of_heap h1 1
  have f2 := Lib.frozen_of_heap h2 2
  have H3 := Lib.hid (h2.set2 (.int .i64 7))
  clear h h1 h2 hp
  go_enter Tryz.func241, Tryz.ntmps241
  go_wp2
  go_end0
  exact ⟨rfl, H3.out, (((Below.refl b w).setCell (p := ⟨b, 0, none⟩) (Nat.le_refl _) _).setCell (p := ⟨b, 1, none⟩) (Nat.le_refl _) _).setCell (p := ⟨b, 2, none⟩) (Nat.le_refl _) _⟩
theorem short15 (w : World) (hp : Pow w) (h8 : 15 < w.heap.size) :
    Calls Tryz.prog 229 #[.int .u64 13835058055282163712, .int .i64 (-63)] w fun e w' => e = .returned (.tuple #[.int .u64 1500000000000000, .int .i64 (-15)]) ∧ Below w.heap.size w w' := by
  have hpre : Pre (w.alloc (.cells #[.int .u64 0, .int .u64 0, .int .i64 0] 306)) w.heap.size (.int .u64 0) (.int .u64 0) (.int .i64 0) := heap_alloc_new w _
  have hpow : Pow (w.alloc (.cells #[.int .u64 0, .int .u64 0, .int .i64 0] 306)) := ⟨((Below.refl _ _).alloc (Nat.le_refl _) _).cell (p := ⟨15, 728, none⟩) h8 |>.trans hp.1, ((Below.refl _ _).alloc (Nat.le_refl _) _).cell (p := ⟨15, 729, none⟩) h8 |>.trans hp.2⟩
  have HPRE := Lib.hid hpre
  have HPOW := Lib.hid hpow
  have H8 := Lib.hid h8
  clear hpre hpow hp h8
  have a1 : bits BinOp.and IntKind.i64 6755399441055744 1 = 0 := by kernel_rfl
  go_enter Tryz.func229, Tryz.ntmps229
  go_wp2_with fail
  refine (log10 _).mono ?_
  rintro e w' ⟨rfl, hw⟩
  obtain rfl := hw.symm
  clear hw
  go_wp2_with fail
  refine (log2 _).mono ?_
  rintro e w' ⟨rfl, hw⟩
  obtain rfl := hw.symm
  clear hw
  go_wp2_with fail
  refine (prescale15 _ _ _ _ _ HPRE.out HPOW.out H8.out).mono ?_
  rintro e w1 ⟨rfl, h1, hb1⟩
  have H1 := Lib.hid h1
  have HB := Lib.hid (((Below.refl w.heap.size w).alloc (Nat.le_refl _) _).trans hb1)
  clear h1 hb1
  go_wp2_with fail
  refine (uscaleLo _ _ _ H1.out).mono ?_
  rintro e w' ⟨rfl, hw⟩
  obtain rfl := hw.symm
  clear hw
  go_wp2_with fail
  refine (nudge0 59999999999999995 _ (.inl rfl)).mono ?_
  rintro e w' ⟨rfl, hw⟩
  obtain rfl := hw.symm
  clear hw
  go_wp2_with fail
  refine (ceil15 _).mono ?_
  rintro e w' ⟨rfl, hw⟩
  obtain rfl := hw.symm
  clear hw
  go_wp2_with fail
  refine (uscaleHi _ _ _ H1.out).mono ?_
  rintro e w' ⟨rfl, hw⟩
  obtain rfl := hw.symm
  clear hw
  go_wp2_with fail
  refine (nudge0 60000000000000005 _ (.inr rfl)).mono ?_
  rintro e w' ⟨rfl, hw⟩
  obtain rfl := hw.symm
  clear hw
  go_wp2_with fail
  refine (floor15 _).mono ?_
  rintro e w' ⟨rfl, hw⟩
  obtain rfl := hw.symm
  clear hw
  go_wp2_with fail
  go_ret2
  exact ⟨rfl, HB.out⟩
end Go.Proofs.YtagiddbfhlokcaaGreatDoor.One
/- setDigits at 1.5's digits. No condition but the row of 32 noughts. -/
namespace Go.Proofs.YtagiddbfhlokcaaGreatDoor.One
open Go.RowKit Go.Sort
set_option maxRecDepth 100000
def encB (b : UInt8) : Value := Value.int .u8 (b.toNat : Int)
theorem dgs : ∀ t : Fin 16, Lib.dg 1500000000000000 (15 - t.val) = (if t.val = 0 then 49 else if t.val = 1 then 53 else 48) := by decide +kernel
theorem fmt15 (w : World) (b : Nat) (hH : Holds encB w b 0 (Array.replicate 16 0)) :
    Calls Tryz.prog 112 #[.slice (some ⟨b, 0, none⟩) 16 32, .int .u64 1500000000000000] w fun e w' => e = .returned (.tuple #[]) ∧ (∀ t, t < 16 → w'.cell? ⟨b, t, none⟩ = some (.int .u8 (if t = 0 then 49 else if t = 1 then 53 else 48))) ∧ Below b w w' := by
  have h := Tryz.internal_strconv_formatBase10 b 0 32 1500000000000000 (Array.replicate 16 0) w hH (by rw [Array.size_replicate]; decide) (by omega) (by rw [Array.size_replicate]; omega)
  rw [Array.size_replicate] at h
  refine h.mono ?_
  rintro e w' ⟨rfl, n, v', dk, rfl, hf⟩
  refine ⟨rfl, fun t ht => ?_, ?_⟩
  · have h1 := cell?_putRow encB w b 0 _ dk hH (by rw [hf.size, Array.size_replicate]) t (by rw [hf.size]; exact ht)
    have h2 := hf.done t (by omega) ht
    have h3 := dgs ⟨t, ht⟩
    rw [show 16 - 1 - t = 15 - t by omega] at h2
    simp only at h3
    rw [h2, h3, Nat.zero_add] at h1
    refine Eq.trans h1 ?_
    unfold encB
    split
    · rfl
    · split <;> rfl
  · exact ⟨rfl, rfl, rfl, by simp [putRow, mapBlock, World.drewN], fun i hi => by simp only [putRow, mapBlock, World.drewN]; rw [Array.getElem?_modify, if_neg (by omega)]⟩
theorem setDigits15 (w : World) (b : Nat) (hH : Holds encB w b 0 (Array.replicate 16 0)) :
    Calls Tryz.prog 224 #[.slice (some ⟨b, 0, none⟩) 32 32, .int .u64 1500000000000000, .int .i64 (-15), .int .i64 16] w fun e w' => e = .returned (.tuple #[.int .i64 1, .int .i64 2]) ∧ (w'.cell? ⟨b, 0, none⟩ = some (.int .u8 49) ∧ w'.cell? ⟨b, 1, none⟩ = some (.int .u8 53)) ∧ Below b w w' := by
  have HH := Lib.hid hH
  clear hH
  go_enter Tryz.func224, Tryz.ntmps224
  go_wp2_with fail
  refine (fmt15 _ _ HH.out).mono ?_
  rintro e w1 ⟨rfl, hc, hb⟩
  have HC := Lib.hid hc
  have HB := Lib.hid hb
  clear hc hb
  go_wp2_with fail
  go_loopw [3] (fun i wr => (∃ k : Nat, 2 ≤ k ∧ k ≤ 16 ∧ i = .int .i64 k) ∧ wr = w1) (fun i _ => (intOf i).toNat)
  case atStart => exact ⟨⟨16, by omega, by omega, rfl⟩, rfl⟩
  case round =>
    obtain ⟨⟨k, h2, h16, rfl⟩, hw⟩ := hrel
    obtain rfl := hw.symm
    by_cases hk : k = 2
    · subst hk
      have c1 := HC.out 1 (by omega)
      simp only [if_neg (show ¬(1 : Nat) = 0 by omega), if_pos] at c1
      go_wp2
      go_ret2
      exact ⟨rfl, ⟨HC.out 0 (by omega), HC.out 1 (by omega)⟩, HB.out⟩
    · have c1 := HC.out (k - 1) (by omega)
      rw [if_neg (by omega), if_neg (by omega)] at c1
      have e1 : ((k : Int) - 1).toNat = k - 1 := by omega
      go_wp2
      go_roundw
      case rel => exact ⟨⟨k - 1, by omega, by omega, by go_num⟩, trivial⟩
      case measure => simp [intOf]; omega
end Go.Proofs.YtagiddbfhlokcaaGreatDoor.One
/- fmtEFG at 1.5's digits. No condition. -/
namespace Go.Proofs.YtagiddbfhlokcaaGreatDoor.One
open Go.RowKit
set_option maxRecDepth 100000
theorem info5 : (Tryz.prog.info? 5).map (fun i => (i.zero, i.size, i.bytes)) = some (some (.int .u8 0), 1, 1) := by kernel_rfl
structure St (w0 : World) (g b : Nat) (l : List UInt8) (w : World) : Prop where
  own : w.ownsRow g 5 1 (.slice (some ⟨g, 0, none⟩) l.length 24) l.length (Lib.byteCells l)
  c0 : w.cell? ⟨b, 0, none⟩ = some (.int .u8 49)
  c1 : w.cell? ⟨b, 1, none⟩ = some (.int .u8 53)
  bel : Below g w0 w
  gb : g < b
  bw : b < w.heap.size
theorem byteCells_app (l m : List UInt8) : Lib.byteCells (l ++ m) = Lib.byteCells l ++ Lib.byteCells m := by simp [Lib.byteCells]
theorem St.app1 {w0 w w2 : World} {g b : Nat} {l : List UInt8} (h : St w0 g b l w) (m : List UInt8) (hown : w2.ownsRow g 5 1 (.slice (some ⟨g, 0, none⟩) (l.length + m.length) 24) (l.length + m.length) (Lib.byteCells l ++ Lib.byteCells m)) (hg : w.grownBy w2 (some g)) : St w0 g b (l ++ m) w2 := by
  have hbk : w2.heap[b]? = w.heap[b]? := hg.block b h.bw (fun e => by have := h.gb; cases e; omega)
  refine ⟨by rw [List.length_append, byteCells_app]; exact hown, ?_, ?_, ?_, h.gb, Nat.lt_of_lt_of_le h.bw hg.size⟩
  · rw [World.cell?_of_block hbk]; exact h.c0
  · rw [World.cell?_of_block hbk]; exact h.c1
  · exact h.bel.grown hg (by have := h.gb; have := h.bw; omega) (fun j hj => by cases hj; exact Nat.le_refl _)
theorem St.alloc {w0 w : World} {g b : Nat} {l : List UInt8} (h : St w0 g b l w) (o : Obj) : St w0 g b l (w.alloc o) := by
  have hb := (Below.refl w.heap.size w).alloc (Nat.le_refl _) o
  refine ⟨World.ownsRow.alloc h.own _, ?_, ?_, ?_, h.gb, Nat.lt_of_lt_of_le h.bw hb.size⟩
  · rw [hb.cell (p := ⟨b, 0, none⟩) h.bw]; exact h.c0
  · rw [hb.cell (p := ⟨b, 1, none⟩) h.bw]; exact h.c1
  · exact h.bel.alloc (by have := h.gb; have := h.bw; omega) o
theorem St.app {w0 w w2 : World} {g b : Nat} {l : List UInt8} {o : Obj} (h : St w0 g b l w) (m : List UInt8) (hown : w2.ownsRow g 5 1 (.slice (some ⟨g, 0, none⟩) (l.length + m.length) 24) (l.length + m.length) (Lib.byteCells l ++ Lib.byteCells m)) (hg : (w.alloc o).grownBy w2 (some g)) : St w0 g b (l ++ m) w2 := (h.alloc o).app1 m hown hg
theorem news1 {w : World} {b : Nat} (h : w.cell? ⟨b, 1, none⟩ = some (.int .u8 53)) : ∀ j u, [Value.int .u8 53][j]? = some u → w.cell? (Addr.add ⟨b, 1, none⟩ j) = some u := by
  intro j u hj
  match j, hj with
  | 0, hj => simp at hj; subst hj; simpa [Addr.add] using h

theorem efg15e (w0 w1 : World) (g b : Nat) (h : St w0 g b [] w1) :
    Calls Tryz.prog 222 #[.slice (some ⟨g, 0, none⟩) 0 24, .bool false, .slice (some ⟨b, 0, none⟩) 32 32, .int .i64 1, .int .i64 2, .int .i64 1, .int .u8 101, .bool true] w1 fun e w' => e = .returned (.slice (some ⟨g, 0, none⟩) 7 24) ∧ St w0 g b [49, 46, 53, 101, 43, 48, 48] w' := by
  obtain ⟨i0, hi, hz0, hz1, hz2⟩ := info_parts info5
  have HI := Lib.hid hi
  have HZ1 := Lib.hid hz1
  have HS0 := Lib.hid h
  clear hi hz0 hz1 hz2 h
  have k0 := HS0.out.c0
  go_enter Tryz.func222, Tryz.ntmps222
  go_wp2_with (first
    | (at_builtin; (refine wpList_append_fits _ rfl (.tmp 87) (.tmp 89) 59 rfl g 5 i0 1 Tryz.underlying59 HI.out HZ1.out g 0 24 (Lib.byteCells []) rfl (World.ownsRow.alloc HS0.out.own _) ⟨w1.heap.size, 0, none⟩ 1 1 [.int .u8 49] rfl rfl (World.news_of_block (cs := #[.int .u8 49]) (t := 5) (fr := (0, 0)) (heap_alloc_new w1 _)) (by simp [Value.oneCell']) (by omega) ?_); intro w2 hown hgrow; have HS1 := Lib.hid (HS0.out.app [49] hown hgrow); clear hown hgrow)
    | (at_builtin; (refine wpList_append_fits _ rfl (.tmp 93) (.tmp 94) 59 rfl g 5 i0 1 Tryz.underlying59 HI.out HZ1.out g 1 24 (Lib.byteCells [49]) rfl (World.ownsRow.alloc HS1.out.own _) ⟨w2.heap.size, 0, none⟩ 1 1 [.int .u8 46] rfl rfl (World.news_of_block (cs := #[.int .u8 46]) (t := 5) (fr := (0, 0)) (heap_alloc_new w2 _)) (by simp [Value.oneCell']) (by omega) ?_); intro w3 hown hgrow; have HS2 := Lib.hid (HS1.out.app [46] hown hgrow); clear hown hgrow)
    | (at_builtin; go_must (refine wpList_append_fits _ rfl (.tmp 103) (.tmp 107) 59 rfl g 5 i0 1 Tryz.underlying59 HI.out HZ1.out g 2 24 (Lib.byteCells [49, 46]) rfl HS2.out.own ⟨b, 1, none⟩ 1 31 [.int .u8 53] rfl rfl (news1 HS2.out.c1) (by simp [Value.oneCell']) (by omega) ?_); intro w4 hown hgrow; have HS3 := Lib.hid (HS2.out.app1 [53] hown hgrow); clear hown hgrow)
    | fail)
  go_loopw [0, 114] (fun v i wr => v = .slice (some ⟨g, 0, none⟩) 3 24 ∧ i = .int .i64 0 ∧ wr = w4) (fun _ _ _ => 0)
  case atStart => exact ⟨rfl, rfl, rfl⟩
  case round =>
    obtain ⟨rfl, rfl, hw⟩ := hrel
    obtain rfl := hw.symm
    go_wp2_with (first
      | (at_builtin; (refine wpList_append_fits _ rfl (.tmp 120) (.tmp 122) 59 rfl g 5 i0 1 Tryz.underlying59 HI.out HZ1.out g 3 24 (Lib.byteCells [49, 46, 53]) rfl (World.ownsRow.alloc HS3.out.own _) ⟨w4.heap.size, 0, none⟩ 1 1 [.int .u8 101] rfl rfl (World.news_of_block (cs := #[.int .u8 101]) (t := 5) (fr := (0, 0)) (heap_alloc_new w4 _)) (by simp [Value.oneCell']) (by omega) ?_); intro w5 hown hgrow; have HS4 := Lib.hid (HS3.out.app [101] hown hgrow); clear hown hgrow)
      | (at_builtin; (refine wpList_append_fits _ rfl (.tmp 132) (.tmp 134) 59 rfl g 5 i0 1 Tryz.underlying59 HI.out HZ1.out g 4 24 (Lib.byteCells [49, 46, 53, 101]) rfl (World.ownsRow.alloc HS4.out.own _) ⟨w5.heap.size, 0, none⟩ 1 1 [.int .u8 43] rfl rfl (World.news_of_block (cs := #[.int .u8 43]) (t := 5) (fr := (0, 0)) (heap_alloc_new w5 _)) (by simp [Value.oneCell']) (by omega) ?_); intro w6 hown hgrow; have HS5 := Lib.hid (HS4.out.app [43] hown hgrow); clear hown hgrow)
      | (at_builtin; go_must (refine wpList_append_fits _ rfl (.tmp 155) (.tmp 159) 59 rfl g 5 i0 1 Tryz.underlying59 HI.out HZ1.out g 5 24 (Lib.byteCells [49, 46, 53, 101, 43]) rfl (World.ownsRow.alloc HS5.out.own _) ⟨w6.heap.size, 0, none⟩ 2 2 [.int .u8 48, .int .u8 48] rfl rfl (World.news_of_block (cs := #[.int .u8 48, .int .u8 48]) (t := 5) (fr := (0, 0)) (heap_alloc_new w6 _)) (by simp [Value.oneCell']) (by omega) ?_); intro w7 hown hgrow; have HS6 := Lib.hid (HS5.out.app [48, 48] hown hgrow); clear hown hgrow)
      | fail)
    go_ret
    exact ⟨rfl, HS6.out⟩
end Go.Proofs.YtagiddbfhlokcaaGreatDoor.One
/- fmtEFG at 1.5's digits, by 'f'. No condition. -/
namespace Go.Proofs.YtagiddbfhlokcaaGreatDoor.One
open Go.RowKit
set_option maxRecDepth 100000
theorem efg15f (w0 w1 : World) (g b : Nat) (h : St w0 g b [] w1) :
    Calls Tryz.prog 222 #[.slice (some ⟨g, 0, none⟩) 0 24, .bool false, .slice (some ⟨b, 0, none⟩) 32 32, .int .i64 1, .int .i64 2, .int .i64 1, .int .u8 102, .bool true] w1 fun e w' => e = .returned (.slice (some ⟨g, 0, none⟩) 3 24) ∧ St w0 g b [49, 46, 53] w' := by
  obtain ⟨i0, hi, hz0, hz1, hz2⟩ := info_parts info5
  have HI := Lib.hid hi
  have HZ1 := Lib.hid hz1
  have HS0 := Lib.hid h
  clear hi hz0 hz1 hz2 h
  have k0 := HS0.out.c0
  have mm0 : max (0 : Int) (-1) = 0 := by decide
  have mm1 : min (1 : Int) 0 = 0 := by decide
  have mm2 : max (0 : Int) 1 = 1 := by decide
  have mm3 : min (1 : Int) 1 = 1 := by decide
  go_enter Tryz.func222, Tryz.ntmps222
  go_wp2_with fail
  go_loopw [0, 25, 191] (fun v _ i wr => (v = .slice (some ⟨g, 0, none⟩) 0 24 ∧ i = .int .i64 0 ∧ wr = w1) ∨ (v = .slice (some ⟨g, 0, none⟩) 1 24 ∧ i = .int .i64 1 ∧ St w0 g b [49] wr)) (fun _ _ i _ => 1 - (intOf i).toNat)
  case atStart => exact .inl ⟨rfl, rfl, rfl⟩
  case round =>
    rcases hrel with ⟨rfl, rfl, hw⟩ | ⟨rfl, rfl, h1⟩
    · obtain rfl := hw.symm
      go_wp2_with ((at_builtin; go_must (refine wpList_append_fits _ rfl (.tmp 195) (.tmp 197) 59 rfl g 5 i0 1 Tryz.underlying59 HI.out HZ1.out g 0 24 (Lib.byteCells []) rfl (World.ownsRow.alloc HS0.out.own _) ⟨w1.heap.size, 0, none⟩ 1 1 [.int .u8 49] rfl rfl (World.news_of_block (cs := #[.int .u8 49]) (t := 5) (fr := (0, 0)) (heap_alloc_new w1 _)) (by simp [Value.oneCell']) (by omega) ?_); intro w2 hown hgrow; have HS1 := Lib.hid (HS0.out.app [49] hown hgrow); clear hown hgrow))
      go_roundw
      case rel => exact .inr ⟨rfl, by go_num, HS1.out⟩
      case measure => simp [intOf]
    · obtain ⟨wa, hwa⟩ : ∃ wa, wa = wr := ⟨_, rfl⟩
      subst hwa
      have HS1 := Lib.hid h1
      clear h1
      go_wp2_with fail
      go_loopw [0, 203] (fun v i wr => v = .slice (some ⟨g, 0, none⟩) 1 24 ∧ i = .int .i64 0 ∧ wr = wa) (fun _ _ _ => 0)
      case atStart => exact ⟨rfl, rfl, rfl⟩
      case round =>
        obtain ⟨rfl, rfl, hw⟩ := hrel
        obtain rfl := hw.symm
        go_wp2_with ((at_builtin; go_must (refine wpList_append_fits _ rfl (.tmp 214) (.tmp 215) 59 rfl g 5 i0 1 Tryz.underlying59 HI.out HZ1.out g 1 24 (Lib.byteCells [49]) rfl (World.ownsRow.alloc HS1.out.own _) ⟨wa.heap.size, 0, none⟩ 1 1 [.int .u8 46] rfl rfl (World.news_of_block (cs := #[.int .u8 46]) (t := 5) (fr := (0, 0)) (heap_alloc_new wa _)) (by simp [Value.oneCell']) (by omega) ?_); intro w3 hown hgrow; have HS2 := Lib.hid (HS1.out.app [46] hown hgrow); clear hown hgrow))
        go_loopw [0, 240] (fun v i wr => v = .slice (some ⟨g, 0, none⟩) 2 24 ∧ i = .int .i64 0 ∧ wr = w3) (fun _ _ _ => 0)
        case atStart => exact ⟨rfl, rfl, rfl⟩
        case round =>
          obtain ⟨rfl, rfl, hw⟩ := hrel
          obtain rfl := hw.symm
          go_wp2_with fail
          go_loopw [0, 30, 247] (fun v _ i wr => (v = .slice (some ⟨g, 0, none⟩) 2 24 ∧ i = .int .i64 0 ∧ wr = w3) ∨ (v = .slice (some ⟨g, 0, none⟩) 3 24 ∧ i = .int .i64 1 ∧ St w0 g b [49, 46, 53] wr)) (fun _ _ i _ => 1 - (intOf i).toNat)
          case atStart => exact .inl ⟨rfl, rfl, rfl⟩
          case round =>
            rcases hrel with ⟨rfl, rfl, hw⟩ | ⟨rfl, rfl, h1⟩
            · obtain rfl := hw.symm
              have k1 := HS2.out.c1
              go_wp2_with ((at_builtin; go_must (refine wpList_append_fits _ rfl (.tmp 250) (.tmp 257) 59 rfl g 5 i0 1 Tryz.underlying59 HI.out HZ1.out g 2 24 (Lib.byteCells [49, 46]) rfl (World.ownsRow.alloc HS2.out.own _) ⟨w3.heap.size, 0, none⟩ 1 1 [.int .u8 53] rfl rfl (World.news_of_block (cs := #[.int .u8 53]) (t := 5) (fr := (0, 0)) (heap_alloc_new w3 _)) (by simp [Value.oneCell']) (by omega) ?_); intro w4 hown hgrow; have HS3 := Lib.hid (HS2.out.app [53] hown hgrow); clear hown hgrow))
              go_roundw
              case rel => exact .inr ⟨rfl, by go_num, HS3.out⟩
              case measure => simp [intOf]
            · obtain ⟨wb, hwb⟩ : ∃ wb, wb = wr := ⟨_, rfl⟩
              subst hwb
              have HS3 := Lib.hid h1
              clear h1
              go_wp2_with fail
              go_loopw [0, 261] (fun v i wr => v = .slice (some ⟨g, 0, none⟩) 3 24 ∧ i = .int .i64 0 ∧ wr = wb) (fun _ _ _ => 0)
              case atStart => exact ⟨rfl, rfl, rfl⟩
              case round =>
                obtain ⟨rfl, rfl, hw⟩ := hrel
                obtain rfl := hw.symm
                go_wp2_with fail
                go_ret
                exact ⟨rfl, HS3.out⟩
end Go.Proofs.YtagiddbfhlokcaaGreatDoor.One
