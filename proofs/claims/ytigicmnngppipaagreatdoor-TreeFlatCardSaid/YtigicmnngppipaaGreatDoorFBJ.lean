/- Several texts of this proof, laid together. Conditions: as each says. -/
import Derived.Test.YtigicmnngppipaaGreatDoorFBI
import Derived.ChangeSame
import Derived.ChangeArms
import Derived.Deep.Strs
import Derived.FnData
import Derived.OpenShut
import Derived.Test.YtigicmnngppipaaGreatDoorFAB
import Derived.Test.YtigicmnngppipaaGreatDoorFAR
import Derived.Test.YtigicmnngppipaaGreatDoorFAW
/- The tables of strconv out of the row's condition: cells. No condition. -/
namespace Go.Proofs.YtigicmnngppipaaGreatDoor
open Go.RowKit Go.WideShapes Go.ChangeShapes Go.Deep
set_option maxRecDepth 100000
theorem slice_cells {W : World} {t e : TypeId} {c fuel : Nat} {cs : List Value} {xs : List (DataW Unit)} {p : List MemPlace} (ht : Tryz.prog.underlying t = some (.slice e)) (hc : Tryz.prog.cellsOf e = c) (hc0 : 0 < c) (hx : xs ≠ [])
    (h : DataW.trod (fun _ => ()) Tryz.prog W 0 (fun _ => true) false fuel t cs = some (.slice xs [], p)) :
    ∃ (B o n : Nat), cs = [.slice (some ⟨B, o, none⟩) xs.length xs.length] ∧ ∀ i (hi : i < xs.length), ∃ cs' p', (List.range c).mapM (fun j => W.cell? ⟨B, o + i * c + j, none⟩) = some cs' ∧ DataW.trod (fun _ => ()) Tryz.prog W 0 (fun _ => true) false n e cs' = some (xs[i], p') := by
  rcases DataW.trod_slice ht h with ⟨_, hh⟩ | ⟨a, len, cap, elems, rest, n, _, rfl, hh, _, hle, _, hel, hf, hsp, _⟩
  · cases hh
  · simp only [Prod.mk.injEq, DataW.slice.injEq] at hh
    obtain ⟨⟨h1, h2⟩, _⟩ := hh
    have hr : rest = [] := by
      cases rest with
      | nil => rfl
      | cons a b => cases h2
    have hrl := (hsp rfl).1
    rw [hr] at hrl
    have hcap : cap = len := by simp at hrl; omega
    have hlen : xs.length = len := by rw [h1, List.length_map]; exact hel
    have key : ∀ i (hi : i < xs.length), ∃ cs' p', (List.range c).mapM (fun j => W.cell? ((a.add (i * c)).add j)) = some cs' ∧ DataW.trod (fun _ => ()) Tryz.prog W 0 (fun _ => true) false n e cs' = some (xs[i], p') := by
      intro i hi
      have h3 := hf i (by omega)
      rw [hc] at h3
      have hel2 : elems[i]? = some (elems[i]'(by omega)) := List.getElem?_eq_getElem (by omega)
      rw [hel2, Option.bind_eq_some_iff] at h3
      obtain ⟨cs', h4, h5⟩ := h3
      unfold World.cells? at h4
      rw [if_pos (Nat.zero_le _)] at h4
      refine ⟨cs', (elems[i]'(by omega)).2, h4, ?_⟩
      rw [h5]
      congr 1
      have : xs[i] = (elems[i]'(by omega)).1 := by simp [h1]
      rw [this]
    have hsp2 : a.spot = none := by
      obtain ⟨cs', p', h4, _⟩ := key 0 (List.length_pos_iff.2 hx)
      have h6 : ∃ v, W.cell? ((a.add (0 * c)).add 0) = some v := by
        obtain ⟨c', rfl⟩ : ∃ c', c = c' + 1 := ⟨c - 1, by omega⟩
        rw [List.range_succ_eq_map] at h4
        simp only [List.mapM_cons, Option.bind_eq_bind, Option.bind_eq_some_iff] at h4
        obtain ⟨v, hv, _⟩ := h4
        exact ⟨v, hv⟩
      obtain ⟨v, hv⟩ := h6
      rw [Nat.zero_mul] at hv
      exact World.cell?_spot (by simpa [Addr.add] using hv)
    obtain ⟨B, o, sp⟩ := a
    simp only at hsp2
    subst hsp2
    refine ⟨B, o, n, by rw [hlen, hcap], fun i hi => ?_⟩
    obtain ⟨cs', p', h4, h5⟩ := key i hi
    refine ⟨cs', p', ?_, h5⟩
    rw [← h4]
    congr 1
    funext j
    rw [Addr.add_lit, Addr.add_lit]
theorem trod_float {W : World} {t : TypeId} {k : FloatKind} {fuel : Nat} {cs : List Value} {x : DataW Unit × List MemPlace} (ht : Tryz.prog.underlying t = some (.float k)) (h : DataW.trod (fun _ => ()) Tryz.prog W 0 (fun _ => true) false fuel t cs = some x) : ∃ b, cs = [.float k b] ∧ x.1 = .lit (.float k b) := by
  cases fuel with
  | zero => simp [DataW.trod] at h
  | succ n =>
    unfold DataW.trod at h
    rw [ht] at h
    split at h <;> simp_all
    obtain ⟨_, rfl⟩ := h
    rfl
theorem one_of {W : World} {B o : Nat} {cs : List Value} {v : Value} (h : (List.range 1).mapM (fun j => W.cell? ⟨B, o + j, none⟩) = some cs) (hv : cs = [v]) : W.cell? ⟨B, o, none⟩ = some v := by
  subst hv
  simp [List.range_succ_eq_map] at h
  cases hh : W.cell? ⟨B, o, none⟩ with
  | none => rw [hh] at h; cases h
  | some u => rw [hh] at h; simpa using h
theorem two_of {W : World} {B o : Nat} {cs : List Value} {u v : Value} (h : (List.range 2).mapM (fun j => W.cell? ⟨B, o + j, none⟩) = some cs) (hv : cs = [u, v]) : W.cell? ⟨B, o, none⟩ = some u ∧ W.cell? ⟨B, o + 1, none⟩ = some v := by
  subst hv
  simp [List.range_succ_eq_map] at h
  cases hh : W.cell? ⟨B, o, none⟩ with
  | none => rw [hh] at h; cases h
  | some a =>
    cases h2 : W.cell? ⟨B, o + 1, none⟩ with
    | none => rw [hh, h2] at h; cases h
    | some b => rw [hh, h2] at h; simpa using h
/-- Whole numbers in a slice. -/
theorem ints_of {W : World} {t : TypeId} {fuel : Nat} {cs : List Value} {zs : List Int} {p : List MemPlace} (ht : Tryz.prog.underlying t = some (.slice 3)) (hx : zs ≠ [])
    (h : DataW.trod (fun _ => ()) Tryz.prog W 0 (fun _ => true) false fuel t cs = some (.slice (zs.map fun z => .lit (.int .i64 z)) [], p)) :
    ∃ (B o : Nat), cs = [.slice (some ⟨B, o, none⟩) zs.length zs.length] ∧ ∀ i (hi : i < zs.length), W.cell? ⟨B, o + i, none⟩ = some (.int .i64 zs[i]) := by
  obtain ⟨B, o, n, hcs, hf⟩ := slice_cells ht (by kernel_rfl : Tryz.prog.cellsOf 3 = 1) (by omega) (by simpa using hx) h
  refine ⟨B, o, by rw [hcs, List.length_map], fun i hi => ?_⟩
  obtain ⟨cs', p', h1, h2⟩ := hf i (by rw [List.length_map]; exact hi)
  obtain ⟨m, h3, h4, _⟩ := DataW.trod_int Tryz.underlying3 h2
  rw [Nat.mul_one] at h1
  have h5 := one_of h1 h3
  simp at h4
  rw [h5, h4.1]
/-- Floats in a slice. -/
theorem floats_of {W : World} {t : TypeId} {fuel : Nat} {cs : List Value} {zs : List Nat} {p : List MemPlace} (ht : Tryz.prog.underlying t = some (.slice 148)) (hx : zs ≠ [])
    (h : DataW.trod (fun _ => ()) Tryz.prog W 0 (fun _ => true) false fuel t cs = some (.slice (zs.map fun z => .lit (.float .f64 z)) [], p)) :
    ∃ (B o : Nat), cs = [.slice (some ⟨B, o, none⟩) zs.length zs.length] ∧ ∀ i (hi : i < zs.length), W.cell? ⟨B, o + i, none⟩ = some (.float .f64 zs[i]) := by
  obtain ⟨B, o, n, hcs, hf⟩ := slice_cells ht (by kernel_rfl : Tryz.prog.cellsOf 148 = 1) (by omega) (by simpa using hx) h
  refine ⟨B, o, by rw [hcs, List.length_map], fun i hi => ?_⟩
  obtain ⟨cs', p', h1, h2⟩ := hf i (by rw [List.length_map]; exact hi)
  obtain ⟨m, h3, h4⟩ := trod_float Tryz.underlying148 h2
  rw [Nat.mul_one] at h1
  have h5 := one_of h1 h3
  simp at h4
  rw [h5, h4]
/-- Pairs of a number and a text, in a slice. -/
theorem cheats_of {W : World} {fuel : Nat} {cs : List Value} {zs : List (Nat × List UInt8)} {p : List MemPlace} (hx : zs ≠ [])
    (h : DataW.trod (fun _ => ()) Tryz.prog W 0 (fun _ => true) false fuel 300 cs = some (.slice (zs.map fun x => .agg [.lit (.int .i64 x.1), .lit (.string x.2)]) [], p)) :
    ∃ (B o : Nat), cs = [.slice (some ⟨B, o, none⟩) zs.length zs.length] ∧ ∀ i (hi : i < zs.length), W.cell? ⟨B, o + i * 2, none⟩ = some (.int .i64 zs[i].1) ∧ W.cell? ⟨B, o + i * 2 + 1, none⟩ = some (.string ⟨zs[i].2.toArray⟩) := by
  obtain ⟨B, o, n, hcs, hf⟩ := slice_cells Tryz.underlying300 (by kernel_rfl : Tryz.prog.cellsOf 299 = 2) (by omega) (by simpa using hx) h
  refine ⟨B, o, by rw [hcs, List.length_map], fun i hi => ?_⟩
  obtain ⟨cs', p', h1, h2⟩ := hf i (by rw [List.length_map]; exact hi)
  obtain ⟨y0, y1, k, h3, hl, e0, e1⟩ := trod_struct2 Tryz.underlying299 h2
  have c3 : Tryz.prog.cellsOf 3 = 1 := by kernel_rfl
  have c9 : Tryz.prog.cellsOf 9 = 1 := by kernel_rfl
  simp only [c3, c9] at e0 e1
  obtain ⟨a, g0, rfl, _⟩ := DataW.trod_int Tryz.underlying3 e0
  obtain ⟨s, g1, rfl, _⟩ := DataW.trod_string Tryz.underlying9 e1
  simp at h3
  obtain ⟨⟨h4, h5⟩, _⟩ := h3
  have hcs2 : cs' = [.int .i64 a, .string s] := by
    rw [show Tryz.prog.cellsOf 299 = 2 by kernel_rfl] at hl
    match cs', hl with
    | [u, v], _ => simp at g0 g1; rw [g0, g1]
  obtain ⟨h6, h7⟩ := two_of h1 hcs2
  refine ⟨by rw [h6, h4], ?_⟩
  rw [h7]
  congr 2
  rw [h5]
  
/-- The first sixteen variables that the rows list. -/
abbrev pre16 (r : List (String × DataW Unit)) : List (String × DataW Unit) := ("math/bits.deBruijn32tab", Rows.laid_math_bits_deBruijn32tab) :: ("math/bits.deBruijn64tab", Rows.laid_math_bits_deBruijn64tab) :: ("internal/strconv.float32info", Rows.laid_internal_strconv_float32info) :: ("internal/strconv.float64info", Rows.laid_internal_strconv_float64info) :: ("internal/strconv.optimize", Rows.laid_internal_strconv_optimize) :: ("internal/strconv.powtab", Rows.laid_internal_strconv_powtab) :: ("internal/strconv.float64pow10", Rows.laid_internal_strconv_float64pow10) :: ("internal/strconv.float32pow10", Rows.laid_internal_strconv_float32pow10) :: ("internal/strconv.uint64pow10", Rows.laid_internal_strconv_uint64pow10) :: ("unicode/utf8.acceptRanges", Rows.laid_unicode_utf8_acceptRanges) :: ("strconv.ErrRange", Rows.laid_strconv_ErrRange) :: ("strconv.ErrSyntax", Rows.laid_strconv_ErrSyntax) :: ("unicode.White_Space", Rows.laid_unicode_White_Space) :: ("strings.asciiSpace", Rows.laid_strings_asciiSpace) :: ("internal/strconv.leftcheats", Rows.laid_internal_strconv_leftcheats) :: ("internal/strconv.pow10Tab", Rows.laid_internal_strconv_pow10Tab) :: r
theorem lst_pre : Laid.lst = pre16 [("unicode/utf8.first", Rows.laid_unicode_utf8_first)] := rfl
variable {r16 : List (String × DataW Unit)}
theorem laid_head {n : String} {d : DataW Unit} {r : List (String × DataW Unit)} {W : World} {g : Nat} {t : TypeId} (h : laidMet Tryz.prog ((n, d) :: r) W) (hg : Tryz.prog.globalNamed n = some g) (ht : (Tryz.prog.globals[g]?).map (·.type) = some t) :
    ∃ (cs : List Value) (fuel : Nat) (p : List MemPlace), DataW.trod (fun _ => ()) Tryz.prog W 0 (fun _ => true) false fuel t cs = some (d, p) ∧ ∀ i, W.cell? ⟨g, i, none⟩ = cs[i]? := by
  obtain ⟨ps, ⟨g', t', cs, fuel, p, q, hg', ht', hvar, hd, _, _⟩, _⟩ := h
  obtain rfl := Option.some.inj (hg.symm.trans hg')
  obtain rfl := Option.some.inj (ht.symm.trans ht')
  refine ⟨cs.toList, fuel, p, hd, fun i => ?_⟩
  rw [World.var?_cell hg hvar i]
  simp
theorem lst_met {W : World} (h : laidMetH Tryz.prog Laid.lst W) : laidMet Tryz.prog Laid.lst W := by
  rw [MakeChecks.laidMetH_plain _ _ _ Laid.plain] at h
  exact h
theorem drop_met {W : World} (k : Nat) (hk : k ≤ 15) (h : laidMet Tryz.prog (pre16 r16) W) : laidMet Tryz.prog ((pre16 r16).drop k) W := by
  match k, hk with
  | 0, _ => exact h
  | 1, _ => exact h.tail
  | 2, _ => exact h.tail.tail
  | 3, _ => exact h.tail.tail.tail
  | 4, _ => exact h.tail.tail.tail.tail
  | 5, _ => exact h.tail.tail.tail.tail.tail
  | 6, _ => exact h.tail.tail.tail.tail.tail.tail
  | 7, _ => exact h.tail.tail.tail.tail.tail.tail.tail
  | 8, _ => exact h.tail.tail.tail.tail.tail.tail.tail.tail
  | 9, _ => exact h.tail.tail.tail.tail.tail.tail.tail.tail.tail
  | 10, _ => exact h.tail.tail.tail.tail.tail.tail.tail.tail.tail.tail
  | 11, _ => exact h.tail.tail.tail.tail.tail.tail.tail.tail.tail.tail.tail
  | 12, _ => exact h.tail.tail.tail.tail.tail.tail.tail.tail.tail.tail.tail.tail
  | 13, _ => exact h.tail.tail.tail.tail.tail.tail.tail.tail.tail.tail.tail.tail.tail
  | 14, _ => exact h.tail.tail.tail.tail.tail.tail.tail.tail.tail.tail.tail.tail.tail.tail
  | 15, _ => exact h.tail.tail.tail.tail.tail.tail.tail.tail.tail.tail.tail.tail.tail.tail.tail
theorem info_of {W : World} (h : laidMet Tryz.prog (pre16 r16) W) : W.cell? ⟨16, 0, none⟩ = some (.int .u64 52) ∧ W.cell? ⟨16, 1, none⟩ = some (.int .u64 11) ∧ W.cell? ⟨16, 2, none⟩ = some (.int .i64 (-1023)) := by
  have h3 := drop_met 3 (by omega) h
  obtain ⟨cs, fuel, p, hd, hc⟩ := laid_head (n := "internal/strconv.float64info") (d := Rows.laid_internal_strconv_float64info) (r := (pre16 r16).drop 4) (g := 16) (t := 315) h3 (by kernel_rfl) (by kernel_rfl)
  obtain ⟨y0, y1, y2, k, hx, hl, e0, e1, e2⟩ := trod_struct3 Tryz.underlying315 hd
  rw [show Tryz.prog.cellsOf 315 = 3 by kernel_rfl] at hl
  obtain ⟨a, b, c, rfl⟩ : ∃ a b c, cs = [a, b, c] := by
    match cs, hl with
    | [a, b, c], _ => exact ⟨a, b, c, rfl⟩
  have c60 : Tryz.prog.cellsOf 55 = 1 := by kernel_rfl
  have c3 : Tryz.prog.cellsOf 3 = 1 := by kernel_rfl
  simp only [c60, c3] at e0 e1 e2
  obtain ⟨n0, g0, rfl, _⟩ := DataW.trod_int Tryz.underlying55 e0
  obtain ⟨n1, g1, rfl, _⟩ := DataW.trod_int Tryz.underlying55 e1
  obtain ⟨n2, g2, rfl, _⟩ := DataW.trod_int Tryz.underlying3 e2
  simp [Rows.laid_internal_strconv_float64info] at hx
  simp at g0 g1 g2
  obtain ⟨⟨rfl, rfl, rfl⟩, _⟩ := hx
  refine ⟨by rw [hc 0]; simp [g0], by rw [hc 1]; simp [g1], by rw [hc 2]; simp [g2]⟩
theorem op_of {W : World} (h : laidMet Tryz.prog (pre16 r16) W) : W.cell? ⟨5, 0, none⟩ = some (.bool true) := by
  have h3 := drop_met 4 (by omega) h
  obtain ⟨cs, fuel, p, hd, hc⟩ := laid_head (n := "internal/strconv.optimize") (d := Rows.laid_internal_strconv_optimize) (r := (pre16 r16).drop 5) (g := 5) (t := 4) h3 (by kernel_rfl) (by kernel_rfl)
  obtain ⟨b, rfl, hx⟩ := DataW.trod_bool Tryz.underlying4 hd
  simp [Rows.laid_internal_strconv_optimize] at hx
  rw [hc 0, ← hx.1]
  rfl
def ptL : List Int := [1, 3, 6, 9, 13, 16, 19, 23, 26]
theorem pt_of {W : World} (h : laidMet Tryz.prog (pre16 r16) W) : ∃ B o, W.cell? ⟨18, 0, none⟩ = some (.slice (some ⟨B, o, none⟩) 9 9) ∧ ∀ i (hi : i < 9), W.cell? ⟨B, o + i, none⟩ = some (.int .i64 (ptL[i]'hi)) := by
  have h3 := drop_met 5 (by omega) h
  obtain ⟨cs, fuel, p, hd, hc⟩ := laid_head (n := "internal/strconv.powtab") (d := Rows.laid_internal_strconv_powtab) (r := (pre16 r16).drop 6) (g := 18) (t := 331) h3 (by kernel_rfl) (by kernel_rfl)
  have e : (Rows.laid_internal_strconv_powtab : DataW Unit) = .slice (ptL.map fun z => .lit (.int .i64 z)) [] := by kernel_rfl
  rw [e] at hd
  obtain ⟨B, o, rfl, hf⟩ := ints_of Tryz.underlying331 (by decide) hd
  exact ⟨B, o, by rw [hc 0]; rfl, fun i hi => hf i hi⟩
def flL : List Nat := [4607182418800017408, 4621819117588971520, 4636737291354636288, 4652007308841189376, 4666723172467343360, 4681608360884174848, 4696837146684686336, 4711630319722168320, 4726483295884279808, 4741671816366391296, 4756540486875873280, 4771362005757984768, 4786511204640096256, 4801453603149578240, 4816244402031689728, 4831355200913801216, 4846369599423283200, 4861130398305394688, 4876203697187506176, 4891288408196988160, 4906019910204099648, 4921056587992461136, 4936209963552724370]
theorem fl_of {W : World} (h : laidMet Tryz.prog (pre16 r16) W) : ∃ B o, W.cell? ⟨19, 0, none⟩ = some (.slice (some ⟨B, o, none⟩) 23 23) ∧ ∀ i (hi : i < 23), W.cell? ⟨B, o + i, none⟩ = some (.float .f64 (flL[i]'hi)) := by
  have h3 := drop_met 6 (by omega) h
  obtain ⟨cs, fuel, p, hd, hc⟩ := laid_head (n := "internal/strconv.float64pow10") (d := Rows.laid_internal_strconv_float64pow10) (r := (pre16 r16).drop 7) (g := 19) (t := 332) h3 (by kernel_rfl) (by kernel_rfl)
  have e : (Rows.laid_internal_strconv_float64pow10 : DataW Unit) = .slice (flL.map fun z => .lit (.float .f64 z)) [] := by kernel_rfl
  rw [e] at hd
  obtain ⟨B, o, rfl, hf⟩ := floats_of Tryz.underlying332 (by decide) hd
  exact ⟨B, o, by rw [hc 0]; rfl, fun i hi => hf i hi⟩
theorem ch_of {W : World} (h : laidMet Tryz.prog (pre16 r16) W) : ∃ B o, W.cell? ⟨14, 0, none⟩ = some (.slice (some ⟨B, o, none⟩) 61 61) ∧ ∀ i (hi : i < Pinned.cheatRows.length), W.cell? ⟨B, o + i * 2, none⟩ = some (.int .i64 (Pinned.cheatRows[i]'hi).1) ∧ W.cell? ⟨B, o + i * 2 + 1, none⟩ = some (.string ⟨(Pinned.cheatRows[i]'hi).2.toArray⟩) := by
  have h3 := drop_met 14 (by omega) h
  obtain ⟨cs, fuel, p, hd, hc⟩ := laid_head (n := "internal/strconv.leftcheats") (d := Rows.laid_internal_strconv_leftcheats) (r := (pre16 r16).drop 15) (g := 14) (t := 300) h3 (by kernel_rfl) (by kernel_rfl)
  have hd2 : DataW.trod (fun _ => ()) Tryz.prog W 0 (fun _ => true) false fuel 300 cs = some (.slice (Pinned.cheatRows.map fun x => .agg [.lit (.int .i64 x.1), .lit (.string x.2)]) [], p) := hd
  obtain ⟨B, o, rfl, hf⟩ := cheats_of (by decide) hd2
  exact ⟨B, o, by rw [hc 0]; rfl, hf⟩
theorem er_of {W : World} (h : laidMet Tryz.prog (pre16 r16) W) : ∃ tp p, W.cell? ⟨8, 0, none⟩ = some (.iface tp p) := by
  have h3 := drop_met 10 (by omega) h
  obtain ⟨cs, fuel, p, hd, hc⟩ := laid_head (n := "strconv.ErrRange") (d := Rows.laid_strconv_ErrRange) (r := (pre16 r16).drop 11) (g := 8) (t := 113) h3 (by kernel_rfl) (by kernel_rfl)
  cases fuel with
  | zero => simp [DataW.trod] at hd
  | succ n =>
    unfold DataW.trod at hd
    rw [Tryz.underlying113] at hd
    split at hd
    all_goals first
      | (cases hd; done)
      | skip
    all_goals simp_all
    all_goals done
theorem es_of {W : World} (h : laidMet Tryz.prog (pre16 r16) W) : ∃ tp p, W.cell? ⟨7, 0, none⟩ = some (.iface tp p) := by
  have h3 := drop_met 11 (by omega) h
  obtain ⟨cs, fuel, p, hd, hc⟩ := laid_head (n := "strconv.ErrSyntax") (d := Rows.laid_strconv_ErrSyntax) (r := (pre16 r16).drop 12) (g := 7) (t := 113) h3 (by kernel_rfl) (by kernel_rfl)
  cases fuel with
  | zero => simp [DataW.trod] at hd
  | succ n =>
    unfold DataW.trod at hd
    rw [Tryz.underlying113] at hd
    split at hd
    all_goals first
      | (cases hd; done)
      | skip
    all_goals simp_all
    all_goals done
theorem sp_is : (Rows.laid_strings_asciiSpace : DataW Unit) = Lib.tabData .u8 Lib.asciiSpaceTab := by kernel_rfl
theorem space_of {W : World} (h : laidMet Tryz.prog (pre16 r16) W) : Lib.TabIs Tryz.prog W "strings.asciiSpace" .u8 Lib.asciiSpaceTab := by
  have h8 := drop_met 13 (by omega) h
  have h9 : laidMet Tryz.prog (("strings.asciiSpace", Lib.tabData .u8 Lib.asciiSpaceTab) :: (pre16 r16).drop 14) W := by rw [← sp_is]; exact h8
  exact Lib.tabIs_of_head (by kernel_rfl : Tryz.prog.globalNamed "strings.asciiSpace" = some 0) (by kernel_rfl : (Tryz.prog.globals[0]?).map (·.type) = some 154) Tryz.underlying154 Tryz.underlying5 (by kernel_rfl : Tryz.prog.cellsOf 5 = 1) (by kernel_rfl) h9
theorem pow_of {W : World} (h : laidMet Tryz.prog (pre16 r16) W) : ∀ k (hk : k < Pinned.pow10Rows.length), W.cell? ⟨13, k * 2, none⟩ = some (.int .u64 (Pinned.pow10Rows[k]'hk).1) ∧ W.cell? ⟨13, k * 2 + 1, none⟩ = some (.int .u64 (Pinned.pow10Rows[k]'hk).2) := by
  have h3 := drop_met 15 (by omega) h
  obtain ⟨cs, fuel, p, hd, hc⟩ := laid_head (n := "internal/strconv.pow10Tab") (d := Rows.laid_internal_strconv_pow10Tab) (r := (pre16 r16).drop 16) (g := 13) (t := 293) h3 (by kernel_rfl) (by kernel_rfl)
  obtain ⟨xs, m, _, hx, hl, hn, hf⟩ := DataW.trod_array Tryz.underlying293 hd
  have c336 : Tryz.prog.cellsOf 292 = 2 := by kernel_rfl
  have c51 : Tryz.prog.cellsOf 26 = 1 := by kernel_rfl
  have h1 : (Pinned.pow10Rows.map fun x => (DataW.agg [.lit (.int .u64 x.1), .lit (.int .u64 x.2)] : DataW Unit)) = xs.map (·.1) := by
    have := congrArg Prod.fst hx
    unfold Rows.laid_internal_strconv_pow10Tab at this
    simp only [Pinned.pow10Tab, DataW.agg.injEq] at this
    exact this
  have hlen : Pinned.pow10Rows.length = xs.length := by have := congrArg List.length h1; simpa using this
  intro k hk
  have h2 : xs[k]? = some (xs[k]'(by omega)) := List.getElem?_eq_getElem (by omega)
  have h4 : (xs[k]'(by omega)).1 = .agg [.lit (.int .u64 (Pinned.pow10Rows[k]'hk).1), .lit (.int .u64 (Pinned.pow10Rows[k]'hk).2)] := by
    have := congrArg (·[k]?) h1
    simp only [List.getElem?_map, List.getElem?_eq_getElem hk, h2, Option.map_some] at this
    exact (Option.some.inj this).symm
  have h5 := hf k (by omega)
  rw [h2, c336] at h5
  cases m with
  | zero => simp [DataW.trod] at h5
  | succ m =>
    obtain ⟨y0, y1, q, h6, _, e0, e1⟩ := trod_struct2 Tryz.underlying292 h5
    simp only [c51] at e0 e1
    obtain ⟨a, g0, rfl, _⟩ := DataW.trod_int Tryz.underlying26 e0
    obtain ⟨b, g1, rfl, _⟩ := DataW.trod_int Tryz.underlying26 e1
    rw [h6] at h4
    simp only [DataW.agg.injEq, List.cons.injEq, DataW.lit.injEq, Lit.int.injEq, true_and, and_true] at h4
    obtain ⟨rfl, rfl⟩ := h4
    constructor
    · have := congrArg (·[0]?) g0
      rw [hc (k * 2)]
      simpa [List.getElem?_take, List.getElem?_drop] using this
    · have := congrArg (·[0]?) g1
      rw [hc (k * 2 + 1)]
      simpa [List.getElem?_take, List.getElem?_drop] using this
end Go.Proofs.YtigicmnngppipaaGreatDoor
/- The walks' environment out of the row's condition. No condition. -/
namespace Go.Proofs.YtigicmnngppipaaGreatDoor
open Go.RowKit
set_option maxRecDepth 100000
def TT (k : Nat) : Nat × Nat := Pinned.pow10Rows.getD k (0, 0)
def FF (k : Nat) : Nat := flL.getD k 0
def SS (k : Nat) : ByteArray := ⟨(Pinned.cheatRows.getD k (0, [])).2.toArray⟩
theorem tt_lt : TabLt TT := by
  have key : (Pinned.pow10Rows.all fun x => decide (x.1 < 18446744073709551616) && decide (x.2 < 18446744073709551616)) = true := by decide +kernel
  intro k
  unfold TT
  by_cases h : k < Pinned.pow10Rows.length
  · rw [List.getD_eq_getElem?_getD, List.getElem?_eq_getElem h]
    have := List.all_eq_true.1 key _ (List.getElem_mem h)
    simpa using this
  · rw [List.getD_eq_getElem?_getD, List.getElem?_eq_none (by omega)]
    simp
theorem ff_ok : PF.TabOk FF := by
  have key : ∀ k : Fin 23, PF.Low (FF k.val) 1096 ∧ PF.High (FF k.val) 1023 ∧ FF k.val < 9223372036854775808 := by
    unfold PF.Low PF.High
    decide +kernel
  intro k hk
  exact key ⟨k, by omega⟩
theorem penv_of {r16 : List (String × DataW Unit)} {W : World} (h : laidMet Tryz.prog (pre16 r16) W) : ∃ B2 o2 B o, PEnv TT FF B2 o2 B o SS W := by
  obtain ⟨i0, i1, i2⟩ := info_of h
  obtain ⟨B2, o2, p0, p1⟩ := pt_of h
  obtain ⟨g, og, f0, f1⟩ := fl_of h
  obtain ⟨B, o, c0, c1⟩ := ch_of h
  have hpow := pow_of h
  have hl : Pinned.pow10Rows.length = 696 := by decide +kernel
  have hcl : Pinned.cheatRows.length = 61 := by decide +kernel
  refine ⟨B2, o2, B, o, ⟨⟨fun k hk => ?_, fun k hk => ?_⟩, tt_lt, ⟨i0, ff_ok, g, og, f0, fun k hk => ?_⟩, ⟨i0, i1, i2, p0, fun i hi => ?_, ⟨c0, fun k h1 h2 => ?_, fun k h1 h2 => ⟨?_, ?_⟩⟩⟩, op_of h⟩⟩
  · rw [(hpow k (by omega)).1]
    unfold TT
    rw [List.getD_eq_getElem?_getD, List.getElem?_eq_getElem (by omega)]
    rfl
  · rw [(hpow k (by omega)).2]
    unfold TT
    rw [List.getD_eq_getElem?_getD, List.getElem?_eq_getElem (by omega)]
    rfl
  · rw [f1 k (by omega)]
    unfold FF
    rw [List.getD_eq_getElem?_getD, List.getElem?_eq_getElem (show k < flL.length from by show k < 23; omega)]
    rfl
  · rw [p1 i hi]
    have key : ∀ i : Fin 9, (ptL[i.val]'(i.isLt)) = (PF.powtab i.val : Int) := by decide +kernel
    rw [← key ⟨i, hi⟩]
  · have h3 := (c1 k (by omega)).1
    rw [h3]
    have key : ∀ k : Fin 61, 1 ≤ k.val → (Pinned.cheatRows.getD k.val (0, [])).1 = k.val - PF.cN k.val + 1 := by decide +kernel
    have := key ⟨k, h2⟩ h1
    rw [List.getD_eq_getElem?_getD, List.getElem?_eq_getElem (by omega)] at this
    simp only [Option.getD_some] at this
    rw [this]
  · have h3 := (c1 k (by omega)).2
    rw [h3]
    unfold SS
    rw [List.getD_eq_getElem?_getD, List.getElem?_eq_getElem (by omega)]
    rfl
  · have key : ∀ k : Fin 61, 1 ≤ k.val → (Pinned.cheatRows.getD k.val (0, [])).2.map UInt8.toNat = (PF.dgs (5 ^ k.val)).map (48 + ·) := by decide +kernel
    have h3 := key ⟨k, h2⟩ h1
    simp only at h3
    unfold SS
    obtain ⟨l, hl2⟩ : ∃ l, (Pinned.cheatRows.getD k (0, [])).2 = l := ⟨_, rfl⟩
    obtain ⟨d, hd⟩ : ∃ d, PF.dgs (5 ^ k) = d := ⟨_, rfl⟩
    rw [hl2, hd] at h3
    rw [hl2, hd]
    have hlen : l.length = d.length := by have := congrArg List.length h3; simpa using this
    refine ⟨by rw [← hlen]; simp [ByteArray.size], fun i hi => ?_⟩
    have hi2 : i < l.length := by simpa [ByteArray.size] using hi
    have h4 := congrArg (·[i]?) h3
    simp only [List.getElem?_map, List.getElem?_eq_getElem hi2, List.getElem?_eq_getElem (show i < d.length by omega), Option.map_some] at h4
    have h5 := Option.some.inj h4
    have e1 : (ByteArray.mk l.toArray)[i] = l[i] := by
      show l.toArray[i] = _
      simp
    rw [e1, h5, List.getD_eq_getElem?_getD, List.getElem?_eq_getElem (by omega)]
    rfl
end Go.Proofs.YtigicmnngppipaaGreatDoor
/- What the readers want, out of the row's condition. No condition. -/
namespace Go.Proofs.YtigicmnngppipaaGreatDoor.Tp
open Go.RowKit Lx
set_option maxRecDepth 100000
def V0 : List UInt8 → Value × Int := valP (tabF TT) FF
theorem V0_val (l : List UInt8) : ∃ k b t n, V0 l = (val k b t, n) := by
  unfold V0 valP
  split
  · exact ⟨_, _, _, _, rfl⟩
  split
  · exact ⟨_, _, _, _, rfl⟩
  split
  · unfold unqV
    split
    · exact ⟨_, _, _, _, rfl⟩
    · split <;> exact ⟨_, _, _, _, rfl⟩
  split
  · split <;> exact ⟨_, _, _, _, rfl⟩
  split
  · split <;> exact ⟨_, _, _, _, rfl⟩
  · exact ⟨_, _, _, _, rfl⟩
theorem tab_later {n : String} {g : Nat} {k : IntKind} {zs : List Int} {w w' : World} (hg : Tryz.prog.globalNamed n = some g) (h : Lib.TabIs Tryz.prog w n k zs) (hb : Below w.heap.size w w') : Lib.TabIs Tryz.prog w' n k zs := by
  simp only [Lib.TabIs, World.var?, hg, Option.bind_some] at h ⊢
  by_cases hl : g < w.heap.size
  · rwa [hb.block g hl]
  · rw [Array.getElem?_eq_none (Nat.le_of_not_lt hl)] at h
    cases h
theorem rd_of {r16 : List (String × DataW Unit)} {W : World} (h : laidMet Tryz.prog (pre16 r16) W) : Rd V0 W := by
  obtain ⟨B2, o2, B, o, hp⟩ := penv_of h
  obtain ⟨tp, p, her⟩ := er_of h
  obtain ⟨ts, ps, hes⟩ := es_of h
  have hsp := space_of h
  refine ⟨⟨fun s h1 h2 w hb => Tryz.strings_Fields s w (by omega) (fun j b hj => ?_) (tab_later (g := 0) (by kernel_rfl) hsp hb)⟩, fun s hs w hb => ?_, fun s hs w hb => ?_, fun l => ?_⟩
  · have := List.all_eq_true.1 h2 b (List.mem_of_getElem? hj)
    simpa using this
  · cases hq : Lib.parseIntB 64 s.data.toList
    · rename_i v
      refine (Tryz.strconv_ParseInt_10_at64_ok s (by omega) v hq w).mono ?_
      rintro e w' ⟨rfl, hw⟩
      refine ⟨?_, .inl ⟨v, rfl, rfl⟩⟩
      rcases hw with rfl | ⟨t, rfl⟩
      · exact Below.refl _ _
      · exact Lib.bytesWorld_below _ _ _
    · refine (Tryz.strconv_ParseInt_10_at64_syntax s (by omega) hq (.iface ts ps) w ((hb.cell (cell_lt hes)).trans hes) (.inr ⟨_, _, rfl⟩)).mono ?_
      rintro e w' ⟨N, rfl, _, _, hb2⟩
      exact ⟨hb2, .inr ⟨fun n hn => (by cases hn), _, N, rfl⟩⟩
    · refine (Tryz.strconv_ParseInt_10_at64_range s (by omega) hq (.iface tp p) w ((hb.cell (cell_lt her)).trans her) (.inr ⟨_, _, rfl⟩)).mono ?_
      rintro e w' ⟨N, rfl, _, _, hb2⟩
      exact ⟨hb2, .inr ⟨fun n hn => (by cases hn), _, N, rfl⟩⟩
  · have := parse22 s.data.toList (by simp; omega) w (hp.below hb) ((hb.cell (cell_lt her)).trans her) (.inr ⟨_, _, rfl⟩)
    rw [← bs_eta s] at this
    exact this
  · obtain ⟨k, b, t, n, hv⟩ := V0_val l
    exact ⟨k, b, t, n, hv⟩
theorem wf_u8 {n : Int} (wn : (Lit.int .u8 n).wf = true) : 0 ≤ n ∧ n < 256 := by
  simp [Lit.wf, IntKind.min, IntKind.max, IntKind.signed, IntKind.bits] at wn
  omega
end Go.Proofs.YtigicmnngppipaaGreatDoor.Tp
