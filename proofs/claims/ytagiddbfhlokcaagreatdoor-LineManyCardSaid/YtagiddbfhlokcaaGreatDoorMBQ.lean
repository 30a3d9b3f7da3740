/- Several texts of this proof, laid together. Conditions: as each says. -/
import Derived.Test.YtagiddbfhlokcaaGreatDoorMBP
import Derived.Test.YtagiddbfhlokcaaGreatDoorRows
import Derived.Lay
import Derived.MakeChecks
import Derived.Stop.LaidErr
import Derived.Lib.LaidTab
import Derived.ChangeSame
import Derived.ChangeArms
import Derived.Deep.Strs
import Derived.FnData
import Derived.OpenShut
import Derived.Test.YtagiddbfhlokcaaGreatDoorMBC
import Derived.Test.YtagiddbfhlokcaaGreatDoorMAV
import Derived.Test.YtagiddbfhlokcaaGreatDoorMBF
import Derived.WalkKit
import Derived.ProofKit
import Derived.Below
/- Two rows that hold the same are the same, by the reference. Condition: numbers of tags and fields. -/
namespace Go.Proofs.YtagiddbfhlokcaaGreatDoor.Ser
open Go.RowKit Go.Sort
set_option maxRecDepth 100000
theorem sameB_self (name : ByteArray) (n : Nat) (kf vf : Nat → ByteArray) : sameB name name n n kf vf kf vf = true := by
  unfold sameB tagEq
  simp
def InSm (L : List Fd) (a a' fa fa' : Option Addr) (name : ByteArray) (n c c' fc fc' : Nat) (tm : Int) (w : World) (i : Value) (wr : World) : Prop :=
  ∃ k : Nat, k ≤ L.length ∧ i = .int .i64 k ∧ Below w.heap.size w wr ∧ w.heap.size + 1 < wr.heap.size ∧ wr.cell? ⟨w.heap.size, 2, none⟩ = some (.slice fa L.length fc) ∧ wr.cell? ⟨w.heap.size + 1, 2, none⟩ = some (.slice fa' L.length fc')
set_option maxHeartbeats 4000000 in
theorem same13 (name : ByteArray) (a a' fa fa' : Option Addr) (n c c' fc fc' : Nat) (tm : Int) (kf vf : Nat → ByteArray) (L : List Fd) (w : World) (hn : n < 2 ^ 63) (hl : L.length < 2 ^ 62)
    (ht : TagsAt w a n kf vf) (ht' : TagsAt w a' n kf vf) (hf : FieldsAt w fa L) (hf' : FieldsAt w fa' L) :
    Calls Tryz.prog 13 #[.agg #[.string name, .slice a n c, .slice fa L.length fc, .int .i64 tm], .agg #[.string name, .slice a' n c', .slice fa' L.length fc', .int .i64 tm]] w (Answer (.bool true) w) := by
  have hbb : Below w.heap.size w ((w.alloc (.cells #[.string name, .slice a n c, .slice fa L.length fc, .int .i64 tm] 27)).alloc (.cells #[.string name, .slice a' n c', .slice fa' L.length fc', .int .i64 tm] 27)) := (((Below.refl _ _).alloc (Nat.le_refl _) _).alloc (by simp) _)
  have HF := Lib.hid hf
  have HF' := Lib.hid hf'
  have HBB := Lib.hid hbb
  obtain ⟨nl, hnl⟩ : ∃ m, L.length = m := ⟨_, rfl⟩
  have M32 := Lib.hid (fun w2 (h : Below w.heap.size w w2) => same name name a a' n n c c' kf vf kf vf w2 hn (fun i hi => by
    obtain ⟨b, off, h1, h2, h3, h4⟩ := ht i hi
    exact ⟨b, off, h1, Nat.lt_of_lt_of_le h2 h.size, by rw [← h3]; exact h.cell h2, by rw [← h4]; exact h.cell h2⟩) (fun i hi => by
    obtain ⟨b, off, h1, h2, h3, h4⟩ := ht' i hi
    exact ⟨b, off, h1, Nat.lt_of_lt_of_le h2 h.size, by rw [← h3]; exact h.cell h2, by rw [← h4]; exact h.cell h2⟩))
  rw [sameB_self] at M32
  have hl2 : nl < 2 ^ 62 := by omega
  rw [hnl] at HBB ⊢
  have HNL := Lib.hid hnl
  clear hbb ht ht' hf hf' hnl hl
  go_enter Tryz.func13, Tryz.ntmps13
  go_upto_region 1 with (fail)
  refine wp_gen (fun wx => Below w.heap.size w wx ∧ wx.heap[w.heap.size]? = some (.cells #[.string name, .slice a n c, .slice fa nl fc, .int .i64 tm] 27 (0, 0)) ∧ wx.heap[w.heap.size + 1]? = some (.cells #[.string name, .slice a' n c', .slice fa' nl fc', .int .i64 tm] 27 (0, 0))) ⟨HBB.out, ?_, ?_⟩ ?_
  · exact (Below.heap_alloc _ _ _ (by simp)).trans (newest _ _)
  · have := newest (w.alloc (.cells #[.string name, .slice a n c, .slice fa nl fc, .int .i64 tm] 27)) (.cells #[.string name, .slice a' n c', .slice fa' nl fc', .int .i64 tm] 27 (0, 0))
    rw [show (w.alloc (.cells #[.string name, .slice a n c, .slice fa nl fc, .int .i64 tm] 27)).heap.size = w.heap.size + 1 by simp] at this
    exact this
  rintro w1 ⟨hb1, hk0, hk1⟩
  have c0 : w1.cell? ⟨w.heap.size, 0, none⟩ = some (.string name) := Lib.cell_of_heap hk0 0
  have c1 : w1.cell? ⟨w.heap.size, 1, none⟩ = some (.slice a n c) := Lib.cell_of_heap hk0 1
  have d0 : w1.cell? ⟨w.heap.size + 1, 0, none⟩ = some (.string name) := Lib.cell_of_heap hk1 0
  have d1 : w1.cell? ⟨w.heap.size + 1, 1, none⟩ = some (.slice a' n c') := Lib.cell_of_heap hk1 1
  have HB1 := Lib.hid hb1
  have HK0 := Lib.hid hk0
  have HK1 := Lib.hid hk1
  clear hb1 hk0 hk1 HBB
  go_wp2_with fail
  refine (M32.out w1 HB1.out).mono ?_
  rintro e w2 ⟨rfl, hb2⟩
  have hk0 := (hb2.block _ (lt_of_block HK0.out)).trans HK0.out
  have hk1 := (hb2.block _ (lt_of_block HK1.out)).trans HK1.out
  have c2 : w2.cell? ⟨w.heap.size, 2, none⟩ = some (.slice fa nl fc) := Lib.cell_of_heap hk0 2
  have c3 : w2.cell? ⟨w.heap.size, 3, none⟩ = some (.int .i64 tm) := Lib.cell_of_heap hk0 3
  have d2 : w2.cell? ⟨w.heap.size + 1, 2, none⟩ = some (.slice fa' nl fc') := Lib.cell_of_heap hk1 2
  have d3 : w2.cell? ⟨w.heap.size + 1, 3, none⟩ = some (.int .i64 tm) := Lib.cell_of_heap hk1 3
  have HB2 := Lib.hid (HB1.out.trans (hb2.mono HB1.out.size))
  have HS2 := Lib.hid (lt_of_block hk1)
  clear hb2 hk0 hk1 c0 c1 d0 d1
  go_wp2_with fail
  have HC2 := Lib.hid c2
  have HD2 := Lib.hid d2
  clear c2 c3 d2 d3
  go_loopw [31] (fun i wx => InSm L a a' fa fa' name n c c' fc fc' tm w i wx) (fun i _ => nl - (intOf i).toNat)
  case atStart => exact ⟨0, Nat.zero_le _, rfl, HB2.out, HS2.out, by rw [HNL.out]; exact HC2.out, by rw [HNL.out]; exact HD2.out⟩
  case round =>
    obtain ⟨k, hk, rfl, hb, hsz, c2, d2⟩ := hrel
    rw [HNL.out] at hk c2 d2
    have HB := Lib.hid hb
    have HSZ := Lib.hid hsz
    by_cases hlt : k < nl
    · obtain ⟨b, off, ha, hbw, e0, e1, e2, e3⟩ := HF.out k (by rw [HNL.out]; exact hlt)
      obtain ⟨b', off', ha', hbw', e0', e1', e2', e3'⟩ := HF'.out k (by rw [HNL.out]; exact hlt)
      subst ha ha'
      have g0 := (hb.cell (p := ⟨b, off + k * 4, none⟩) hbw).trans e0
      have g1 := (hb.cell (p := ⟨b, off + k * 4 + 1, none⟩) hbw).trans e1
      have g2 := (hb.cell (p := ⟨b, off + k * 4 + 2, none⟩) hbw).trans e2
      have g3 := (hb.cell (p := ⟨b, off + k * 4 + 3, none⟩) hbw).trans e3
      have g0' := (hb.cell (p := ⟨b', off' + k * 4, none⟩) hbw').trans e0'
      have g1' := (hb.cell (p := ⟨b', off' + k * 4 + 1, none⟩) hbw').trans e1'
      have g2' := (hb.cell (p := ⟨b', off' + k * 4 + 2, none⟩) hbw').trans e2'
      have g3' := (hb.cell (p := ⟨b', off' + k * 4 + 3, none⟩) hbw').trans e3'
      obtain ⟨⟨ky, vk, vb, vt⟩, hfe⟩ : ∃ f, fE L k = f := ⟨_, rfl⟩
      rw [hfe] at g0 g1 g2 g3 g0' g1' g2' g3'
      simp only at g0 g1 g2 g3 g0' g1' g2' g3'
      have hkz : (k : Int) < (nl : Int) := by omega
      have HLT := Lib.hid hlt
      have HC := Lib.hid c2
      have HD := Lib.hid d2
      clear hb hbw hbw' e0 e1 e2 e3 e0' e1' e2' e3' hfe hk hsz
      go_wp2_with fail
      go_quiet (fail)
      go_wp2_with fail
      refine ⟨⟨k + 1, by rw [HNL.out]; exact HLT.out, by go_num, below_drewN HB.out _, HSZ.out, by rw [HNL.out]; exact HC.out, by rw [HNL.out]; exact HD.out⟩, ?_⟩
      simp [intOf]; omega
    · have hkz : ¬ (k : Int) < (nl : Int) := by omega
      clear hb hlt hk hsz
      go_wp2_with fail
      go_ret
      exact ⟨rfl, HB.out⟩
end Go.Proofs.YtagiddbfhlokcaaGreatDoor.Ser
/- A world that holds what the row lists: the row's witness; the cells of the two tables of powers out of the row's condition. No condition. -/
namespace Go.Proofs.YtagiddbfhlokcaaGreatDoor.Laid
def lst : List (String × DataW Unit) := Rows.valueParsesRow.laid
set_option maxRecDepth 100000 in
theorem fits (os : Os) : (World.holding Tryz.prog os ⟨#[], #[], []⟩).layFits Tryz.prog lst [] = true := by kernel_rfl
set_option maxRecDepth 100000 in
theorem ifaces (os : Os) : (World.holding Tryz.prog os ⟨#[], #[], []⟩).layIfaces Tryz.prog lst (World.laidAll Tryz.prog os lst) = true := by kernel_rfl
set_option maxRecDepth 100000 in
theorem plain : (lst.all fun x => x.2.handleName?.isNone) = true := by kernel_rfl
theorem met (os : Os) (args : Array Value) : laidMetH Tryz.prog lst ((World.laidAll Tryz.prog os lst).forCall (fun _ _ => 0) ⟨#[], args, []⟩).memory := by
  rw [MakeChecks.laidMetH_plain _ _ _ plain]
  exact laidMet_laidAll _ (fits os) (ifaces os)
set_option maxRecDepth 100000 in
theorem zipB (os : Os) (args : Array Value) : ((World.laidAll Tryz.prog os lst).forCall (fun _ _ => 0) ⟨#[], args, []⟩).variablesZipB Tryz.prog = true := by kernel_rfl
set_option maxRecDepth 100000 in
theorem dropB (os : Os) (args : Array Value) : (((World.laidAll Tryz.prog os lst).forCall (fun _ _ => 0) ⟨#[], args, []⟩).heap.toList.drop Tryz.prog.globals.size).take ((begin Tryz.prog (fun _ _ => 0) default).world.heap.size - Tryz.prog.globals.size) =
      (begin Tryz.prog (fun _ _ => 0) default).world.heap.toList.drop Tryz.prog.globals.size := by kernel_rfl
theorem shaped (os : Os) (args : Array Value) : ((World.laidAll Tryz.prog os lst).forCall (fun _ _ => 0) ⟨#[], args, []⟩).Shaped Tryz.prog := World.shaped_of_ZipB (zipB os args) (dropB os args)
end Go.Proofs.YtagiddbfhlokcaaGreatDoor.Laid
/- The tables of strconv out of the row's condition: cells. No condition. -/
namespace Go.Proofs.YtagiddbfhlokcaaGreatDoor
open Go.RowKit Go.WideShapes Go.ChangeShapes Go.Deep
set_option maxRecDepth 100000
theorem slice_cells {W : World} {t e : TypeId} {c fuel : Nat} {cs : List Value} {xs : List (DataW Unit)} {p : List MemPlace} (ht : Tryz.prog.underlying t = some (.slice e)) (hc : Tryz.prog.cellsOf e = c) (hc0 : 0 < c) (hx : xs ≠ [])
    (h : DataW.trod (fun _ => ()) Tryz.prog W 0 (fun _ => true) false fuel t cs = some (.slice xs [], p)) :
    ∃ (B o n : Nat), cs = [.slice (some ⟨B, o, none⟩) xs.length xs.length] ∧ ∀ i (hi : i < xs.length), ∃ cs' p', (List.range c).mapM (fun j => W.cell? ⟨B, o + i * c + j, none⟩) = some cs' ∧ DataW.trod (fun _ => ()) Tryz.prog W 0 (fun _ => true) false n e cs' = some (xs[i], p') := by
  rcases DataW.trod_slice ht h with ⟨_, hh⟩ | ⟨a, len, cap, elems, rest, n, _, rfl, hh, _, hle, _, hel, hf, hsp, _⟩
  · cases hh
  · simp only [Prod.mk.injEq, DataW.slice.injEq] at hh
    obtain ⟨⟨h1, h2⟩, _⟩ := hh
    have hr : rest = [] := by
      cases rest with
      | nil => rfl
      | cons a b => cases h2
    have hrl := (hsp rfl).1
    rw [hr] at hrl
    have hcap : cap = len := by simp at hrl; omega
    have hlen : xs.length = len := by rw [h1, List.length_map]; exact hel
    have key : ∀ i (hi : i < xs.length), ∃ cs' p', (List.range c).mapM (fun j => W.cell? ((a.add (i * c)).add j)) = some cs' ∧ DataW.trod (fun _ => ()) Tryz.prog W 0 (fun _ => true) false n e cs' = some (xs[i], p') := by
      intro i hi
      have h3 := hf i (by omega)
      rw [hc] at h3
      have hel2 : elems[i]? = some (elems[i]'(by omega)) := List.getElem?_eq_getElem (by omega)
      rw [hel2, Option.bind_eq_some_iff] at h3
      obtain ⟨cs', h4, h5⟩ := h3
      unfold World.cells? at h4
      rw [if_pos (Nat.zero_le _)] at h4
      refine ⟨cs', (elems[i]'(by omega)).2, h4, ?_⟩
      rw [h5]
      congr 1
      have : xs[i] = (elems[i]'(by omega)).1 := by simp [h1]
      rw [this]
    have hsp2 : a.spot = none := by
      obtain ⟨cs', p', h4, _⟩ := key 0 (List.length_pos_iff.2 hx)
      have h6 : ∃ v, W.cell? ((a.add (0 * c)).add 0) = some v := by
        obtain ⟨c', rfl⟩ : ∃ c', c = c' + 1 := ⟨c - 1, by omega⟩
        rw [List.range_succ_eq_map] at h4
        simp only [List.mapM_cons, Option.bind_eq_bind, Option.bind_eq_some_iff] at h4
        obtain ⟨v, hv, _⟩ := h4
        exact ⟨v, hv⟩
      obtain ⟨v, hv⟩ := h6
      rw [Nat.zero_mul] at hv
      exact World.cell?_spot (by simpa [Addr.add] using hv)
    obtain ⟨B, o, sp⟩ := a
    simp only at hsp2
    subst hsp2
    refine ⟨B, o, n, by rw [hlen, hcap], fun i hi => ?_⟩
    obtain ⟨cs', p', h4, h5⟩ := key i hi
    refine ⟨cs', p', ?_, h5⟩
    rw [← h4]
    congr 1
    funext j
    rw [Addr.add_lit, Addr.add_lit]
theorem trod_float {W : World} {t : TypeId} {k : FloatKind} {fuel : Nat} {cs : List Value} {x : DataW Unit × List MemPlace} (ht : Tryz.prog.underlying t = some (.float k)) (h : DataW.trod (fun _ => ()) Tryz.prog W 0 (fun _ => true) false fuel t cs = some x) : ∃ b, cs = [.float k b] ∧ x.1 = .lit (.float k b) := by
  cases fuel with
  | zero => simp [DataW.trod] at h
  | succ n =>
    unfold DataW.trod at h
    rw [ht] at h
    split at h <;> simp_all
    obtain ⟨_, rfl⟩ := h
    rfl
theorem one_of {W : World} {B o : Nat} {cs : List Value} {v : Value} (h : (List.range 1).mapM (fun j => W.cell? ⟨B, o + j, none⟩) = some cs) (hv : cs = [v]) : W.cell? ⟨B, o, none⟩ = some v := by
  subst hv
  simp [List.range_succ_eq_map] at h
  cases hh : W.cell? ⟨B, o, none⟩ with
  | none => rw [hh] at h; cases h
  | some u => rw [hh] at h; simpa using h
theorem two_of {W : World} {B o : Nat} {cs : List Value} {u v : Value} (h : (List.range 2).mapM (fun j => W.cell? ⟨B, o + j, none⟩) = some cs) (hv : cs = [u, v]) : W.cell? ⟨B, o, none⟩ = some u ∧ W.cell? ⟨B, o + 1, none⟩ = some v := by
  subst hv
  simp [List.range_succ_eq_map] at h
  cases hh : W.cell? ⟨B, o, none⟩ with
  | none => rw [hh] at h; cases h
  | some a =>
    cases h2 : W.cell? ⟨B, o + 1, none⟩ with
    | none => rw [hh, h2] at h; cases h
    | some b => rw [hh, h2] at h; simpa using h
/-- Whole numbers in a slice. -/
theorem ints_of {W : World} {t : TypeId} {fuel : Nat} {cs : List Value} {zs : List Int} {p : List MemPlace} (ht : Tryz.prog.underlying t = some (.slice 3)) (hx : zs ≠ [])
    (h : DataW.trod (fun _ => ()) Tryz.prog W 0 (fun _ => true) false fuel t cs = some (.slice (zs.map fun z => .lit (.int .i64 z)) [], p)) :
    ∃ (B o : Nat), cs = [.slice (some ⟨B, o, none⟩) zs.length zs.length] ∧ ∀ i (hi : i < zs.length), W.cell? ⟨B, o + i, none⟩ = some (.int .i64 zs[i]) := by
  obtain ⟨B, o, n, hcs, hf⟩ := slice_cells ht (by kernel_rfl : Tryz.prog.cellsOf 3 = 1) (by omega) (by simpa using hx) h
  refine ⟨B, o, by rw [hcs, List.length_map], fun i hi => ?_⟩
  obtain ⟨cs', p', h1, h2⟩ := hf i (by rw [List.length_map]; exact hi)
  obtain ⟨m, h3, h4, _⟩ := DataW.trod_int Tryz.underlying3 h2
  rw [Nat.mul_one] at h1
  have h5 := one_of h1 h3
  simp at h4
  rw [h5, h4.1]
/-- Floats in a slice. -/
theorem floats_of {W : World} {t : TypeId} {fuel : Nat} {cs : List Value} {zs : List Nat} {p : List MemPlace} (ht : Tryz.prog.underlying t = some (.slice 99)) (hx : zs ≠ [])
    (h : DataW.trod (fun _ => ()) Tryz.prog W 0 (fun _ => true) false fuel t cs = some (.slice (zs.map fun z => .lit (.float .f64 z)) [], p)) :
    ∃ (B o : Nat), cs = [.slice (some ⟨B, o, none⟩) zs.length zs.length] ∧ ∀ i (hi : i < zs.length), W.cell? ⟨B, o + i, none⟩ = some (.float .f64 zs[i]) := by
  obtain ⟨B, o, n, hcs, hf⟩ := slice_cells ht (by kernel_rfl : Tryz.prog.cellsOf 99 = 1) (by omega) (by simpa using hx) h
  refine ⟨B, o, by rw [hcs, List.length_map], fun i hi => ?_⟩
  obtain ⟨cs', p', h1, h2⟩ := hf i (by rw [List.length_map]; exact hi)
  obtain ⟨m, h3, h4⟩ := trod_float Tryz.underlying99 h2
  rw [Nat.mul_one] at h1
  have h5 := one_of h1 h3
  simp at h4
  rw [h5, h4]
/-- Pairs of a number and a text, in a slice. -/
theorem cheats_of {W : World} {fuel : Nat} {cs : List Value} {zs : List (Nat × List UInt8)} {p : List MemPlace} (hx : zs ≠ [])
    (h : DataW.trod (fun _ => ()) Tryz.prog W 0 (fun _ => true) false fuel 343 cs = some (.slice (zs.map fun x => .agg [.lit (.int .i64 x.1), .lit (.string x.2)]) [], p)) :
    ∃ (B o : Nat), cs = [.slice (some ⟨B, o, none⟩) zs.length zs.length] ∧ ∀ i (hi : i < zs.length), W.cell? ⟨B, o + i * 2, none⟩ = some (.int .i64 zs[i].1) ∧ W.cell? ⟨B, o + i * 2 + 1, none⟩ = some (.string ⟨zs[i].2.toArray⟩) := by
  obtain ⟨B, o, n, hcs, hf⟩ := slice_cells Tryz.underlying343 (by kernel_rfl : Tryz.prog.cellsOf 342 = 2) (by omega) (by simpa using hx) h
  refine ⟨B, o, by rw [hcs, List.length_map], fun i hi => ?_⟩
  obtain ⟨cs', p', h1, h2⟩ := hf i (by rw [List.length_map]; exact hi)
  obtain ⟨y0, y1, k, h3, hl, e0, e1⟩ := trod_struct2 Tryz.underlying342 h2
  have c3 : Tryz.prog.cellsOf 3 = 1 := by kernel_rfl
  have c9 : Tryz.prog.cellsOf 9 = 1 := by kernel_rfl
  simp only [c3, c9] at e0 e1
  obtain ⟨a, g0, rfl, _⟩ := DataW.trod_int Tryz.underlying3 e0
  obtain ⟨s, g1, rfl, _⟩ := DataW.trod_string Tryz.underlying9 e1
  simp at h3
  obtain ⟨⟨h4, h5⟩, _⟩ := h3
  have hcs2 : cs' = [.int .i64 a, .string s] := by
    rw [show Tryz.prog.cellsOf 342 = 2 by kernel_rfl] at hl
    match cs', hl with
    | [u, v], _ => simp at g0 g1; rw [g0, g1]
  obtain ⟨h6, h7⟩ := two_of h1 hcs2
  refine ⟨by rw [h6, h4], ?_⟩
  rw [h7]
  congr 2
  rw [h5]
  
theorem laid_head {n : String} {d : DataW Unit} {r : List (String × DataW Unit)} {W : World} {g : Nat} {t : TypeId} (h : laidMet Tryz.prog ((n, d) :: r) W) (hg : Tryz.prog.globalNamed n = some g) (ht : (Tryz.prog.globals[g]?).map (·.type) = some t) :
    ∃ (cs : List Value) (fuel : Nat) (p : List MemPlace), DataW.trod (fun _ => ()) Tryz.prog W 0 (fun _ => true) false fuel t cs = some (d, p) ∧ ∀ i, W.cell? ⟨g, i, none⟩ = cs[i]? := by
  obtain ⟨ps, ⟨g', t', cs, fuel, p, q, hg', ht', hvar, hd, _, _⟩, _⟩ := h
  obtain rfl := Option.some.inj (hg.symm.trans hg')
  obtain rfl := Option.some.inj (ht.symm.trans ht')
  refine ⟨cs.toList, fuel, p, hd, fun i => ?_⟩
  rw [World.var?_cell hg hvar i]
  simp
theorem lst_met {W : World} (h : laidMetH Tryz.prog Laid.lst W) : laidMet Tryz.prog Laid.lst W := by
  rw [MakeChecks.laidMetH_plain _ _ _ Laid.plain] at h
  exact h
theorem drop_met {W : World} (k : Nat) (hk : k ≤ 14) (h : laidMet Tryz.prog Laid.lst W) : laidMet Tryz.prog (Laid.lst.drop k) W := by
  match k, hk with
  | 0, _ => exact h
  | 1, _ => exact h.tail
  | 2, _ => exact h.tail.tail
  | 3, _ => exact h.tail.tail.tail
  | 4, _ => exact h.tail.tail.tail.tail
  | 5, _ => exact h.tail.tail.tail.tail.tail
  | 6, _ => exact h.tail.tail.tail.tail.tail.tail
  | 7, _ => exact h.tail.tail.tail.tail.tail.tail.tail
  | 8, _ => exact h.tail.tail.tail.tail.tail.tail.tail.tail
  | 9, _ => exact h.tail.tail.tail.tail.tail.tail.tail.tail.tail
  | 10, _ => exact h.tail.tail.tail.tail.tail.tail.tail.tail.tail.tail
  | 11, _ => exact h.tail.tail.tail.tail.tail.tail.tail.tail.tail.tail.tail
  | 12, _ => exact h.tail.tail.tail.tail.tail.tail.tail.tail.tail.tail.tail.tail
  | 13, _ => exact h.tail.tail.tail.tail.tail.tail.tail.tail.tail.tail.tail.tail.tail
  | 14, _ => exact h.tail.tail.tail.tail.tail.tail.tail.tail.tail.tail.tail.tail.tail.tail
theorem info_of {W : World} (h : laidMet Tryz.prog Laid.lst W) : W.cell? ⟨7, 0, none⟩ = some (.int .u64 52) ∧ W.cell? ⟨7, 1, none⟩ = some (.int .u64 11) ∧ W.cell? ⟨7, 2, none⟩ = some (.int .i64 (-1023)) := by
  have h3 := drop_met 3 (by omega) h
  obtain ⟨cs, fuel, p, hd, hc⟩ := laid_head (n := "internal/strconv.float64info") (d := Rows.laid_internal_strconv_float64info) (r := Laid.lst.drop 4) (g := 7) (t := 258) h3 (by kernel_rfl) (by kernel_rfl)
  obtain ⟨y0, y1, y2, k, hx, hl, e0, e1, e2⟩ := trod_struct3 Tryz.underlying258 hd
  rw [show Tryz.prog.cellsOf 258 = 3 by kernel_rfl] at hl
  obtain ⟨a, b, c, rfl⟩ : ∃ a b c, cs = [a, b, c] := by
    match cs, hl with
    | [a, b, c], _ => exact ⟨a, b, c, rfl⟩
  have c60 : Tryz.prog.cellsOf 60 = 1 := by kernel_rfl
  have c3 : Tryz.prog.cellsOf 3 = 1 := by kernel_rfl
  simp only [c60, c3] at e0 e1 e2
  obtain ⟨n0, g0, rfl, _⟩ := DataW.trod_int Tryz.underlying60 e0
  obtain ⟨n1, g1, rfl, _⟩ := DataW.trod_int Tryz.underlying60 e1
  obtain ⟨n2, g2, rfl, _⟩ := DataW.trod_int Tryz.underlying3 e2
  simp [Rows.laid_internal_strconv_float64info] at hx
  simp at g0 g1 g2
  obtain ⟨⟨rfl, rfl, rfl⟩, _⟩ := hx
  refine ⟨by rw [hc 0]; simp [g0], by rw [hc 1]; simp [g1], by rw [hc 2]; simp [g2]⟩
theorem op_of {W : World} (h : laidMet Tryz.prog Laid.lst W) : W.cell? ⟨6, 0, none⟩ = some (.bool true) := by
  have h3 := drop_met 4 (by omega) h
  obtain ⟨cs, fuel, p, hd, hc⟩ := laid_head (n := "internal/strconv.optimize") (d := Rows.laid_internal_strconv_optimize) (r := Laid.lst.drop 5) (g := 6) (t := 4) h3 (by kernel_rfl) (by kernel_rfl)
  obtain ⟨b, rfl, hx⟩ := DataW.trod_bool Tryz.underlying4 hd
  simp [Rows.laid_internal_strconv_optimize] at hx
  rw [hc 0, ← hx.1]
  rfl
def ptL : List Int := [1, 3, 6, 9, 13, 16, 19, 23, 26]
theorem pt_of {W : World} (h : laidMet Tryz.prog Laid.lst W) : ∃ B o, W.cell? ⟨11, 0, none⟩ = some (.slice (some ⟨B, o, none⟩) 9 9) ∧ ∀ i (hi : i < 9), W.cell? ⟨B, o + i, none⟩ = some (.int .i64 (ptL[i]'hi)) := by
  have h3 := drop_met 5 (by omega) h
  obtain ⟨cs, fuel, p, hd, hc⟩ := laid_head (n := "internal/strconv.powtab") (d := Rows.laid_internal_strconv_powtab) (r := Laid.lst.drop 6) (g := 11) (t := 45) h3 (by kernel_rfl) (by kernel_rfl)
  have e : (Rows.laid_internal_strconv_powtab : DataW Unit) = .slice (ptL.map fun z => .lit (.int .i64 z)) [] := by kernel_rfl
  rw [e] at hd
  obtain ⟨B, o, rfl, hf⟩ := ints_of Tryz.underlying45 (by decide) hd
  exact ⟨B, o, by rw [hc 0]; rfl, fun i hi => hf i hi⟩
def flL : List Nat := [4607182418800017408, 4621819117588971520, 4636737291354636288, 4652007308841189376, 4666723172467343360, 4681608360884174848, 4696837146684686336, 4711630319722168320, 4726483295884279808, 4741671816366391296, 4756540486875873280, 4771362005757984768, 4786511204640096256, 4801453603149578240, 4816244402031689728, 4831355200913801216, 4846369599423283200, 4861130398305394688, 4876203697187506176, 4891288408196988160, 4906019910204099648, 4921056587992461136, 4936209963552724370]
theorem fl_of {W : World} (h : laidMet Tryz.prog Laid.lst W) : ∃ B o, W.cell? ⟨12, 0, none⟩ = some (.slice (some ⟨B, o, none⟩) 23 23) ∧ ∀ i (hi : i < 23), W.cell? ⟨B, o + i, none⟩ = some (.float .f64 (flL[i]'hi)) := by
  have h3 := drop_met 6 (by omega) h
  obtain ⟨cs, fuel, p, hd, hc⟩ := laid_head (n := "internal/strconv.float64pow10") (d := Rows.laid_internal_strconv_float64pow10) (r := Laid.lst.drop 7) (g := 12) (t := 313) h3 (by kernel_rfl) (by kernel_rfl)
  have e : (Rows.laid_internal_strconv_float64pow10 : DataW Unit) = .slice (flL.map fun z => .lit (.float .f64 z)) [] := by kernel_rfl
  rw [e] at hd
  obtain ⟨B, o, rfl, hf⟩ := floats_of Tryz.underlying313 (by decide) hd
  exact ⟨B, o, by rw [hc 0]; rfl, fun i hi => hf i hi⟩
theorem ch_of {W : World} (h : laidMet Tryz.prog Laid.lst W) : ∃ B o, W.cell? ⟨16, 0, none⟩ = some (.slice (some ⟨B, o, none⟩) 61 61) ∧ ∀ i (hi : i < Pinned.cheatRows.length), W.cell? ⟨B, o + i * 2, none⟩ = some (.int .i64 (Pinned.cheatRows[i]'hi).1) ∧ W.cell? ⟨B, o + i * 2 + 1, none⟩ = some (.string ⟨(Pinned.cheatRows[i]'hi).2.toArray⟩) := by
  have h3 := drop_met 12 (by omega) h
  obtain ⟨cs, fuel, p, hd, hc⟩ := laid_head (n := "internal/strconv.leftcheats") (d := Rows.laid_internal_strconv_leftcheats) (r := Laid.lst.drop 13) (g := 16) (t := 343) h3 (by kernel_rfl) (by kernel_rfl)
  have hd2 : DataW.trod (fun _ => ()) Tryz.prog W 0 (fun _ => true) false fuel 343 cs = some (.slice (Pinned.cheatRows.map fun x => .agg [.lit (.int .i64 x.1), .lit (.string x.2)]) [], p) := hd
  obtain ⟨B, o, rfl, hf⟩ := cheats_of (by decide) hd2
  exact ⟨B, o, by rw [hc 0]; rfl, hf⟩
theorem er_of {W : World} (h : laidMet Tryz.prog Laid.lst W) : ∃ tp p, W.cell? ⟨3, 0, none⟩ = some (.iface tp p) := by
  have h3 := drop_met 10 (by omega) h
  obtain ⟨cs, fuel, p, hd, hc⟩ := laid_head (n := "strconv.ErrRange") (d := Rows.laid_strconv_ErrRange) (r := Laid.lst.drop 11) (g := 3) (t := 104) h3 (by kernel_rfl) (by kernel_rfl)
  cases fuel with
  | zero => simp [DataW.trod] at hd
  | succ n =>
    unfold DataW.trod at hd
    rw [Tryz.underlying104] at hd
    split at hd
    all_goals first
      | (cases hd; done)
      | skip
    all_goals simp_all
    all_goals done
theorem pow_of {W : World} (h : laidMet Tryz.prog Laid.lst W) : ∀ k (hk : k < Pinned.pow10Rows.length), W.cell? ⟨15, k * 2, none⟩ = some (.int .u64 (Pinned.pow10Rows[k]'hk).1) ∧ W.cell? ⟨15, k * 2 + 1, none⟩ = some (.int .u64 (Pinned.pow10Rows[k]'hk).2) := by
  have h3 := drop_met 13 (by omega) h
  obtain ⟨cs, fuel, p, hd, hc⟩ := laid_head (n := "internal/strconv.pow10Tab") (d := Rows.laid_internal_strconv_pow10Tab) (r := Laid.lst.drop 14) (g := 15) (t := 337) h3 (by kernel_rfl) (by kernel_rfl)
  obtain ⟨xs, m, _, hx, hl, hn, hf⟩ := DataW.trod_array Tryz.underlying337 hd
  have c336 : Tryz.prog.cellsOf 336 = 2 := by kernel_rfl
  have c51 : Tryz.prog.cellsOf 51 = 1 := by kernel_rfl
  have h1 : (Pinned.pow10Rows.map fun x => (DataW.agg [.lit (.int .u64 x.1), .lit (.int .u64 x.2)] : DataW Unit)) = xs.map (·.1) := by
    have := congrArg Prod.fst hx
    unfold Rows.laid_internal_strconv_pow10Tab at this
    simp only [Pinned.pow10Tab, DataW.agg.injEq] at this
    exact this
  have hlen : Pinned.pow10Rows.length = xs.length := by have := congrArg List.length h1; simpa using this
  intro k hk
  have h2 : xs[k]? = some (xs[k]'(by omega)) := List.getElem?_eq_getElem (by omega)
  have h4 : (xs[k]'(by omega)).1 = .agg [.lit (.int .u64 (Pinned.pow10Rows[k]'hk).1), .lit (.int .u64 (Pinned.pow10Rows[k]'hk).2)] := by
    have := congrArg (·[k]?) h1
    simp only [List.getElem?_map, List.getElem?_eq_getElem hk, h2, Option.map_some] at this
    exact (Option.some.inj this).symm
  have h5 := hf k (by omega)
  rw [h2, c336] at h5
  cases m with
  | zero => simp [DataW.trod] at h5
  | succ m =>
    obtain ⟨y0, y1, q, h6, _, e0, e1⟩ := trod_struct2 Tryz.underlying336 h5
    simp only [c51] at e0 e1
    obtain ⟨a, g0, rfl, _⟩ := DataW.trod_int Tryz.underlying51 e0
    obtain ⟨b, g1, rfl, _⟩ := DataW.trod_int Tryz.underlying51 e1
    rw [h6] at h4
    simp only [DataW.agg.injEq, List.cons.injEq, DataW.lit.injEq, Lit.int.injEq, true_and, and_true] at h4
    obtain ⟨rfl, rfl⟩ := h4
    constructor
    · have := congrArg (·[0]?) g0
      rw [hc (k * 2)]
      simpa [List.getElem?_take, List.getElem?_drop] using this
    · have := congrArg (·[0]?) g1
      rw [hc (k * 2 + 1)]
      simpa [List.getElem?_take, List.getElem?_drop] using this
end Go.Proofs.YtagiddbfhlokcaaGreatDoor
/- Of, Formed and Print at 1.5, and awake. Conditions: the cells of the two tables of powers. -/
namespace Go.Proofs.YtagiddbfhlokcaaGreatDoor.One
open Go.RowKit Go.Sort
set_option maxRecDepth 100000
end Go.Proofs.YtagiddbfhlokcaaGreatDoor.One
/- Formed and Print at 1.5, and awake. Conditions: the cells of the two tables of powers. -/
namespace Go.Proofs.YtagiddbfhlokcaaGreatDoor.One
open Go.RowKit Go.Sort
set_option maxRecDepth 100000
end Go.Proofs.YtagiddbfhlokcaaGreatDoor.One
/- Print at 1.5, and awake. Conditions: the cells of the two tables of powers. -/
namespace Go.Proofs.YtagiddbfhlokcaaGreatDoor.One
open Go.RowKit Go.Sort
set_option maxRecDepth 100000
end Go.Proofs.YtagiddbfhlokcaaGreatDoor.One
/- The walks' environment out of the row's condition. No condition. -/
namespace Go.Proofs.YtagiddbfhlokcaaGreatDoor
open Go.RowKit
set_option maxRecDepth 100000
def TT (k : Nat) : Nat × Nat := Pinned.pow10Rows.getD k (0, 0)
def FF (k : Nat) : Nat := flL.getD k 0
def SS (k : Nat) : ByteArray := ⟨(Pinned.cheatRows.getD k (0, [])).2.toArray⟩
theorem tt_lt : TabLt TT := by
  have key : (Pinned.pow10Rows.all fun x => decide (x.1 < 18446744073709551616) && decide (x.2 < 18446744073709551616)) = true := by decide +kernel
  intro k
  unfold TT
  by_cases h : k < Pinned.pow10Rows.length
  · rw [List.getD_eq_getElem?_getD, List.getElem?_eq_getElem h]
    have := List.all_eq_true.1 key _ (List.getElem_mem h)
    simpa using this
  · rw [List.getD_eq_getElem?_getD, List.getElem?_eq_none (by omega)]
    simp
theorem ff_ok : PF.TabOk FF := by
  have key : ∀ k : Fin 23, PF.Low (FF k.val) 1096 ∧ PF.High (FF k.val) 1023 ∧ FF k.val < 9223372036854775808 := by
    unfold PF.Low PF.High
    decide +kernel
  intro k hk
  exact key ⟨k, by omega⟩
theorem penv_of {W : World} (h : laidMet Tryz.prog Laid.lst W) : ∃ B2 o2 B o, PEnv TT FF B2 o2 B o SS W := by
  obtain ⟨i0, i1, i2⟩ := info_of h
  obtain ⟨B2, o2, p0, p1⟩ := pt_of h
  obtain ⟨g, og, f0, f1⟩ := fl_of h
  obtain ⟨B, o, c0, c1⟩ := ch_of h
  have hpow := pow_of h
  have hl : Pinned.pow10Rows.length = 696 := by decide +kernel
  have hcl : Pinned.cheatRows.length = 61 := by decide +kernel
  refine ⟨B2, o2, B, o, ⟨⟨fun k hk => ?_, fun k hk => ?_⟩, tt_lt, ⟨i0, ff_ok, g, og, f0, fun k hk => ?_⟩, ⟨i0, i1, i2, p0, fun i hi => ?_, ⟨c0, fun k h1 h2 => ?_, fun k h1 h2 => ⟨?_, ?_⟩⟩⟩, op_of h⟩⟩
  · rw [(hpow k (by omega)).1]
    unfold TT
    rw [List.getD_eq_getElem?_getD, List.getElem?_eq_getElem (by omega)]
    rfl
  · rw [(hpow k (by omega)).2]
    unfold TT
    rw [List.getD_eq_getElem?_getD, List.getElem?_eq_getElem (by omega)]
    rfl
  · rw [f1 k (by omega)]
    unfold FF
    rw [List.getD_eq_getElem?_getD, List.getElem?_eq_getElem (show k < flL.length from by show k < 23; omega)]
    rfl
  · rw [p1 i hi]
    have key : ∀ i : Fin 9, (ptL[i.val]'(i.isLt)) = (PF.powtab i.val : Int) := by decide +kernel
    rw [← key ⟨i, hi⟩]
  · have h3 := (c1 k (by omega)).1
    rw [h3]
    have key : ∀ k : Fin 61, 1 ≤ k.val → (Pinned.cheatRows.getD k.val (0, [])).1 = k.val - PF.cN k.val + 1 := by decide +kernel
    have := key ⟨k, h2⟩ h1
    rw [List.getD_eq_getElem?_getD, List.getElem?_eq_getElem (by omega)] at this
    simp only [Option.getD_some] at this
    rw [this]
  · have h3 := (c1 k (by omega)).2
    rw [h3]
    unfold SS
    rw [List.getD_eq_getElem?_getD, List.getElem?_eq_getElem (by omega)]
    rfl
  · have key : ∀ k : Fin 61, 1 ≤ k.val → (Pinned.cheatRows.getD k.val (0, [])).2.map UInt8.toNat = (PF.dgs (5 ^ k.val)).map (48 + ·) := by decide +kernel
    have h3 := key ⟨k, h2⟩ h1
    simp only at h3
    unfold SS
    obtain ⟨l, hl2⟩ : ∃ l, (Pinned.cheatRows.getD k (0, [])).2 = l := ⟨_, rfl⟩
    obtain ⟨d, hd⟩ : ∃ d, PF.dgs (5 ^ k) = d := ⟨_, rfl⟩
    rw [hl2, hd] at h3
    rw [hl2, hd]
    have hlen : l.length = d.length := by have := congrArg List.length h3; simpa using this
    refine ⟨by rw [← hlen]; simp [ByteArray.size], fun i hi => ?_⟩
    have hi2 : i < l.length := by simpa [ByteArray.size] using hi
    have h4 := congrArg (·[i]?) h3
    simp only [List.getElem?_map, List.getElem?_eq_getElem hi2, List.getElem?_eq_getElem (show i < d.length by omega), Option.map_some] at h4
    have h5 := Option.some.inj h4
    have e1 : (ByteArray.mk l.toArray)[i] = l[i] := by
      show l.toArray[i] = _
      simp
    rw [e1, h5, List.getD_eq_getElem?_getD, List.getElem?_eq_getElem (by omega)]
    rfl
theorem one_env {W : World} (h : laidMet Tryz.prog Laid.lst W) : One.Env W ∧ 15 < W.heap.size := by
  have hl : Pinned.pow10Rows.length = 696 := by decide +kernel
  have h364 := pow_of h 364 (by omega)
  have e : Pinned.pow10Rows[364]'(by omega) = (10240000000000000000, 0) := by
    have : Pinned.pow10Rows[364]? = some (10240000000000000000, 0) := by decide +kernel
    rw [List.getElem?_eq_getElem (by omega)] at this
    exact Option.some.inj this
  rw [e] at h364
  have h8 := drop_met 8 (by omega) h
  have tab_is : (Rows.laid_internal_strconv_uint64pow10 : DataW Unit) = Lib.tabData .u64 Lib.pow10Tab := by kernel_rfl
  have h9 : laidMet Tryz.prog (("internal/strconv.uint64pow10", Lib.tabData .u64 Lib.pow10Tab) :: Laid.lst.drop 9) W := by rw [← tab_is]; exact h8
  have ht := Lib.tabIs_of_head (by kernel_rfl : Tryz.prog.globalNamed "internal/strconv.uint64pow10" = some 1) (by kernel_rfl : (Tryz.prog.globals[1]?).map (·.type) = some 201) Tryz.underlying201 Tryz.underlying51 (by kernel_rfl : Tryz.prog.cellsOf 51 = 1) (by kernel_rfl) h9
  exact ⟨⟨⟨h364.1, h364.2⟩, ht⟩, World.block_lt_of_cell? W _ h364.1⟩
end Go.Proofs.YtagiddbfhlokcaaGreatDoor
/- What one line reads as. No condition. -/
namespace Go.Proofs.YtagiddbfhlokcaaGreatDoor.Ser
open Go.RowKit Go.Sort
set_option maxRecDepth 100000
def V0 : List UInt8 → Value × Int := valP (tabF TT) FF
def l0 : List UInt8 := [99, 112, 117, 44, 104, 111, 115, 116, 61, 97, 32, 118, 61, 49, 46, 53, 44, 110, 61, 51, 105, 32, 49, 48]
def chk (o : LR) : Bool := decide (o.1 = 0) && match o.2 with
  | some (_, _, fs, tm) => decide (tm = 10) && decide (fs.length = 2) && decide ((fE fs 0).1 = ⟨#[110]⟩)
  | none => false
theorem chk0 : chk (lineP V0 0 l0) = true := by decide +kernel
end Go.Proofs.YtagiddbfhlokcaaGreatDoor.Ser
/- The law ValueParses: both readers answer alike. Condition: the text's length, the tables. -/
namespace Go.Proofs.YtagiddbfhlokcaaGreatDoor
open Go.RowKit
set_option maxRecDepth 100000
end Go.Proofs.YtagiddbfhlokcaaGreatDoor
