/- Several texts of this proof, laid together. Conditions: as each says. -/
import Derived.Test.YtagiddbfhlokcaaGreatDoorKAB
import Derived.Lib.SmallJoins
import Derived.Lib.Builder
import Derived.Deep.LoopGhost
import Derived.IntWalk
import Derived.Deep.Cut
import Derived.Deep.CutRange
import Derived.Deep.CutBlock
import Derived.Outline
import Derived.ScopeJumps
import Derived.WalkMore
import Derived.Test.YtagiddbfhlokcaaGreatDoorKAA
/- A decimal's block: 800 places for digits, their number, the place of the point, the sign, the mark of digits cut off. No condition. -/
namespace Go.Dcm
open Go.RowKit
def rowV (f : Nat → Nat) (nd dp : Int) (neg tr : Bool) : Array Value := (Array.ofFn (n := 800) fun i => Value.int .u8 (f i.val : Int)) ++ #[.int .i64 nd, .int .i64 dp, .bool neg, .bool tr]
theorem rowV_size (f : Nat → Nat) (nd dp : Int) (neg tr : Bool) : (rowV f nd dp neg tr).size = 804 := by simp [rowV]
theorem rowV_get (f : Nat → Nat) (nd dp : Int) (neg tr : Bool) (i : Nat) : (rowV f nd dp neg tr)[i]? = if i < 800 then some (.int .u8 (f i : Int)) else #[Value.int .i64 nd, .int .i64 dp, .bool neg, .bool tr][i - 800]? := by
  unfold rowV
  rw [Array.getElem?_append]
  simp only [Array.size_ofFn]
  split
  · rename_i h
    rw [Array.getElem?_ofFn]
    simp [h]
  · rfl
def upd (f : Nat → Nat) (i x : Nat) : Nat → Nat := fun j => if j = i then x else f j
theorem upd_same (f : Nat → Nat) (i x : Nat) : upd f i x i = x := by simp [upd]
theorem upd_ne (f : Nat → Nat) {i j : Nat} (x : Nat) (h : j ≠ i) : upd f i x j = f j := by simp [upd, h]
theorem set_lt (f : Nat → Nat) (nd dp : Int) (neg tr : Bool) {i : Nat} (hi : i < 800) (x : Nat) : (rowV f nd dp neg tr).setIfInBounds i (.int .u8 (x : Int)) = rowV (upd f i x) nd dp neg tr := by
  apply Array.ext_getElem?
  intro j
  rw [Array.getElem?_setIfInBounds, rowV_size, rowV_get, rowV_get]
  by_cases h : i = j
  · subst h
    rw [if_pos rfl, if_pos (by omega), if_pos hi, upd_same]
  · rw [if_neg h]
    by_cases h8 : j < 800
    · rw [if_pos h8, if_pos h8, upd_ne _ _ (by omega)]
    · rw [if_neg h8, if_neg h8]
theorem set_end (f : Nat → Nat) (nd dp : Int) (neg tr : Bool) (k : Nat) (v : Value) : (rowV f nd dp neg tr).setIfInBounds (800 + k) v = (Array.ofFn (n := 800) fun i => Value.int .u8 (f i.val : Int)) ++ (#[Value.int .i64 nd, .int .i64 dp, .bool neg, .bool tr].setIfInBounds k v) := by
  apply Array.ext_getElem?
  intro j
  rw [Array.getElem?_setIfInBounds, rowV_size, rowV_get, Array.getElem?_append]
  simp only [Array.size_ofFn]
  by_cases h : 800 + k = j
  · subst h
    by_cases hk : k < 4
    · rw [if_pos rfl, if_pos (show 800 + k < 804 by omega), if_neg (show ¬800 + k < 800 by omega), Nat.add_sub_cancel_left, Array.getElem?_setIfInBounds, if_pos rfl, if_pos (by simpa using hk)]
    · rw [if_pos rfl, if_neg (show ¬800 + k < 804 by omega), if_neg (show ¬800 + k < 800 by omega), Nat.add_sub_cancel_left, Array.getElem?_setIfInBounds, if_pos rfl, if_neg (by simpa using hk)]
  · rw [if_neg h]
    by_cases h8 : j < 800
    · rw [if_pos h8, if_pos h8, Array.getElem?_ofFn]; simp [h8]
    · rw [if_neg h8, if_neg h8, Array.getElem?_setIfInBounds, if_neg (by omega)]
theorem set_nd (f : Nat → Nat) (nd dp : Int) (neg tr : Bool) (x : Int) : (rowV f nd dp neg tr).setIfInBounds 800 (.int .i64 x) = rowV f x dp neg tr := set_end f nd dp neg tr 0 _
theorem set_dp (f : Nat → Nat) (nd dp : Int) (neg tr : Bool) (x : Int) : (rowV f nd dp neg tr).setIfInBounds 801 (.int .i64 x) = rowV f nd x neg tr := set_end f nd dp neg tr 1 _
theorem set_neg (f : Nat → Nat) (nd dp : Int) (neg tr : Bool) (x : Bool) : (rowV f nd dp neg tr).setIfInBounds 802 (.bool x) = rowV f nd dp x tr := set_end f nd dp neg tr 2 _
theorem set_tr (f : Nat → Nat) (nd dp : Int) (neg tr : Bool) (x : Bool) : (rowV f nd dp neg tr).setIfInBounds 803 (.bool x) = rowV f nd dp neg x := set_end f nd dp neg tr 3 _
/-- Block b holds a decimal's cells; T: its type's number. -/
def DAt (T : TypeId) (w : World) (b : Nat) (f : Nat → Nat) (nd dp : Int) (neg tr : Bool) : Prop := w.heap[b]? = some (.cells (rowV f nd dp neg tr) T (0, 0))
variable {T : TypeId} {w : World} {b : Nat} {f : Nat → Nat} {nd dp : Int} {neg tr : Bool}
theorem DAt.dig (h : DAt T w b f nd dp neg tr) {i : Nat} (hi : i < 800) : w.cell? ⟨b, i, none⟩ = some (.int .u8 (f i : Int)) := by
  rw [Lib.cell_of_heap h, rowV_get, if_pos hi]
theorem DAt.cnd (h : DAt T w b f nd dp neg tr) : w.cell? ⟨b, 800, none⟩ = some (.int .i64 nd) := by rw [Lib.cell_of_heap h, rowV_get]; rfl
theorem DAt.cdp (h : DAt T w b f nd dp neg tr) : w.cell? ⟨b, 801, none⟩ = some (.int .i64 dp) := by rw [Lib.cell_of_heap h, rowV_get]; rfl
theorem DAt.cneg (h : DAt T w b f nd dp neg tr) : w.cell? ⟨b, 802, none⟩ = some (.bool neg) := by rw [Lib.cell_of_heap h, rowV_get]; rfl
theorem DAt.ctr (h : DAt T w b f nd dp neg tr) : w.cell? ⟨b, 803, none⟩ = some (.bool tr) := by rw [Lib.cell_of_heap h, rowV_get]; rfl
theorem DAt.free (h : DAt T w b f nd dp neg tr) (i : Nat) : w.frozen? ⟨b, i, none⟩ = false := Lib.frozen_of_heap h i
theorem DAt.lt (h : DAt T w b f nd dp neg tr) : b < w.heap.size := by
  rcases Nat.lt_or_ge b w.heap.size with h' | h'
  · exact h'
  · unfold DAt at h; rw [Array.getElem?_eq_none h'] at h; cases h
theorem DAt.setDig (h : DAt T w b f nd dp neg tr) {i : Nat} (hi : i < 800) (x : Nat) : DAt T (w.setCell ⟨b, i, none⟩ (.int .u8 (x : Int))) b (upd f i x) nd dp neg tr := by
  have := Joins.block_setCell (i := i) h (.int .u8 (x : Int))
  rw [set_lt _ _ _ _ _ hi] at this
  exact this
theorem DAt.setNd (h : DAt T w b f nd dp neg tr) (x : Int) : DAt T (w.setCell ⟨b, 800, none⟩ (.int .i64 x)) b f x dp neg tr := by
  have := Joins.block_setCell (i := 800) h (.int .i64 x)
  rw [set_nd] at this
  exact this
theorem DAt.setDp (h : DAt T w b f nd dp neg tr) (x : Int) : DAt T (w.setCell ⟨b, 801, none⟩ (.int .i64 x)) b f nd x neg tr := by
  have := Joins.block_setCell (i := 801) h (.int .i64 x)
  rw [set_dp] at this
  exact this
theorem DAt.setNeg (h : DAt T w b f nd dp neg tr) (x : Bool) : DAt T (w.setCell ⟨b, 802, none⟩ (.bool x)) b f nd dp x tr := by
  have := Joins.block_setCell (i := 802) h (.bool x)
  rw [set_neg] at this
  exact this
theorem DAt.setTr (h : DAt T w b f nd dp neg tr) (x : Bool) : DAt T (w.setCell ⟨b, 803, none⟩ (.bool x)) b f nd dp neg x := by
  have := Joins.block_setCell (i := 803) h (.bool x)
  rw [set_tr] at this
  exact this
theorem DAt.drew (h : DAt T w b f nd dp neg tr) (n : Nat) : DAt T (w.drewN n) b f nd dp neg tr := by
  unfold DAt at *
  simpa using h
/-- The first places hold the digits. -/
def Digs (f : Nat → Nat) (ds : List Nat) : Prop := ∀ i, i < ds.length → f i = 48 + ds.getD i 0
theorem Digs.at {f : Nat → Nat} {ds : List Nat} (h : Digs f ds) {i : Nat} (hi : i < ds.length) : f i = 48 + ds[i] := by
  rw [h i hi, List.getD_eq_getElem?_getD, List.getElem?_eq_getElem hi, Option.getD_some]
theorem Digs.take {f : Nat → Nat} {ds : List Nat} (h : Digs f ds) (n : Nat) : Digs f (ds.take n) := by
  intro i hi
  rw [List.length_take] at hi
  rw [h i (by omega), List.getD_eq_getElem?_getD, List.getD_eq_getElem?_getD, List.getElem?_take_of_lt (by omega)]
theorem Digs.snoc {f : Nat → Nat} {ds : List Nat} (h : Digs f ds) (d : Nat) : Digs (upd f ds.length (48 + d)) (ds ++ [d]) := by
  intro i hi
  rw [List.length_append, List.length_singleton] at hi
  rw [List.getD_eq_getElem?_getD]
  by_cases e : i = ds.length
  · subst e
    rw [upd_same, List.getElem?_append_right (Nat.le_refl _)]
    simp
  · rw [upd_ne _ _ e, h i (by omega), List.getD_eq_getElem?_getD, List.getElem?_append_left (by omega)]
end Go.Dcm
/- A decimal's zeros behind its digits cut off. Condition: the decimal's block. -/
namespace Go.Proofs.YtagiddbfhlokcaaGreatDoor
open Go.RowKit Go.Dcm
set_option maxRecDepth 100000
theorem trimL_snoc0 (l : List Nat) : PF.trimL (l ++ [0]) = PF.trimL l := by
  unfold PF.trimL
  rw [List.reverse_append, List.reverse_singleton, List.singleton_append, List.dropWhile_cons]
  rfl
theorem trimL_snoc (l : List Nat) {d : Nat} (h : d ≠ 0) : PF.trimL (l ++ [d]) = l ++ [d] := by
  unfold PF.trimL
  rw [List.reverse_append, List.reverse_singleton, List.singleton_append, List.dropWhile_cons, if_neg (by simp [h])]
  simp
theorem take_snoc {ds : List Nat} {m : Nat} (h : m < ds.length) : ds.take (m + 1) = ds.take m ++ [ds.getD m 0] := by
  rw [List.take_succ_eq_append_getElem h, List.getD_eq_getElem?_getD, List.getElem?_eq_getElem h, Option.getD_some]
/-- What a function leaves of a decimal: its block, and all below it. -/
def DPost (b : Nat) (w : World) (f : Nat → Nat) (nd dp : Int) (neg tr : Bool) (e : Ending) (w' : World) : Prop := e = .returned (.tuple #[]) ∧ DAt 267 w' b f nd dp neg tr ∧ Below b w w'
theorem below_drewN {B : Nat} {a w : World} (h : Below B a w) (n : Nat) : Below B a (w.drewN n) := ⟨h.os, h.tape, h.output, h.size, h.block⟩
theorem trim256 (b : Nat) (f : Nat → Nat) (ds : List Nat) (dp : Int) (neg tr : Bool) (w : World) (hD : DAt 267 w b f ds.length dp neg tr) (hg : Digs f ds) (hl : ds.length ≤ 800) :
    Calls Tryz.prog 256 #[.pointer (some ⟨b, 0, none⟩)] w (DPost b w f (PF.trimL ds).length (if PF.trimL ds = [] then 0 else dp) neg tr) := by
  obtain ⟨dp', hdp⟩ : ∃ x, (if PF.trimL ds = [] then 0 else dp) = x := ⟨_, rfl⟩
  obtain ⟨L, hL⟩ : ∃ x, (PF.trimL ds).length = x := ⟨_, rfl⟩
  rw [hdp, hL]
  have HDP := Lib.hid hdp
  have HL := Lib.hid hL
  have HD := Lib.hid hD
  have HG := Lib.hid hg
  clear hD hg hdp hL
  go_enter Tryz.func256, Tryz.ntmps256
  go_wp2_with fail
  go_loopg [] ds.length (fun k wr => k ≤ ds.length ∧ PF.trimL (ds.take k) = PF.trimL ds ∧ DAt 267 wr b f k dp neg tr ∧ Below b w wr)
  case atStart => exact ⟨Nat.le_refl _, by rw [List.take_length], HD.out, Below.refl _ _⟩
  case round =>
    obtain ⟨hk, ht, hd, hb⟩ := hrel
    have HT := Lib.hid ht
    have HB := Lib.hid hb
    cases gk with
    | zero =>
      have cn := hd.cnd
      have cp := hd.cdp
      have fr := hd.free 801
      obtain rfl : L = 0 := by rw [← HL.out, ← HT.out]; rfl
      obtain rfl : 0 = dp' := by rw [← HDP.out, ← HT.out]; rfl
      have HE := Lib.hid hd
      clear ht hb hd hk
      go_wp2_with fail
      go_quiet (fail)
      go_wp2_with fail
      go_end0
      exact ⟨rfl, (HE.out.drew _).setDp 0, (below_drewN HB.out _).setCell (p := ⟨b, 801, none⟩) (Nat.le_refl _) _⟩
    | succ m =>
      have cn : wr.cell? ⟨b, 800, none⟩ = some (.int .i64 ((m : Int) + 1)) := by simpa using hd.cnd
      have cp := hd.cdp
      have fr := hd.free 800
      have cd := hd.dig (i := m) (by omega)
      obtain ⟨N, hN⟩ : ∃ N : Int, (m : Int) + 1 = N := ⟨_, rfl⟩
      rw [hN] at cn
      have n0 : 0 < N := by omega
      have wn : IntKind.i64.wrap (N - 1) = (m : Int) := by rw [IntWalk.i64_in _ (by omega)]; omega
      have m8 : m < 800 := by omega
      obtain ⟨x, hx⟩ : ∃ x, f m = x := ⟨_, rfl⟩
      rw [hx] at cd
      have hfm := HG.out m (by omega)
      rw [hx] at hfm
      have hts := take_snoc (ds := ds) (m := m) (by omega)
      obtain ⟨d, hdd⟩ : ∃ d, ds.getD m 0 = d := ⟨_, rfl⟩
      rw [hdd] at hfm hts
      have HH := Lib.hid hd
      have HTS := Lib.hid hts
      have hkl : m + 1 ≤ ds.length := hk
      have HK := Lib.hid hkl
      by_cases h0 : d = 0
      · have e48 : ((x : Int) == 48) = true := by rw [beq_iff_eq]; omega
        have H0 := Lib.hid h0
        have HN : Hid ((m : Int) + 1 = N) := Lib.hid hN
        clear ht hb hd hfm hts hk hkl hdd hN hx h0
        go_wp2_with fail
        go_quiet (fail)
        go_wp2_with fail
        go_roundg m
        case measure => omega
        case rel => exact ⟨by have := HK.out; omega, by rw [← HT.out, HTS.out, H0.out, trimL_snoc0], (HH.out.drew _).setNd _, (below_drewN HB.out _).setCell (p := ⟨b, 800, none⟩) (Nat.le_refl _) _⟩
      · have e48 : ((x : Int) == 48) = false := by rw [beq_eq_false_iff_ne]; omega
        have hd2 : PF.trimL ds = ds.take (m + 1) := by rw [← ht, hts, trimL_snoc _ h0]
        have hlen : L = m + 1 := by rw [← HL.out, hd2, List.length_take]; omega
        have hne : PF.trimL ds ≠ [] := by intro e; rw [hd2] at e; have := congrArg List.length e; rw [List.length_take, List.length_nil] at this; omega
        obtain rfl : dp = dp' := by rw [← HDP.out, if_neg hne]
        have HLN := Lib.hid hlen
        have nz : (N == 0) = false := by rw [beq_eq_false_iff_ne]; omega
        clear ht hb hd hfm hts hk hkl hdd hN hx h0 hd2 hlen hne
        go_wp2_with fail
        go_quiet (fail)
        go_wp2_with fail
        go_end0
        exact ⟨rfl, by rw [HLN.out]; exact HH.out.drew _, below_drewN HB.out _⟩
end Go.Proofs.YtagiddbfhlokcaaGreatDoor
/- Is a decimal's beginning less than a text of digits? Condition: the decimal's block. -/
namespace Go.Proofs.YtagiddbfhlokcaaGreatDoor
open Go.RowKit Go.Dcm
set_option maxRecDepth 100000
/-- A text of digits. -/
def DText (s : ByteArray) (t : List Nat) : Prop := s.size = t.length ∧ ∀ i (h : i < s.size), s[i].toNat = 48 + t.getD i 0
def LtRel (ds t : List Nat) (w : World) (g : Nat) (i : Value) (wr : World) : Prop := ∃ k n : Nat, g + k = t.length ∧ i = .int .i64 (k : Int) ∧ PF.plt (ds.drop k) (t.drop k) = PF.plt ds t ∧ wr = w.drewN n
theorem plt_cons (x y : Nat) (a b : List Nat) : PF.plt (x :: a) (y :: b) = if x = y then PF.plt a b else decide (x < y) := rfl
theorem drop_cons {ds : List Nat} {m : Nat} (h : m < ds.length) : ds.drop m = ds.getD m 0 :: ds.drop (m + 1) := by
  rw [List.drop_eq_getElem_cons h, List.getD_eq_getElem?_getD, List.getElem?_eq_getElem h, Option.getD_some]
theorem less273 (b : Nat) (f : Nat → Nat) (ds : List Nat) (nd dp : Int) (neg tr : Bool) (w : World) (hD : DAt 267 w b f nd dp neg tr) (hg : Digs f ds) (hl : ds.length ≤ 800) (s : ByteArray) (t : List Nat) (hs : DText s t) (cap : Nat) :
    Calls Tryz.prog 273 #[.slice (some ⟨b, 0, none⟩) ds.length cap, .string s] w fun e w' => e = .returned (.bool (PF.plt ds t)) ∧ ∃ n, w' = w.drewN n := by
  obtain ⟨R, hR⟩ : ∃ R, PF.plt ds t = R := ⟨_, rfl⟩
  rw [hR]
  have HR := Lib.hid hR
  have HD := Lib.hid hD
  have HG := Lib.hid hg
  have HS := Lib.hid hs
  clear hD hg hs hR
  go_enter Tryz.func273, Tryz.ntmps273
  go_wp2_with fail
  go_loopg [5] (t.length) (fun g i wr => LtRel ds t w g i wr)
  case atStart => exact ⟨0, 0, rfl, rfl, rfl, rfl⟩
  case round =>
    obtain ⟨k, n, hk, rfl, hp, rfl⟩ := hrel
    have hst := HS.out.1
    by_cases h1 : k < t.length
    · have i1 : (k : Int) < (s.size : Int) := by omega
      have i1' : k < s.size := by omega
      rw [drop_cons h1] at hp
      by_cases h2 : k < ds.length
      · have i2 : ¬(ds.length : Int) ≤ (k : Int) := by omega
        have i2' : (k : Int) < (ds.length : Int) := by omega
        have cd := HD.out.dig (i := k) (by omega)
        obtain ⟨x, hx⟩ : ∃ x, f k = x := ⟨_, rfl⟩
        obtain ⟨c, hc⟩ : ∃ c, s[k] = c := ⟨_, rfl⟩
        have hx2 := HG.out k h2
        have hc2 := HS.out.2 k i1'
        rw [hx] at cd hx2
        rw [hc] at hc2
        rw [drop_cons h2, plt_cons] at hp
        obtain ⟨d, hd⟩ : ∃ d, ds.getD k 0 = d := ⟨_, rfl⟩
        obtain ⟨e, he⟩ : ∃ e, t.getD k 0 = e := ⟨_, rfl⟩
        rw [hd] at hp hx2
        rw [he] at hp hc2
        by_cases h3 : d = e
        · have t1 : ((x : Int) != (c.toNat : Int)) = false := by rw [bne_eq_false_iff_eq]; omega
          rw [if_pos h3] at hp
          have HP := Lib.hid hp
          clear hp hst hx hx2 hc2 hd he h3
          go_wp2_with fail
          go_quiet (fail)
          go_wp2_with fail
          go_roundg (gk - 1)
          case measure => omega
          case rel => exact ⟨k + 1, _, by omega, by go_num, HP.out, rfl⟩
        · have t1 : ((x : Int) != (c.toNat : Int)) = true := by rw [bne_iff_ne]; omega
          have t2 : decide (x < c.toNat) = R := by
            rw [← HR.out, ← hp, if_neg h3]
            exact decide_eq_decide.2 (by omega)
          clear hp hst hx hx2 hc2 hd he h3
          go_wp2_with fail
          go_quiet (fail)
          go_wp2_with fail
          go_quiet (fail)
          go_wp2_with fail
          go_ret
          exact ⟨rfl, _, by rw [World.drewN_drewN, World.drewN_drewN]⟩
      · have i2 : (ds.length : Int) ≤ (k : Int) := by omega
        have hR2 : R = true := by
          rw [← HR.out, ← hp, List.drop_of_length_le (by omega)]
          rfl
        subst hR2
        clear hp hst
        go_wp2_with fail
        go_ret
        exact ⟨rfl, _, rfl⟩
    · have i1 : ¬(k : Int) < (s.size : Int) := by omega
      have hR2 : R = false := by
        rw [← HR.out, ← hp, List.drop_of_length_le (l := t) (by omega)]
        cases ds.drop k <;> rfl
      subst hR2
      clear hp hst
      go_wp2_with fail
      go_ret
      exact ⟨rfl, _, rfl⟩
end Go.Proofs.YtagiddbfhlokcaaGreatDoor
/- How many digits a shift to the left brings. No condition. -/
namespace PF
theorem val_dgs : ∀ n, val (dgs n) = n := by
  intro n
  induction n using Nat.strongRecOn with
  | ind n ih =>
    by_cases h : n = 0
    · subst h; rw [dgs_zero]; rfl
    · rw [dgs_pos h, val_append, ih (n / 10) (by omega)]
      simp [val]
      omega
theorem five_mod : ∀ k, 1 ≤ k → 5 ^ k % 10 = 5
  | 0, h => by omega
  | 1, _ => rfl
  | k + 2, _ => by
    have := five_mod (k + 1) (by omega)
    rw [Nat.pow_succ]
    omega
/-- How many digits 5 ^ k has. -/
def cN (k : Nat) : Nat := (dgs (5 ^ k)).length
theorem cN_spec {k : Nat} (h : 1 ≤ k) : 1 ≤ cN k ∧ cN k ≤ k ∧ 10 ^ (cN k - 1) ≤ 5 ^ k ∧ 5 ^ k < 10 ^ cN k := by
  have h5 : 5 ^ k ≠ 0 := by have := Nat.pow_pos (n := k) (show 0 < 5 by omega); omega
  obtain ⟨a, b, c⟩ := dgs_len (5 ^ k) h5
  refine ⟨c, ?_, a, b⟩
  have : 5 ^ k < 10 ^ k := Nat.pow_lt_pow_left (by omega) (by omega)
  have := (Nat.pow_lt_pow_iff_right (show 1 < 10 by omega)).1 (Nat.lt_of_le_of_lt a this)
  unfold cN
  omega
theorem lsh_len {a : Dec} (h : a.Ok) {k : Nat} (hk : 1 ≤ k) : (dgs (val a.ds * 2 ^ k)).length = a.ds.length + (k - cN k + 1) - (if plt a.ds (dgs (5 ^ k)) then 1 else 0) := by
  obtain ⟨v1, v2, v3, v4⟩ := h.val
  obtain ⟨c1, c2, c3, c4⟩ := cN_spec hk
  have h5 : 5 ^ k ≠ 0 := by have := Nat.pow_pos (n := k) (show 0 < 5 by omega); omega
  have hl : dgs (5 ^ k) ≠ [] → (dgs (5 ^ k)).getLast? ≠ some 0 := by
    intro _
    rw [dgs_pos h5, List.getLast?_append, five_mod k hk]
    simp
  have hp := plt_iff a.ds (dgs (5 ^ k)) h.dig (dgs_le _) hl
  rw [val_dgs] at hp
  have hcN : (dgs (5 ^ k)).length = cN k := rfl
  rw [hcN] at hp
  have hg := grow_bounds (v := val a.ds) (L := a.ds.length) (k := k) (C := cN k) (K := a.ds.length + (k - cN k + 1) - (if val a.ds * 10 ^ cN k < 5 ^ k * 10 ^ a.ds.length then 1 else 0)) v1 v2 v3 c2 c3 c4 c1 rfl
  have e : (if plt a.ds (dgs (5 ^ k)) then 1 else 0 : Nat) = if val a.ds * 10 ^ cN k < 5 ^ k * 10 ^ a.ds.length then 1 else 0 := by
    by_cases hx : val a.ds * 10 ^ cN k < 5 ^ k * 10 ^ a.ds.length
    · rw [if_pos hx, if_pos (hp.2 hx)]
    · rw [if_neg hx, if_neg (fun h => hx (hp.1 h))]
  rw [e]
  refine dgs_len_eq ?_ hg.1 hg.2
  split <;> omega
end PF
/- A decimal shifted to the left. Condition: the decimal's block, the table of how many digits a shift brings. -/
namespace Go.Proofs.YtagiddbfhlokcaaGreatDoor
open Go.RowKit Go.Dcm
set_option maxRecDepth 100000
/-- A product's digits, laid from behind: j are laid. -/
structure Ls (f f' : Nat → Nat) (V K j : Nat) (tr tr' : Bool) : Prop where
  old : ∀ p, p < K - j → f' p = f p
  new : ∀ p, K - j ≤ p → p < K → p < 800 → f' p = 48 + V / 10 ^ (K - 1 - p) % 10
  trc : tr' = (tr || ((PF.dgs V).drop (max 800 (K - j))).any (· ≠ 0))
theorem Ls.start (f : Nat → Nat) {V K : Nat} (hK : (PF.dgs V).length = K) (tr : Bool) : Ls f f V K 0 tr tr :=
  ⟨fun _ _ => rfl, fun p h1 h2 _ => by omega, by rw [List.drop_of_length_le (by omega)]; simp⟩
theorem Ls.step {f f' : Nat → Nat} {V K j : Nat} {tr tr' : Bool} (h : Ls f f' V K j tr tr') (hK : (PF.dgs V).length = K) (hj : j < K) :
    (K - 1 - j < 800 → Ls f (upd f' (K - 1 - j) (48 + V / 10 ^ j % 10)) V K (j + 1) tr tr') ∧ (¬K - 1 - j < 800 → Ls f f' V K (j + 1) tr (tr' || decide (V / 10 ^ j % 10 ≠ 0))) := by
  have e1 : K - 1 - (K - 1 - j) = j := by omega
  constructor
  · intro hp
    refine ⟨?_, ?_, ?_⟩
    · intro p hp1
      rw [upd_ne _ _ (by omega), h.old p (by omega)]
    · intro p h1 h2 h3
      by_cases e : p = K - 1 - j
      · subst e
        rw [upd_same, e1]
      · rw [upd_ne _ _ e, h.new p (by omega) h2 h3]
    · rw [h.trc]
      congr 3
      omega
  · intro hp
    refine ⟨fun p hp1 => h.old p (by omega), ?_, ?_⟩
    · intro p h1 h2 h3
      exact h.new p (by omega) h2 h3
    · rw [h.trc, Bool.or_assoc]
      congr 1
      have hm : max 800 (K - (j + 1)) = K - 1 - j := by omega
      have hm2 : max 800 (K - j) = K - 1 - j + 1 := by omega
      have hlt : K - 1 - j < (PF.dgs V).length := by omega
      rw [hm, hm2, PF.any_drop_step hlt, Bool.or_comm]
      congr 2
      have := PF.dgs_at hK (show K - 1 - j < K by omega)
      rw [List.getElem?_eq_getElem hlt, e1] at this
      rw [Option.some.inj this]
theorem Ls.done {f f' : Nat → Nat} {V K : Nat} {tr tr' : Bool} (h : Ls f f' V K K tr tr') (hK : (PF.dgs V).length = K) : Digs f' ((PF.dgs V).take 800) ∧ tr' = (tr || ((PF.dgs V).drop 800).any (· ≠ 0)) := by
  constructor
  · intro i hi
    rw [List.length_take] at hi
    rw [h.new i (by omega) (by omega) (by omega), List.getD_eq_getElem?_getD, List.getElem?_take_of_lt (by omega), PF.dgs_at hK (by omega), Option.getD_some]
  · rw [h.trc, Nat.sub_self]
    rfl
/-- What a shift leaves. -/
def APost (b : Nat) (w : World) (a : PF.Dec) (neg : Bool) (e : Ending) (w' : World) : Prop := e = .returned (.tuple #[]) ∧ ∃ f, DAt 267 w' b f a.ds.length a.dp neg a.tr ∧ Digs f a.ds ∧ Below b w w'
/-- The table of shifts. -/
structure Cheat (B o : Nat) (S : Nat → ByteArray) (w : World) : Prop where
  v : w.cell? ⟨16, 0, none⟩ = some (.slice (some ⟨B, o, none⟩) 61 61)
  d : ∀ k, 1 ≤ k → k < 61 → w.cell? ⟨B, o + k * 2, none⟩ = some (.int .i64 ((k - PF.cN k + 1 : Nat) : Int))
  s : ∀ k, 1 ≤ k → k < 61 → w.cell? ⟨B, o + k * 2 + 1, none⟩ = some (.string (S k)) ∧ DText (S k) (PF.dgs (5 ^ k))
/-- The loop over the digits, from behind: g are left. -/
def LsRel (b : Nat) (f : Nat → Nat) (ds : List Nat) (V K k : Nat) (dp : Int) (neg tr : Bool) (w : World) (g : Nat) (r wv n : Value) (wr : World) : Prop :=
  ∃ (j : Nat) (R W : Int) (x : Nat) (f' : Nat → Nat) (tr' : Bool), g + j = ds.length ∧ R = (g : Int) - 1 ∧ W = (K : Int) - j ∧ x = PF.nJ ds k j ∧ r = .int .i64 R ∧ wv = .int .i64 W ∧ n = .int .u64 (x : Int) ∧ DAt 267 wr b f' ds.length dp neg tr' ∧ Ls f f' V K j tr tr' ∧ Below b w wr
theorem digs_trim {f : Nat → Nat} {ds : List Nat} (h : Digs f ds) : Digs f (PF.trimL ds) := by
  obtain ⟨t, e, _⟩ := PF.trimL_prefix ds
  intro i hi
  have hl : i < ds.length := by rw [e, List.length_append]; omega
  rw [h i hl]
  conv => lhs; rw [e]
  rw [List.getD_eq_getElem?_getD, List.getD_eq_getElem?_getD, List.getElem?_append_left hi]
theorem apost_of_trim {b : Nat} {w w0 w2 : World} {f : Nat → Nat} {l : List Nat} {dp : Int} {tr neg : Bool} (h : DPost b w0 f (PF.trimL l).length (if PF.trimL l = [] then 0 else dp) neg tr (.returned (.tuple #[])) w2) (hg : Digs f l) (hb : Below b w w0) : APost b w (PF.Dec.trim ⟨l, dp, tr⟩) neg (.returned (.tuple #[])) w2 :=
  ⟨rfl, f, h.2.1, digs_trim hg, hb.trans h.2.2⟩
/-- The loop over what is carried still. -/
def LtRel2 (b : Nat) (f : Nat → Nat) (L V K : Nat) (dp : Int) (neg tr : Bool) (w : World) (g : Nat) (wv n : Value) (wr : World) : Prop :=
  ∃ (j : Nat) (W : Int) (x : Nat) (f' : Nat → Nat) (tr' : Bool), g + j = K ∧ W = (K : Int) - j ∧ x = V / 10 ^ j ∧ x ≤ 1152921504606846976 ∧ wv = .int .i64 W ∧ n = .int .u64 (x : Int) ∧ DAt 267 wr b f' L dp neg tr' ∧ Ls f f' V K j tr tr' ∧ Below b w wr
theorem carried {V K j : Nat} (hV : V ≠ 0) (hK : (PF.dgs V).length = K) : V / 10 ^ j ≠ 0 ↔ j < K := by
  obtain ⟨a, b, c⟩ := PF.dgs_len V hV
  rw [hK] at a b c
  have hp : 0 < 10 ^ j := Nat.pow_pos (by omega)
  constructor
  · intro h
    rcases Nat.lt_or_ge j K with h' | h'
    · exact h'
    · exact absurd (Nat.div_eq_of_lt (Nat.lt_of_lt_of_le b (Nat.pow_le_pow_right (by omega) h'))) h
  · intro h
    have h2 : 10 ^ j ≤ V := Nat.le_trans (Nat.pow_le_pow_right (by omega) (show j ≤ K - 1 by omega)) a
    have := Nat.div_pos h2 hp
    omega
theorem slice_arr (b L : Nat) (hL : L ≤ 800) (w : World) : (Instr.sliceAt 265 (.pointer (some ⟨b, 0, none⟩)) (some (.int .i64 0)) (some (.int .i64 (L : Int))) none).run Tryz.prog w = .ok (.slice (some ⟨b, 0, none⟩) L 800) w := by
  simp [Instr.sliceAt, Instr.sliceBounds, Instr.sliceBound, asIntOf, go_sem]
  omega
set_option maxHeartbeats 2000000 in
theorem left257 (b : Nat) (f : Nat → Nat) (a : PF.Dec) (neg : Bool) (w : World) (hD : DAt 267 w b f a.ds.length a.dp neg a.tr) (hg : Digs f a.ds) (ha : a.Ok) (hp1 : -1000000 ≤ a.dp) (hp2 : a.dp ≤ 1000000) (k : Nat) (hk : 1 ≤ k) (hk60 : k ≤ 60) {B o : Nat} {S : Nat → ByteArray} (hc : Cheat B o S w) :
    Calls Tryz.prog 257 #[.pointer (some ⟨b, 0, none⟩), .int .u64 (k : Int)] w (APost b w (a.lsh k) neg) := by
  obtain ⟨V, hV⟩ : ∃ V, PF.val a.ds * 2 ^ k = V := ⟨_, rfl⟩
  obtain ⟨K, hK⟩ : ∃ K, (PF.dgs V).length = K := ⟨_, rfl⟩
  obtain ⟨lt, hlt⟩ : ∃ lt, PF.plt a.ds (PF.dgs (5 ^ k)) = lt := ⟨_, rfl⟩
  have hlen := PF.lsh_len ha hk
  rw [hV, hK, hlt] at hlen
  obtain ⟨c1, c2, c3, c4⟩ := PF.cN_spec hk
  have v := hc.v
  have d := hc.d k hk (by omega)
  obtain ⟨s, hs⟩ := hc.s k hk (by omega)
  have cn := hD.cnd
  have hle := ha.len
  obtain ⟨D, hDD⟩ : ∃ D : Nat, k - PF.cN k + 1 = D := ⟨_, rfl⟩
  rw [hDD] at d hlen
  have hD1 : 1 ≤ D := by omega
  have hD60 : D ≤ 60 := by omega
  have m273 : ∀ n, Calls Tryz.prog 273 #[.slice (some ⟨b, 0, none⟩) a.ds.length 800, .string (S k)] (w.drewN n) fun e w' => e = .returned (.bool lt) ∧ ∃ m, w' = w.drewN m := by
    intro n
    rw [← hlt]
    exact (less273 b f a.ds a.ds.length a.dp neg a.tr _ (hD.drew n) hg hle (S k) (PF.dgs (5 ^ k)) hs 800).mono fun e w' ⟨h1, m, h2⟩ => ⟨h1, n + m, by rw [h2, World.drewN_drewN]⟩
  obtain ⟨L, hLL⟩ : ∃ L, a.ds.length = L := ⟨_, rfl⟩
  rw [hLL] at m273
  have M273 := Lib.hid m273
  have k61 : (k : Int) < 61 := by omega
  have hKL : a.ds.length ≤ K := by rw [hlen]; split <;> omega
  have hKb : K ≤ 1000 := by rw [hlen]; split <;> omega
  obtain ⟨T, hT⟩ : ∃ T : Int, (K : Int) - (a.ds.length : Int) = T := ⟨_, rfl⟩
  have hT2 : T = (D : Int) - (if lt then 1 else 0) := by rw [← hT, hlen]; split <;> omega
  have HT := Lib.hid hT
  have HT2 := Lib.hid hT2
  have HL := Lib.hid hlen
  have HV := Lib.hid hV
  have HK := Lib.hid hK
  have HD := Lib.hid hD
  have HG := Lib.hid hg
  have HA := Lib.hid ha
  have HLL := Lib.hid hLL
  rw [hLL] at hle cn hKL
  have hsl := slice_arr b L hle
  clear hc hs hDD m273 hT hT2 hlen hV hK hD hg ha c1 c2 c3 c4 hlt hLL
  go_enter Tryz.func257, Tryz.ntmps257
  go_wp2_with fail
  go_quiet ((go_at_call 273; with_reducible exact M273.out _))
  go_upto_if 30 with (fail)
  go_cut [4] from 31 to 32 (fun d w' => d = .int .i64 T ∧ w.drewN nq = w')
  case first =>
    cases lt
    · obtain rfl : T = (D : Int) := by have := HT2.out; simpa using this
      go_wp2_with fail
      go_meet
      case rel => exact ⟨rfl, rfl⟩
    · obtain rfl : T = (D : Int) - 1 := by have := HT2.out; simpa using this
      go_wp2_with fail
      go_meet
      case rel => exact ⟨rfl, rfl⟩
  case rest =>
    obtain ⟨rfl, rfl⟩ := hcut
    have hTK : (L : Int) + T = (K : Int) := by have := HT.out; rw [HLL.out] at this; omega
    have hT0 : 0 ≤ T := by omega
    have hT1 : T ≤ 1000 := by omega
    go_wp2_with fail
    go_loopg [5, 6, 7] L (fun g r wv n wr => LsRel b f a.ds V K k a.dp neg a.tr w g r wv n wr)
    case atStart => exact ⟨0, (L : Int) - 1, (K : Int), 0, f, a.tr, by rw [HLL.out]; rfl, rfl, by omega, (PF.nJ_zero _ _).symm, rfl, rfl, rfl, HD.out.drew _, Ls.start f HK.out _, below_drewN (Below.refl _ _) _⟩
    case round =>
      obtain ⟨j, R, W, x, f', tr', hj, hR, hW, hx, rfl, rfl, rfl, hd, hls, hbl⟩ := hrel
      cases gk with
      | zero =>
        rw [HLL.out] at hj
        obtain rfl : L = j := by omega
        obtain rfl : R = -1 := by omega
        have hVn : V ≠ 0 := by
          rw [← HV.out]
          exact Nat.mul_ne_zero HA.out.val.2.2.2 (Nat.ne_of_gt (Nat.two_pow_pos _))
        have hx0 : x = V / 10 ^ L := by rw [hx, ← HV.out, ← HLL.out]; exact PF.nJ_full _ _
        have hx9 : x ≤ 1152921504606846976 := by
          have h1 : x < 2 ^ k := by rw [hx]; exact PF.nJ_lt HA.out.dig k (by rw [HLL.out]; exact Nat.le_refl _)
          have h2 : 2 ^ k ≤ 1152921504606846976 := Nat.pow_le_pow_right (n := 2) (by omega) (show k ≤ 60 from hk60)
          omega
        have HST : Hid (LtRel2 b f L V K a.dp neg a.tr w (K - L) (.int .i64 W) (.int .u64 (x : Int)) wr) := Lib.hid ⟨L, W, x, f', tr', by omega, hW, hx0, hx9, rfl, rfl, by rw [HLL.out] at hd; exact hd, hls, hbl⟩
        have HVN := Lib.hid hVn
        clear hd hls hbl hx hW hj hR hVn hx0
        go_wp2_with fail
        go_loopg [6, 7] (K - L) (fun g wv n wr => LtRel2 b f L V K a.dp neg a.tr w g wv n wr)
        case atStart => exact HST.out
        case round =>
          obtain ⟨j, W, x, f', tr', hj, hW, hx, hx9, rfl, rfl, hd, hls, hbl⟩ := hrel
          have HJK := Lib.hid (carried (j := j) HVN.out HK.out)
          by_cases hx0 : x = 0
          · obtain rfl : K = j := by
              have := HJK.out
              rw [← hx] at this
              omega
            obtain ⟨hdg, htr⟩ := hls.done HK.out
            have HDG := Lib.hid hdg
            have HTR := Lib.hid htr
            have HBL := Lib.hid hbl
            have HDD := Lib.hid hd
            have c8 := hd.cnd
            have c9 := hd.cdp
            have f8 := hd.free 800
            have f9 := hd.free 801
            have hlt8 : ((PF.dgs V).take 800).length = min 800 K := by rw [List.length_take, HK.out]
            have HL8 := Lib.hid hlt8
            have HX : Hid (x = 0) := Lib.hid hx0
            have xz : ¬(0 : Int) < (x : Int) := by omega
            have dT : a.dp + T = a.dp + (((PF.dgs (PF.val a.ds * 2 ^ k)).length : Int) - a.ds.length) := by rw [HV.out, HK.out, HLL.out]; omega
            have HDT := Lib.hid dT
            clear hdg htr hbl hd hls hx hx0 hj hW hx9 hlt8 dT
            by_cases hK8 : 800 ≤ K
            · have k8 : (800 : Int) ≤ (K : Int) := by omega
              have H8 : Hid (min 800 K = 800) := Lib.hid (by omega)
              go_wp2_with fail
              refine (trim256 b f' ((PF.dgs V).take 800) (a.dp + T) neg tr' _ (by rw [HL8.out, H8.out]; exact ((HDD.out.setNd _).setNd 800).setDp _) HDG.out (by rw [HL8.out]; omega)).mono ?_
              rintro e w2 h2
              have he := h2.1
              subst he
              have H2 := Lib.hid h2
              clear h2
              go_wp2_with fail
              go_end0
              have hl : a.lsh k = PF.Dec.trim ⟨(PF.dgs V).take 800, a.dp + T, tr'⟩ := by
                rw [HDT.out, HTR.out, ← HV.out]
                rfl
              rw [hl]
              exact apost_of_trim H2.out HDG.out (((HBL.out.setCell (p := ⟨b, 800, none⟩) (Nat.le_refl _) _).setCell (p := ⟨b, 800, none⟩) (Nat.le_refl _) _).setCell (p := ⟨b, 801, none⟩) (Nat.le_refl _) _)
            · have k8 : ¬(800 : Int) ≤ (K : Int) := by omega
              have H8 : Hid (min 800 K = K) := Lib.hid (by omega)
              go_wp2_with fail
              refine (trim256 b f' ((PF.dgs V).take 800) (a.dp + T) neg tr' _ (by rw [HL8.out, H8.out]; exact (HDD.out.setNd _).setDp _) HDG.out (by rw [HL8.out]; omega)).mono ?_
              rintro e w2 h2
              have he := h2.1
              subst he
              have H2 := Lib.hid h2
              clear h2
              go_wp2_with fail
              go_end0
              have hl : a.lsh k = PF.Dec.trim ⟨(PF.dgs V).take 800, a.dp + T, tr'⟩ := by
                rw [HDT.out, HTR.out, ← HV.out]
                rfl
              rw [hl]
              exact apost_of_trim H2.out HDG.out ((HBL.out.setCell (p := ⟨b, 800, none⟩) (Nat.le_refl _) _).setCell (p := ⟨b, 801, none⟩) (Nat.le_refl _) _)
          · obtain ⟨p, hp⟩ : ∃ p : Nat, K - 1 - j = p := ⟨_, rfl⟩
            have hjl : j < K := HJK.out.1 (by rw [← hx]; exact hx0)
            obtain ⟨q, rfl⟩ : ∃ q, gk = q + 1 := ⟨gk - 1, by omega⟩
            have hpW : W - 1 = (p : Int) := by omega
            have hw1 : 1 ≤ W := by omega
            have hw2 : W ≤ 1000 := by omega
            obtain ⟨u, hu⟩ : ∃ u, x / 10 = u := ⟨_, rfl⟩
            have hui : (x : Int) / 10 = (u : Int) := by omega
            obtain ⟨m, hm⟩ : ∃ m, x % 10 = m := ⟨_, rfl⟩
            have hmi : (x : Int) - 10 * (u : Int) = (m : Int) := by omega
            have hm9 : m ≤ 9 := by omega
            have hu9 : u ≤ 1152921504606846976 := by omega
            have hu2 : u = V / 10 ^ (j + 1) := by rw [← hu, hx, Nat.div_div_eq_div_mul, ← Nat.pow_succ]
            have hm2 : m = V / 10 ^ j % 10 := by rw [← hm, hx]
            have xp : (0 : Int) < (x : Int) := by omega
            have HLS := Lib.hid hls
            have HBL := Lib.hid hbl
            have HDD := Lib.hid hd
            have HJ := Lib.hid hj
            have HP := Lib.hid hp
            have HU2 := Lib.hid hu2
            have HLT := Lib.hid hjl
            have hst := hls.step HK.out hjl
            rw [hp, ← hm2] at hst
            have HST := Lib.hid hst
            by_cases hp80 : p < 800
            · have hpi : (p : Int) < 800 := by omega
              have frp := hd.free p
              have cp := hd.dig (i := p) hp80
              clear hx0 hx hm2 hu2 hu hm hls hbl hd hj hW hp hjl hst
              go_wp2_with fail
              go_roundg q
              case measure => omega
              case rel =>
                have hm2 : (48 : Nat) + m = m + 48 := by omega
                have hs := HST.out.1 hp80
                rw [hm2] at hs
                exact ⟨j + 1, (p : Int), u, upd f' p (m + 48), tr', by have := HJ.out; omega, by have := HP.out; have := HLT.out; omega, HU2.out, hu9, rfl, rfl, by have := HDD.out.setDig (i := p) hp80 (m + 48); simpa using this, hs, HBL.out.setCell (p := ⟨b, p, none⟩) (Nat.le_refl _) _⟩
            · have hpi : ¬(p : Int) < 800 := by omega
              have ct := hd.ctr
              have frt := hd.free 803
              have hs := hst.2 hp80
              by_cases hm0 : m = 0
              · have m1 : ((m : Int) != 0) = false := by rw [hm0]; rfl
                rw [hm0, show decide ((0 : Nat) ≠ 0) = false from rfl, Bool.or_false] at hs
                have HS := Lib.hid hs
                clear hx0 hx hm2 hu2 hu hm hls hbl hd hj hW hp hjl hst hm0 hs
                go_wp2_with fail
                go_roundg q
                case measure => omega
                case rel => exact ⟨j + 1, (p : Int), u, f', tr', by have := HJ.out; omega, by have := HP.out; have := HLT.out; omega, HU2.out, hu9, rfl, rfl, HDD.out, HS.out, HBL.out⟩
              · have m1 : ((m : Int) != 0) = true := by rw [bne_iff_ne]; omega
                rw [show decide (m ≠ 0) = true by simpa using hm0, Bool.or_true] at hs
                have HS := Lib.hid hs
                clear hx0 hx hm2 hu2 hu hm hls hbl hd hj hW hp hjl hst hm0 hs
                go_wp2_with fail
                go_roundg q
                case measure => omega
                case rel => exact ⟨j + 1, (p : Int), u, f', true, by have := HJ.out; omega, by have := HP.out; have := HLT.out; omega, HU2.out, hu9, rfl, rfl, HDD.out.setTr true, HS.out, HBL.out.setCell (p := ⟨b, 803, none⟩) (Nat.le_refl _) _⟩
      | succ q =>
        have HLS := Lib.hid hls
        have HBL := Lib.hid hbl
        have HDD := Lib.hid hd
        have HJ := Lib.hid hj
        rw [HLL.out] at hj
        obtain rfl : R = (q : Int) := by omega
        obtain ⟨p, hp⟩ : ∃ p : Nat, K - 1 - j = p := ⟨_, rfl⟩
        have hpW : W - 1 = (p : Int) := by omega
        have hw1 : 1 ≤ W := by omega
        have hw2 : W ≤ 1000 := by omega
        obtain ⟨d1, hd1⟩ : ∃ d1, a.ds.getD (a.ds.length - 1 - j) 0 = d1 := ⟨_, rfl⟩
        have hq : a.ds.length - 1 - j = q := by rw [HLL.out]; omega
        have hst := PF.nJ_step (ds := a.ds) k (j := j) (by rw [HLL.out]; omega)
        rw [← hx, hd1, HV.out] at hst
        rw [hq] at hd1
        have hfq : f' q = 48 + d1 := by rw [hls.old q (by omega), HG.out q (by rw [HLL.out]; omega), hd1]
        have hd9 : d1 ≤ 9 := by
          rw [← hd1, List.getD_eq_getElem?_getD, List.getElem?_eq_getElem (by rw [HLL.out]; omega), Option.getD_some]
          exact HA.out.dig _ (List.getElem_mem _)
        have hx2 : x < 2 ^ k := by rw [hx]; exact PF.nJ_lt HA.out.dig k (by rw [HLL.out]; omega)
        have hk2 : 2 ^ k ≤ 1152921504606846976 := Nat.pow_le_pow_right (n := 2) (by omega) (show k ≤ 60 from hk60)
        have cd := hd.dig (i := q) (by omega)
        obtain ⟨c, hc⟩ : ∃ c, f' q = c := ⟨_, rfl⟩
        rw [hc] at cd hfq
        obtain ⟨y, hy⟩ : ∃ y, d1 * 2 ^ k = y := ⟨_, rfl⟩
        have hy9 : y ≤ 9 * 2 ^ k := by rw [← hy]; exact Nat.mul_le_mul_right _ hd9
        have wy : IntKind.u64.wrap (((c : Int) - 48) * 2 ^ k) = (y : Int) := by
          have e : ((c : Int) - 48) * 2 ^ k = (y : Int) := by
            have : (c : Int) - 48 = (d1 : Int) := by omega
            rw [this, ← hy]; norm_cast
          rw [e, IntKind.wrap_u64]
          omega
        rw [hy] at hst
        obtain ⟨z, hz⟩ : ∃ z, x + y = z := ⟨_, rfl⟩
        have hzi : (x : Int) + (y : Int) = (z : Int) := by omega
        rw [hz] at hst
        obtain ⟨u, hu⟩ : ∃ u, z / 10 = u := ⟨_, rfl⟩
        have hui : (z : Int) / 10 = (u : Int) := by omega
        obtain ⟨m, hm⟩ : ∃ m, z % 10 = m := ⟨_, rfl⟩
        have hmi : (z : Int) - 10 * (u : Int) = (m : Int) := by omega
        have hm9 : m ≤ 9 := by omega
        rw [hu, hm] at hst
        have HST := Lib.hid hst
        have hz8 : z ≤ 11529215046068469760 := by omega
        have hu8 : u ≤ 1152921504606846976 := by omega
        have hc1 : 48 ≤ c := by omega
        have hc2 : c ≤ 57 := by omega
        have hp8 : p ≤ 1000 := by omega
        have HX2 := Lib.hid hx2
        have HK2 := Lib.hid hk2
        have HP := Lib.hid hp
        have fr := hd.free
        have HW := Lib.hid hW
        by_cases hp80 : p < 800
        · have hpi : (p : Int) < 800 := by omega
          have frp := hd.free p
          have cp := hd.dig (i := p) hp80
          have q8 : (q : Int) < 800 := by omega
          have HLT : Hid (j < K) := Lib.hid (by omega)
          clear hx2 hy9 hy hz hu hm hst hls hbl hd hx hj hR hW hfq hd1 hq hc hp hk2 fr hd9
          go_wp2_with fail
          go_roundg q
          case measure => omega
          case rel =>
            have hm2 : (48 : Nat) + m = m + 48 := by omega
            have hs := (HLS.out.step HK.out HLT.out).1 (by rw [HP.out]; exact hp80)
            rw [HP.out, ← HST.out.2, hm2] at hs
            exact ⟨j + 1, (q : Int) - 1, (p : Int), u, upd f' p (m + 48), tr', by have := HJ.out; omega, rfl, by have := HP.out; have := HLT.out; omega, HST.out.1, rfl, rfl, rfl, by have := HDD.out.setDig (i := p) hp80 (m + 48); simpa using this, hs, HBL.out.setCell (p := ⟨b, p, none⟩) (Nat.le_refl _) _⟩
        · have hpi : ¬(p : Int) < 800 := by omega
          have q8 : (q : Int) < 800 := by omega
          have HLT : Hid (j < K) := Lib.hid (by omega)
          have HTR : Hid (Ls f f' V K (j + 1) a.tr (tr' || decide (m ≠ 0))) := Lib.hid (by
            have hs := (hls.step HK.out HLT.out).2 (by rw [hp]; exact hp80)
            rw [← hst.2] at hs
            exact hs)
          have ct := hd.ctr
          have frt := hd.free 803
          by_cases hm0 : m = 0
          · have m1 : ((m : Int) != 0) = false := by rw [hm0]; rfl
            have HM0 := Lib.hid hm0
            clear hx2 hy9 hy hz hu hm hst hls hbl hd hx hj hR hW hfq hd1 hq hc hp hk2 fr hd9 hm0
            go_wp2_with fail
            go_roundg q
            case measure => omega
            case rel =>
              have hs := HTR.out
              rw [HM0.out, show decide ((0 : Nat) ≠ 0) = false from rfl, Bool.or_false] at hs
              exact ⟨j + 1, (q : Int) - 1, (p : Int), u, f', tr', by have := HJ.out; omega, rfl, by have := HP.out; have := HLT.out; omega, HST.out.1, rfl, rfl, rfl, HDD.out, hs, HBL.out⟩
          · have m1 : ((m : Int) != 0) = true := by rw [bne_iff_ne]; omega
            have HM0 := Lib.hid hm0
            clear hx2 hy9 hy hz hu hm hst hls hbl hd hx hj hR hW hfq hd1 hq hc hp hk2 fr hd9 hm0
            go_wp2_with fail
            go_roundg q
            case measure => omega
            case rel =>
              have hs := HTR.out
              rw [show decide (m ≠ 0) = true by simpa using HM0.out, Bool.or_true] at hs
              exact ⟨j + 1, (q : Int) - 1, (p : Int), u, f', true, by have := HJ.out; omega, rfl, by have := HP.out; have := HLT.out; omega, HST.out.1, rfl, rfl, rfl, HDD.out.setTr true, hs, HBL.out.setCell (p := ⟨b, 803, none⟩) (Nat.le_refl _) _⟩
end Go.Proofs.YtagiddbfhlokcaaGreatDoor
/- A decimal shifted to the right. Condition: the decimal's block. -/
namespace Go.Proofs.YtagiddbfhlokcaaGreatDoor
open Go.RowKit Go.Dcm
set_option maxRecDepth 100000
abbrev RsP := List Nat × Nat × Nat
def R1 (ds : List Nat) (k : Nat) (P : RsP) (w : World) (g : Nat) (r n : Value) (wr : World) : Prop :=
  ∃ rr nn : Nat, g + rr = ds.length ∧ PF.rs1 k (ds.drop rr) nn rr = P ∧ nn < 10 * 2 ^ k ∧ (rr = 0 → nn = 0) ∧ (1 ≤ rr → 1 ≤ nn) ∧ r = .int .i64 (rr : Int) ∧ n = .int .u64 (nn : Int) ∧ w = wr
def R2 (k : Nat) (P : RsP) (w : World) (g : Nat) (r n : Value) (wr : World) : Prop :=
  ∃ rr nn : Nat, PF.rsz k g nn rr = P.2 ∧ 2 ^ k ≤ nn * 10 ^ g ∧ nn < 10 * 2 ^ k ∧ rr + g ≤ 900 ∧ r = .int .i64 (rr : Int) ∧ n = .int .u64 (nn : Int) ∧ w = wr
def R3 (b : Nat) (f : Nat → Nat) (ds : List Nat) (k r0 : Nat) (Q : List Nat × Nat) (dp : Int) (neg tr : Bool) (w : World) (g : Nat) (r wv n : Value) (wr : World) : Prop :=
  ∃ (rr nn : Nat) (o : List Nat) (f' : Nat → Nat), g = ds.length - rr ∧ rr = r0 + o.length ∧ (rr ≤ ds.length ∨ o = []) ∧ o ++ (PF.rs2 k (ds.drop rr) nn).1 = Q.1 ∧ (PF.rs2 k (ds.drop rr) nn).2 = Q.2 ∧ nn < 10 * 2 ^ k ∧ r = .int .i64 (rr : Int) ∧ wv = .int .i64 (o.length : Int) ∧ n = .int .u64 (nn : Int) ∧ DAt 267 wr b f' ds.length dp neg tr ∧ Digs f' o ∧ (∀ p, o.length ≤ p → f' p = f p) ∧ Below b w wr
def R4 (b L k : Nat) (O : List Nat) (TR : Bool) (dp : Int) (neg : Bool) (w : World) (g : Nat) (wv n : Value) (wr : World) : Prop :=
  ∃ (nn : Nat) (o : List Nat) (f' : Nat → Nat) (tr' : Bool), o.length ≤ 800 ∧ o ++ (PF.rs3 k g nn o.length).1 = O ∧ (tr' || (PF.rs3 k g nn o.length).2) = TR ∧ PF.Fu k g nn ∧ nn < 10 * 2 ^ k ∧ wv = .int .i64 (o.length : Int) ∧ n = .int .u64 (nn : Int) ∧ DAt 267 wr b f' L dp neg tr' ∧ Digs f' o ∧ Below b w wr
theorem rs2_cons (k c : Nat) (t : List Nat) (n : Nat) : PF.rs2 k (c :: t) n = (n / 2 ^ k :: (PF.rs2 k t (n % 2 ^ k * 10 + c)).1, (PF.rs2 k t (n % 2 ^ k * 10 + c)).2) := rfl
theorem rs3_succ (k g n w : Nat) : PF.rs3 k (g + 1) n w = if n = 0 then ([], false) else if w < 800 then (n / 2 ^ k :: (PF.rs3 k g (n % 2 ^ k * 10) (w + 1)).1, (PF.rs3 k g (n % 2 ^ k * 10) (w + 1)).2) else ((PF.rs3 k g (n % 2 ^ k * 10) w).1, decide (0 < n / 2 ^ k) || (PF.rs3 k g (n % 2 ^ k * 10) w).2) := rfl
theorem rs3_zero (k g w : Nat) : PF.rs3 k g 0 w = ([], false) := by
  cases g with
  | zero => rfl
  | succ g => rw [rs3_succ, if_pos rfl]
theorem rs1_nil (k n r : Nat) : PF.rs1 k [] n r = ([], (PF.rsz k (k + 1) n r).1, (PF.rsz k (k + 1) n r).2) := rfl
theorem rs1_cons (k d : Nat) (t : List Nat) (n r : Nat) : PF.rs1 k (d :: t) n r = if n / 2 ^ k = 0 then PF.rs1 k t (n * 10 + d) (r + 1) else (d :: t, n, r) := rfl
theorem rsz_succ (k g n r : Nat) : PF.rsz k (g + 1) n r = if n / 2 ^ k = 0 then PF.rsz k g (n * 10) (r + 1) else (n, r) := rfl
theorem rsz_stop {k n : Nat} (g r : Nat) (h : n / 2 ^ k ≠ 0) : PF.rsz k g n r = (n, r) := by
  cases g with
  | zero => rfl
  | succ g => rw [rsz_succ, if_neg h]
theorem rs1_stop {k n : Nat} (t : List Nat) (r : Nat) (h : n / 2 ^ k ≠ 0) : PF.rs1 k t n r = (t, n, r) := by
  cases t with
  | nil => rw [rs1_nil, rsz_stop _ _ h]
  | cons d t => rw [rs1_cons, if_neg h]
theorem and_mask {n k : Nat} (hn : n < 18446744073709551616) (hk : k ≤ 60) : bits BinOp.and IntKind.u64 (n : Int) ((2 : Int) ^ k - 1) = ((n % 2 ^ k : Nat) : Int) := by
  have p2 := Nat.two_pow_pos k
  have h2 : 2 ^ k ≤ 1152921504606846976 := Nat.pow_le_pow_right (n := 2) (by omega) (show k ≤ 60 from hk)
  have h := bits_and_u64_nat n (2 ^ k - 1) hn (by omega)
  rw [Nat.and_two_pow_sub_one_eq_mod] at h
  rw [← h]
  congr 1
  rw [Int.natCast_sub p2]
  norm_cast
set_option maxHeartbeats 4000000 in
theorem right258 (b : Nat) (f : Nat → Nat) (a : PF.Dec) (neg : Bool) (w : World) (hD : DAt 267 w b f a.ds.length a.dp neg a.tr) (hg : Digs f a.ds) (ha : a.Ok) (hp1 : -1000000 ≤ a.dp) (hp2 : a.dp ≤ 1000000) (k : Nat) (hk60 : k ≤ 60) :
    Calls Tryz.prog 258 #[.pointer (some ⟨b, 0, none⟩), .int .u64 (k : Int)] w (APost b w (a.rsh k) neg) := by
  obtain ⟨p, _, hdrop⟩ := PF.rs1_ok ha k
  obtain ⟨P, hP⟩ : ∃ P, PF.rs1 k a.ds 0 0 = P := ⟨_, rfl⟩
  rw [hP] at p hdrop
  have hle := ha.len
  have hk2 : 2 ^ k ≤ 1152921504606846976 := Nat.pow_le_pow_right (n := 2) (by omega) (show k ≤ 60 from hk60)
  obtain ⟨M, hM⟩ : ∃ M, 2 ^ k = M := ⟨_, rfl⟩
  have hM1 : 1 ≤ M := by rw [← hM]; exact Nat.two_pow_pos k
  have cn := hD.cnd
  have cp := hD.cdp
  have HP := Lib.hid hP
  have HPP := Lib.hid p
  have HDR := Lib.hid hdrop
  have HD := Lib.hid hD
  have HG := Lib.hid hg
  have HA := Lib.hid ha
  have HM := Lib.hid hM
  rw [hM] at hk2
  obtain ⟨L, hLL⟩ : ∃ L, a.ds.length = L := ⟨_, rfl⟩
  have HLL := Lib.hid hLL
  rw [hLL] at hle cn
  clear hP p hdrop hD hg ha hM hLL
  go_enter Tryz.func258, Tryz.ntmps258
  go_upto_block 0 with (fail)
  go_cut [4, 6, 7] from 12 to 48 (fun r n c w' => r = .int .i64 (P.2.2 : Int) ∧ n = .int .u64 (P.2.1 : Int) ∧ w = w')
  case first =>
    go_wp2_with fail
    go_loopg [4, 6] L (fun g r n wr => R1 a.ds k P w g r n wr)
    case atStart => exact ⟨0, 0, HLL.out.symm, by rw [List.drop_zero]; exact HP.out, by rw [HM.out]; omega, fun _ => rfl, fun h => by omega, rfl, rfl, rfl⟩
    case round =>
      obtain ⟨rr, nn, hg, hr, hn, hz1, hz2, rfl, rfl, rfl⟩ := hrel
      rw [HLL.out] at hg
      rw [HM.out] at hn
      have hn64 : nn < 18446744073709551616 := by omega
      obtain ⟨q, hq⟩ : ∃ q, nn / 2 ^ k = q := ⟨_, rfl⟩
      have qi : (nn : Int) / 2 ^ k = (q : Int) := by rw [← hq]; norm_cast
      have HQ := Lib.hid hq
      by_cases hq0 : q = 0
      · have q1 : ((q : Int) == 0) = true := by rw [hq0]; rfl
        have hnM : nn < M := by
          have := HQ.out
          rw [hq0, HM.out] at this
          rcases Nat.div_eq_zero_iff.1 this with h | h
          · omega
          · exact h
        by_cases hrl : rr < L
        · obtain ⟨gq, rfl⟩ : ∃ x, gk = x + 1 := ⟨gk - 1, by omega⟩
          have r1 : ¬(L : Int) ≤ (rr : Int) := by omega
          have r8 : (rr : Int) < 800 := by omega
          have cd := HD.out.dig (i := rr) (by omega)
          obtain ⟨c, hc⟩ : ∃ c, f rr = c := ⟨_, rfl⟩
          obtain ⟨d, hd⟩ : ∃ d, a.ds.getD rr 0 = d := ⟨_, rfl⟩
          have hfc := HG.out rr (by rw [HLL.out]; exact hrl)
          have hd9 : d ≤ 9 := by
            rw [← hd, List.getD_eq_getElem?_getD, List.getElem?_eq_getElem (by rw [HLL.out]; exact hrl), Option.getD_some]
            exact HA.out.dig _ (List.getElem_mem _)
          have hd1 : rr = 0 → d ≠ 0 := by
            intro h
            have h1 := HA.out.one
            subst h
            rw [← hd]
            revert h1
            cases a.ds <;> simp
          rw [hc, hd] at hfc
          rw [hc] at cd
          have hc1 : 48 ≤ c := by omega
          have hc2 : c ≤ 57 := by omega
          have hr2 : PF.rs1 k (a.ds.drop (rr + 1)) (nn * 10 + d) (rr + 1) = P := by
            rw [← hr, drop_cons (ds := a.ds) (m := rr) (by rw [HLL.out]; exact hrl), hd, rs1_cons, hq, hq0, if_pos rfl]
          have HST : Hid (R1 a.ds k P w gq (.int .i64 ((rr : Int) + 1)) (.int .u64 ((nn : Int) * 10 + (c : Int) - 48)) w) := Lib.hid ⟨rr + 1, nn * 10 + d, by rw [HLL.out]; omega, hr2, by rw [HM.out]; omega, fun h => by omega, fun _ => by
            by_cases h0 : rr = 0
            · have := hd1 h0; omega
            · have := hz2 (by omega); omega, by go_num, congrArg (Value.int .u64) (by omega), rfl⟩
          clear hr hr2 hg hz1 hz2 hd1 hd hc hfc hq hq0
          go_wp2_with fail
          go_roundg gq
          case measure => omega
          case rel => exact HST.out
        · obtain rfl : L = rr := by omega
          have hL1 := HA.out.val.2.2.1
          rw [HLL.out] at hL1
          have r1 : (L : Int) ≤ (L : Int) := by omega
          have hn1 : 1 ≤ nn := hz2 hL1
          have n0 : ((nn : Int) == 0) = false := by rw [beq_eq_false_iff_ne]; omega
          have hPP : P = ([], (PF.rsz k (k + 1) nn L).1, (PF.rsz k (k + 1) nn L).2) := by rw [← hr, List.drop_of_length_le (by rw [HLL.out]; exact Nat.le_refl _), rs1_nil]
          have h4 : 2 ^ k ≤ nn * 10 ^ (k + 1) := by
            have a1 := PF.two_le_ten k
            have b1 : 1 * 10 ^ (k + 1) ≤ nn * 10 ^ (k + 1) := Nat.mul_le_mul_right _ hn1
            rw [Nat.pow_succ] at b1 ⊢
            omega
          have HST : Hid (R2 k P w (k + 1) (.int .i64 (L : Int)) (.int .u64 (nn : Int)) w) := Lib.hid ⟨L, nn, by rw [hPP], h4, by rw [HM.out]; omega, by omega, rfl, rfl, rfl⟩
          clear hr hg hz1 hz2 hq hq0 hPP h4
          go_wp2_with fail
          go_loopg [4, 6] (k + 1) (fun g r n wr => R2 k P w g r n wr)
          case atStart => exact HST.out
          case round =>
            obtain ⟨rr, mm, hr, h4, hm, hb, rfl, rfl, rfl⟩ := hrel
            rw [HM.out] at hm
            have hm64 : mm < 18446744073709551616 := by omega
            obtain ⟨q2, hq2⟩ : ∃ q, mm / 2 ^ k = q := ⟨_, rfl⟩
            have qi2 : (mm : Int) / 2 ^ k = (q2 : Int) := by rw [← hq2]; norm_cast
            by_cases hq0 : q2 = 0
            · have q3 : ((q2 : Int) == 0) = true := by rw [hq0]; rfl
              have hmM : mm < M := by
                rw [hq0, HM.out] at hq2
                rcases Nat.div_eq_zero_iff.1 hq2 with h | h
                · omega
                · exact h
              cases gk with
              | zero => 
                rw [HM.out] at h4
                simp at h4
                omega
              | succ g =>
                have HST2 : Hid (R2 k P w g (.int .i64 ((rr : Int) + 1)) (.int .u64 ((mm : Int) * 10)) w) := Lib.hid ⟨rr + 1, mm * 10, by rw [← hr, rsz_succ, hq2, hq0, if_pos rfl], by rw [Nat.mul_assoc, ← Nat.pow_succ']; exact h4, by rw [HM.out]; omega, by omega, by go_num, by go_num, rfl⟩
                clear hr h4 hq2 hq0
                go_wp2_with fail
                go_roundg g
                case measure => omega
                case rel => exact HST2.out
            · have q3 : ((q2 : Int) == 0) = false := by rw [beq_eq_false_iff_ne]; omega
              have hP2 : P.2 = (mm, rr) := by rw [← hr, rsz_stop _ _ (by rw [hq2]; exact hq0)]
              have HPE := Lib.hid hP2
              clear hr h4 hq2 hq0 hP2
              go_wp2_with fail
              go_meet
              case rel => exact ⟨by rw [HPE.out], by rw [HPE.out], rfl⟩
      · have q1 : ((q : Int) == 0) = false := by rw [beq_eq_false_iff_ne]; omega
        have hPP : P = (a.ds.drop rr, nn, rr) := by rw [← hr, rs1_stop _ _ (by rw [hq]; exact hq0)]
        have HPE := Lib.hid hPP
        clear hr hg hz1 hz2 hq hq0 hPP
        go_wp2_with fail
        go_meet
        case rel => exact ⟨by rw [HPE.out], by rw [HPE.out], rfl⟩
  case rest =>
    obtain ⟨rfl, rfl, rfl⟩ := hcut
    obtain ⟨r0, hr0⟩ : ∃ r0, P.2.2 = r0 := ⟨_, rfl⟩
    obtain ⟨n0, hn0⟩ : ∃ n0, P.2.1 = n0 := ⟨_, rfl⟩
    have hpp := HPP.out
    rw [hr0, hn0] at hpp
    have r1 := hpp.r1
    have nhi := hpp.hi
    rw [HM.out] at nhi
    have r21 : r0 ≤ 100 := by
      rcases hpp.few with h | h
      · omega
      · have h2 : 2 ^ k ≤ 2 ^ 60 := Nat.pow_le_pow_right (by omega) hk60
        have h3 : (2 : Nat) ^ 60 < 10 ^ 60 := by decide
        have := (Nat.pow_lt_pow_iff_right (show 1 < 10 by omega)).1 (Nat.lt_of_lt_of_le h (Nat.le_of_lt (Nat.lt_of_le_of_lt h2 h3)))
        omega
    have hdr := HDR.out
    rw [hr0] at hdr
    obtain ⟨Q, hQ⟩ : ∃ Q, PF.rs2 k (a.ds.drop r0) n0 = Q := ⟨_, rfl⟩
    have hq1 := (PF.rs2_spec k (a.ds.drop r0) n0 (fun d hd => HA.out.dig d (List.mem_of_mem_drop hd)) hpp.hi).2.1
    rw [hQ] at hq1
    have hql : Q.1.length ≤ 800 := by rw [hq1, List.length_drop]; have := HA.out.len; omega
    obtain ⟨O, hO⟩ : ∃ O, Q.1 ++ (PF.rs3 k (k + 2) Q.2 Q.1.length).1 = O := ⟨_, rfl⟩
    obtain ⟨TR, hTR⟩ : ∃ TR, (a.tr || (PF.rs3 k (k + 2) Q.2 Q.1.length).2) = TR := ⟨_, rfl⟩
    obtain ⟨dq, hdq⟩ : ∃ dq, a.dp - ((r0 : Int) - 1) = dq := ⟨_, rfl⟩
    have hfin : a.rsh k = PF.Dec.trim ⟨O, dq, TR⟩ := by
      rw [PF.rsh_eq]
      unfold PF.Dec.rsh0
      dsimp only
      rw [HP.out, hr0, hn0, hdr, hQ, hO, hTR, hdq]
    have HFIN := Lib.hid hfin
    have HQ := Lib.hid hQ
    have HO := Lib.hid hO
    have HTR := Lib.hid hTR
    have HPP2 := Lib.hid hpp
    have HQL := Lib.hid hql
    have wM1 : IntKind.u64.wrap ((1 : Int) * 2 ^ k) = (M : Int) := by
      have e : (1 : Int) * 2 ^ k = (M : Int) := by rw [Int.one_mul, ← HM.out]; norm_cast
      rw [e, IntKind.wrap_u64]; omega
    have wM2 : IntKind.u64.wrap ((2 : Int) ^ k) = (M : Int) := by rw [← wM1, Int.one_mul]
    have fr := HD.out.free 801
    have HST : Hid (R3 b f a.ds k r0 Q dq neg a.tr w (L - r0) (.int .i64 (r0 : Int)) (.int .i64 0) (.int .u64 (n0 : Int)) (w.setCell ⟨b, 801, none⟩ (.int .i64 dq))) := Lib.hid ⟨r0, n0, [], f, by rw [HLL.out], rfl, .inr rfl, by rw [hQ]; rfl, by rw [hQ], hpp.hi, rfl, rfl, rfl, HD.out.setDp dq, fun i hi => by simp at hi, fun _ _ => rfl, (Below.refl _ _).setCell (p := ⟨b, 801, none⟩) (Nat.le_refl _) _⟩
    rw [hr0, hn0]
    clear hpp hdr hQ hq1 hql hO hTR hfin hr0 hn0
    go_wp2_with fail
    go_loopg [4, 5, 6] (L - r0) (fun g r wv n wr => R3 b f a.ds k r0 Q dq neg a.tr w g r wv n wr)
    case atStart => exact HST.out
    case round =>
      obtain ⟨rr, nn, o, f', hg, hr, hor, h1, h2, hn, rfl, rfl, rfl, hd, hdg, hold, hbl⟩ := hrel
      rw [HLL.out] at hg hor hd
      rw [HM.out] at hn
      have cn3 := hd.cnd
      obtain ⟨ww, hww⟩ : ∃ ww, o.length = ww := ⟨_, rfl⟩
      rw [hww] at hr hold ⊢
      have HWW := Lib.hid hww
      have hn64 : nn < 18446744073709551616 := by omega
      by_cases hrl : rr < L
      · obtain ⟨gq, rfl⟩ : ∃ x, gk = x + 1 := ⟨gk - 1, by omega⟩
        have ri : (rr : Int) < (L : Int) := by omega
        have r8 : (rr : Int) < 800 := by omega
        have w8 : ww < 800 := by omega
        have w8i : (ww : Int) < 800 := by omega
        have cd := hd.dig (i := rr) (by omega)
        have cw := hd.dig (i := ww) w8
        have fw := hd.free ww
        rw [hold rr (by omega)] at cd
        obtain ⟨c, hc⟩ : ∃ c, f rr = c := ⟨_, rfl⟩
        obtain ⟨d, hdd⟩ : ∃ d, a.ds.getD rr 0 = d := ⟨_, rfl⟩
        have hfc := HG.out rr (by rw [HLL.out]; exact hrl)
        have hd9 : d ≤ 9 := by
          rw [← hdd, List.getD_eq_getElem?_getD, List.getElem?_eq_getElem (by rw [HLL.out]; exact hrl), Option.getD_some]
          exact HA.out.dig _ (List.getElem_mem _)
        rw [hc, hdd] at hfc
        rw [hc] at cd
        have hc1 : 48 ≤ c := by omega
        have hc2 : c ≤ 57 := by omega
        obtain ⟨q, hq⟩ : ∃ q, nn / 2 ^ k = q := ⟨_, rfl⟩
        have qi : (nn : Int) / 2 ^ k = (q : Int) := by rw [← hq]; norm_cast
        have q9 : q ≤ 9 := by rw [← hq]; exact PF.dig_le9 (by rw [HM.out]; exact hn)
        obtain ⟨m, hm⟩ : ∃ m, nn % 2 ^ k = m := ⟨_, rfl⟩
        have hmM : m < M := by rw [← hm, HM.out]; exact Nat.mod_lt _ (by omega)
        have am : bits BinOp.and IntKind.u64 (nn : Int) ((M : Int) - 1) = (m : Int) := by
          have h := and_mask hn64 hk60
          have e : (2 : Int) ^ k = (M : Int) := by rw [← HM.out]; norm_cast
          rw [e, hm] at h
          exact h
        rw [drop_cons (ds := a.ds) (m := rr) (by rw [HLL.out]; exact hrl), hdd, rs2_cons, hq, hm] at h1 h2
        have hdf : Digs (upd f' ww (q + 48)) (o ++ [q]) := by
          have := hdg.snoc q
          rw [hww, Nat.add_comm 48 q] at this
          exact this
        have HST2 : Hid (R3 b f a.ds k r0 Q dq neg a.tr w gq (.int .i64 ((rr : Int) + 1)) (.int .i64 ((ww : Int) + 1)) (.int .u64 ((m : Int) * 10 + (c : Int) - 48)) (wr.setCell ⟨b, ww, none⟩ (.int .u8 ((q : Int) + 48)))) := Lib.hid ⟨rr + 1, m * 10 + d, o ++ [q], upd f' ww (q + 48), by rw [HLL.out]; omega, by rw [List.length_append, List.length_singleton, hww]; omega, .inl (by rw [HLL.out]; omega), by rw [List.append_assoc]; exact h1, h2, by rw [HM.out]; omega, by go_num, congrArg (Value.int .i64) (by rw [List.length_append, List.length_singleton, hww]; omega), congrArg (Value.int .u64) (by omega), by have := hd.setDig (i := ww) w8 (q + 48); rw [← HLL.out] at this; simpa using this, hdf, fun i hi => by rw [List.length_append, List.length_singleton, hww] at hi; rw [upd_ne _ _ (by omega), hold i (by omega)], hbl.setCell (p := ⟨b, ww, none⟩) (Nat.le_refl _) _⟩
        clear hg hr hor h1 h2 hd hdg hold hbl hww hc hdd hfc hq hm hdf hd9
        go_wp2_with fail
        go_roundg gq
        case measure => omega
        case rel => exact HST2.out
      · have ri : ¬(rr : Int) < (L : Int) := by omega
        rw [List.drop_of_length_le (by rw [HLL.out]; omega)] at h1 h2
        have h1' : o = Q.1 := by
          have e : (PF.rs2 k [] nn).1 = [] := rfl
          rw [e, List.append_nil] at h1
          exact h1
        have h2' : nn = Q.2 := h2
        have HST4 : Hid (R4 b L k O TR dq neg w (k + 2) (.int .i64 (ww : Int)) (.int .u64 (nn : Int)) wr) := Lib.hid ⟨nn, o, f', a.tr, by rw [h1']; exact HQL.out, by rw [h1', h2']; exact HO.out, by rw [h1', h2']; exact HTR.out, PF.Fu.start k nn, by rw [HM.out]; exact hn, by rw [hww], rfl, hd, hdg, hbl⟩
        clear hg hr hor h1 h2 hd hdg hold hbl hww h1' h2'
        go_wp2_with fail
        go_loopg [5, 6] (k + 2) (fun g wv n wr => R4 b L k O TR dq neg w g wv n wr)
        case atStart => exact HST4.out
        case round =>
          obtain ⟨nn, o, f', tr', hol, h1, h2, hfu, hn, rfl, rfl, hd, hdg, hbl⟩ := hrel
          rw [HM.out] at hn
          have hn64 : nn < 18446744073709551616 := by omega
          obtain ⟨ww, hww⟩ : ∃ ww, o.length = ww := ⟨_, rfl⟩
          rw [hww] at h1 h2 hol ⊢
          by_cases hn0 : nn = 0
          · subst hn0
            rw [rs3_zero] at h1 h2
            have h1' : o = O := by simpa using h1
            have h2' : tr' = TR := by simpa using h2
            subst h1' h2'
            have f8 := hd.free 800
            have c8 := hd.cnd
            have HD3 := Lib.hid hd
            have HDG := Lib.hid hdg
            have HBL := Lib.hid hbl
            have HWW := Lib.hid hww
            have HOL := Lib.hid hol
            clear h1 h2 hfu hd hdg hbl hww hn hol
            go_wp2_with fail
            refine (trim256 b f' o dq neg tr' _ (by rw [HWW.out]; exact HD3.out.setNd _) HDG.out (by rw [HWW.out]; exact HOL.out)).mono ?_
            rintro e w2 h2
            have he := h2.1
            subst he
            have H2 := Lib.hid h2
            clear h2
            go_wp2_with fail
            go_end0
            rw [HFIN.out]
            exact apost_of_trim H2.out HDG.out (HBL.out.setCell (p := ⟨b, 800, none⟩) (Nat.le_refl _) _)
          · obtain ⟨g, rfl, hfu2⟩ := hfu.pos hn0
            have n1 : (0 : Int) < (nn : Int) := by omega
            obtain ⟨q, hq⟩ : ∃ q, nn / 2 ^ k = q := ⟨_, rfl⟩
            have qi : (nn : Int) / 2 ^ k = (q : Int) := by rw [← hq]; norm_cast
            have q9 : q ≤ 9 := by rw [← hq]; exact PF.dig_le9 (by rw [HM.out]; exact hn)
            obtain ⟨m, hm⟩ : ∃ m, nn % 2 ^ k = m := ⟨_, rfl⟩
            have hmM : m < M := by rw [← hm, HM.out]; exact Nat.mod_lt _ (by omega)
            have am : bits BinOp.and IntKind.u64 (nn : Int) ((M : Int) - 1) = (m : Int) := by
              have h := and_mask hn64 hk60
              have e : (2 : Int) ^ k = (M : Int) := by rw [← HM.out]; norm_cast
              rw [e, hm] at h
              exact h
            rw [rs3_succ, if_neg hn0, hq, hm] at h1 h2
            rw [hm] at hfu2
            by_cases hw8 : ww < 800
            · have w8i : (ww : Int) < 800 := by omega
              have cw := hd.dig (i := ww) hw8
              have fw := hd.free ww
              rw [if_pos hw8] at h1 h2
              have hdf : Digs (upd f' ww (q + 48)) (o ++ [q]) := by
                have := hdg.snoc q
                rw [hww, Nat.add_comm 48 q] at this
                exact this
              have HST2 : Hid (R4 b L k O TR dq neg w g (.int .i64 ((ww : Int) + 1)) (.int .u64 ((m : Int) * 10)) (wr.setCell ⟨b, ww, none⟩ (.int .u8 ((q : Int) + 48)))) := Lib.hid ⟨m * 10, o ++ [q], upd f' ww (q + 48), tr', by rw [List.length_append, List.length_singleton, hww]; omega, by rw [List.length_append, List.length_singleton, hww, List.append_assoc]; exact h1, by rw [List.length_append, List.length_singleton, hww]; exact h2, hfu2, by rw [HM.out]; omega, congrArg (Value.int .i64) (by rw [List.length_append, List.length_singleton, hww]; omega), by go_num, by have := hd.setDig (i := ww) hw8 (q + 48); simpa using this, hdf, hbl.setCell (p := ⟨b, ww, none⟩) (Nat.le_refl _) _⟩
              clear h1 h2 hfu hfu2 hd hdg hbl hww hdf hq hm hol hn0
              go_wp2_with fail
              go_roundg g
              case measure => omega
              case rel => exact HST2.out
            · have w8i : ¬(ww : Int) < 800 := by omega
              have ct := hd.ctr
              have ft := hd.free 803
              rw [if_neg hw8] at h1 h2
              by_cases hq0 : q = 0
              · have q1 : ¬(0 : Int) < (q : Int) := by omega
                rw [hq0] at h2
                have h2b : (tr' || (PF.rs3 k g (m * 10) ww).2) = TR := by rw [← h2]; rfl
                have HST2 : Hid (R4 b L k O TR dq neg w g (.int .i64 (ww : Int)) (.int .u64 ((m : Int) * 10)) wr) := Lib.hid ⟨m * 10, o, f', tr', by rw [hww]; omega, by rw [hww]; exact h1, by rw [hww]; exact h2b, hfu2, by rw [HM.out]; omega, by rw [hww], by go_num, hd, hdg, hbl⟩
                clear h1 h2 hfu hfu2 hd hdg hbl hww hq hm hol hn0 hq0 h2b
                go_wp2_with fail
                go_roundg g
                case measure => omega
                case rel => exact HST2.out
              · have q1 : (0 : Int) < (q : Int) := by omega
                have h2b : (true || (PF.rs3 k g (m * 10) ww).2) = TR := by rw [← h2, decide_eq_true (show 0 < q by omega)]; simp
                have HST2 : Hid (R4 b L k O TR dq neg w g (.int .i64 (ww : Int)) (.int .u64 ((m : Int) * 10)) (wr.setCell ⟨b, 803, none⟩ (.bool true))) := Lib.hid ⟨m * 10, o, f', true, by rw [hww]; omega, by rw [hww]; exact h1, by rw [hww]; exact h2b, hfu2, by rw [HM.out]; omega, by rw [hww], by go_num, hd.setTr true, hdg, hbl.setCell (p := ⟨b, 803, none⟩) (Nat.le_refl _) _⟩
                clear h1 h2 hfu hfu2 hd hdg hbl hww hq hm hol hn0 hq0 h2b
                go_wp2_with fail
                go_roundg g
                case measure => omega
                case rel => exact HST2.out
end Go.Proofs.YtagiddbfhlokcaaGreatDoor
/- A decimal shifted either way. Condition: the decimal's block, the table of how many digits a shift brings. -/
namespace Go.Proofs.YtagiddbfhlokcaaGreatDoor
open Go.RowKit Go.Dcm
set_option maxRecDepth 100000
theorem rsh_dp {a : PF.Dec} (h : a.Ok) (k : Nat) : a.dp - k ≤ (a.rsh k).dp ∧ (a.rsh k).dp ≤ a.dp := by
  obtain ⟨p, _, _⟩ := PF.rs1_ok h k
  obtain ⟨_, _, e⟩ := PF.rsh_ok h k
  have r1 := p.r1
  have rf : (PF.rs1 k a.ds 0 0).2.2 ≤ k + 1 := by
    rcases p.few with h | h
    · omega
    · have := (Nat.pow_lt_pow_iff_right (show 1 < 10 by omega)).1 (Nat.lt_of_lt_of_le h (PF.two_le_ten k))
      omega
  rw [e]
  omega
theorem lsh_dp {a : PF.Dec} (h : a.Ok) {k : Nat} (hk : 1 ≤ k) : a.dp ≤ (a.lsh k).dp ∧ (a.lsh k).dp ≤ a.dp + k := by
  obtain ⟨_, _, e⟩ := PF.lsh_ok h k
  have hl := PF.lsh_len h hk
  obtain ⟨c1, c2, _, _⟩ := PF.cN_spec hk
  rw [e, hl]
  split <;> omega
theorem APost.ends {b : Nat} {w : World} {a : PF.Dec} {neg : Bool} {e : Ending} {w' : World} (h : APost b w a neg e w') : e = .returned (.tuple #[]) := h.1
theorem Cheat.below {B o : Nat} {S : Nat → ByteArray} {w w' : World} {b : Nat} (h : Cheat B o S w) (hb : Below b w w') (h16 : 16 < b) (hB : B < b) : Cheat B o S w' :=
  ⟨(hb.cell (p := ⟨16, 0, none⟩) h16).trans h.v, fun k h1 h2 => (hb.cell (p := ⟨B, _, none⟩) hB).trans (h.d k h1 h2), fun k h1 h2 => ⟨(hb.cell (p := ⟨B, _, none⟩) hB).trans (h.s k h1 h2).1, (h.s k h1 h2).2⟩⟩
theorem shiftL227 (b : Nat) (f : Nat → Nat) (a : PF.Dec) (neg : Bool) (w : World) (hD : DAt 267 w b f a.ds.length a.dp neg a.tr) (hg : Digs f a.ds) (ha : a.Ok) (hp1 : -1000000 ≤ a.dp) (hp2 : a.dp ≤ 1000000) (k : Nat) (hk : 1 ≤ k) (hk60 : k ≤ 60) {B o : Nat} {S : Nat → ByteArray} (hc : Cheat B o S w) :
    Calls Tryz.prog 227 #[.pointer (some ⟨b, 0, none⟩), .int .i64 (k : Int)] w (APost b w (a.lsh k) neg) := by
  have cn := hD.cnd
  have hl1 := ha.val.2.2.1
  have L0 : ((a.ds.length : Int) == 0) = false := by rw [beq_eq_false_iff_ne]; omega
  have k0 : (0 : Int) < (k : Int) := by omega
  have k6 : ¬(60 : Int) < (k : Int) := by omega
  have M := Lib.hid (left257 b f a neg w hD hg ha hp1 hp2 k hk hk60 hc)
  clear hD hg ha hc hl1
  go_enter Tryz.func227, Tryz.ntmps227
  go_wp2_with fail
  go_loopg [1] 0 (fun _ s wr => s = .int .i64 (k : Int) ∧ w = wr)
  case atStart => exact ⟨rfl, rfl⟩
  case round =>
    obtain ⟨rfl, rfl⟩ := hrel
    go_wp2_with fail
    refine M.out.mono ?_
    rintro e w2 h2
    have he := h2.ends
    subst he
    have H2 := Lib.hid h2
    clear h2
    go_wp2_with fail
    go_end0
    exact H2.out
def ShR (b : Nat) (a : PF.Dec) (neg : Bool) (n0 : Nat) (w : World) (g : Nat) (s : Value) (wr : World) : Prop :=
  ∃ (a' : PF.Dec) (f' : Nat → Nat) (R : Int), 1 ≤ g ∧ g ≤ n0 ∧ a'.rshN g = a.rshN n0 ∧ a'.Ok ∧ a.dp - ((n0 : Int) - g) ≤ a'.dp ∧ a'.dp ≤ a.dp ∧ R = -(g : Int) ∧ s = .int .i64 R ∧ DAt 267 wr b f' a'.ds.length a'.dp neg a'.tr ∧ Digs f' a'.ds ∧ Below b w wr
theorem rshN_big {a : PF.Dec} {k : Nat} (h : 60 < k) : a.rshN k = (a.rsh 60).rshN (k - 60) := by rw [PF.Dec.rshN, if_pos h]
theorem rshN_small {a : PF.Dec} {k : Nat} (h : ¬60 < k) : a.rshN k = a.rsh k := by rw [PF.Dec.rshN, if_neg h]
theorem shiftR227 (b : Nat) (f : Nat → Nat) (a : PF.Dec) (neg : Bool) (w : World) (hD : DAt 267 w b f a.ds.length a.dp neg a.tr) (hg : Digs f a.ds) (ha : a.Ok) (hp1 : -500000 ≤ a.dp) (hp2 : a.dp ≤ 500000) (n : Nat) (hn : 1 ≤ n) (hn5 : n ≤ 400000) :
    Calls Tryz.prog 227 #[.pointer (some ⟨b, 0, none⟩), .int .i64 (-(n : Int))] w (APost b w (a.rshN n) neg) := by
  have cn := hD.cnd
  have hl1 := ha.val.2.2.1
  have L0 : ((a.ds.length : Int) == 0) = false := by rw [beq_eq_false_iff_ne]; omega
  obtain ⟨R, hR⟩ : ∃ R : Int, -(n : Int) = R := ⟨_, rfl⟩
  have k0 : ¬(0 : Int) < R := by omega
  have k1 : R < 0 := by omega
  have HST : Hid (ShR b a neg n w n (.int .i64 R) w) := Lib.hid ⟨a, f, R, hn, Nat.le_refl _, rfl, ha, by omega, by omega, hR.symm, rfl, hD, hg, Below.refl _ _⟩
  rw [hR]
  clear hD hg ha hl1 hR
  go_enter Tryz.func227, Tryz.ntmps227
  go_wp2_with fail
  go_loopg [1] n (fun g s wr => ShR b a neg n w g s wr)
  case atStart => exact HST.out
  case round =>
    obtain ⟨a', f', R, h1, hgn, hr, hok, hd1, hd2, hR, rfl, hd, hdg, hbl⟩ := hrel
    by_cases h60 : 60 < gk
    · have r6 : R < -60 := by omega
      rw [rshN_big h60] at hr
      have hdp := rsh_dp hok 60
      have M := Lib.hid (right258 b f' a' neg wr hd hdg hok (by omega) (by omega) 60 (by omega))
      have HR := Lib.hid hr
      have HOK := Lib.hid (PF.rsh_ok hok 60).1
      have HBL := Lib.hid hbl
      have HRR := Lib.hid hR
      have R1 : -500000 ≤ R := by omega
      have HD1 := Lib.hid hd1
      have HD2 := Lib.hid hd2
      have HDP := Lib.hid hdp
      clear hr hok hd1 hd2 hR hd hdg hbl hdp
      go_wp2_with fail
      refine M.out.mono ?_
      rintro e w2 h2
      have he := h2.ends
      subst he
      have H2 := Lib.hid h2
      clear h2
      go_wp2_with fail
      go_roundg (gk - 60)
      case measure => omega
      case rel =>
        obtain ⟨_, f2, hx, hy, hz⟩ := H2.out
        have e1 := HRR.out
        have e2 := HD1.out
        have e3 := HD2.out
        have e4 := HDP.out
        exact ⟨a'.rsh 60, f2, R + 60, by omega, by omega, HR.out, HOK.out, by omega, by omega, by omega, rfl, hx, hy, HBL.out.trans hz⟩
    · have r6 : ¬R < -60 := by omega
      rw [rshN_small h60] at hr
      have M := Lib.hid (right258 b f' a' neg wr hd hdg hok (by omega) (by omega) gk (by omega))
      have HR := Lib.hid hr
      have HBL := Lib.hid hbl
      have hRn : -R = (gk : Int) := by omega
      have R1 : -500000 ≤ R := by omega
      have R2 : R ≤ 0 := by omega
      clear hr hok hd1 hd2 hR hd hdg hbl
      go_wp2_with fail
      refine M.out.mono ?_
      rintro e w2 h2
      have he := h2.ends
      subst he
      have H2 := Lib.hid h2
      clear h2
      go_wp2_with fail
      go_end0
      obtain ⟨_, f2, hx, hy, hz⟩ := H2.out
      rw [← HR.out]
      exact ⟨rfl, f2, hx, hy, HBL.out.trans hz⟩
end Go.Proofs.YtagiddbfhlokcaaGreatDoor
/- Is a decimal to be rounded up; its whole part, rounded. Condition: the decimal's block. -/
namespace Go.Proofs.YtagiddbfhlokcaaGreatDoor
open Go.RowKit Go.Dcm
set_option maxRecDepth 100000
theorem up259 (b : Nat) (f : Nat → Nat) (a : PF.Dec) (neg : Bool) (w : World) (hD : DAt 267 w b f a.ds.length a.dp neg a.tr) (hg : Digs f a.ds) (ha : a.Ok) (n : Int) (hn : n ≤ 1000000) (hn2 : -1000000 ≤ n) :
    Calls Tryz.prog 259 #[.pointer (some ⟨b, 0, none⟩), .int .i64 n] w fun e w' => e = .returned (.bool (PF.upB a n)) ∧ w = w' := by
  obtain ⟨R, hR⟩ : ∃ R, PF.upB a n = R := ⟨_, rfl⟩
  rw [hR]
  have cn := hD.cnd
  have ct := hD.ctr
  have hle := ha.len
  obtain ⟨L, hL⟩ : ∃ L, a.ds.length = L := ⟨_, rfl⟩
  rw [hL] at cn hle
  unfold PF.upB at hR
  by_cases h1 : n < 0
  · have h1b : decide (n < 0) = true := by simpa using h1
    rw [if_pos (.inl h1)] at hR
    subst hR
    clear hD hg ha hL
    go_enter Tryz.func259, Tryz.ntmps259
    go_wp2_with fail
    go_ret
    exact ⟨rfl, rfl⟩
  · have h1b : decide (n < 0) = false := by simpa using h1
    have h10 : 0 ≤ n := by omega
    by_cases h2 : (L : Int) ≤ n
    · rw [if_pos (.inr (by rw [hL]; exact h2))] at hR
      subst hR
      clear hD hg ha hL
      go_enter Tryz.func259, Tryz.ntmps259
      go_wp2_with fail
      go_ret
      exact ⟨rfl, rfl⟩
    · obtain ⟨i, rfl⟩ : ∃ i : Nat, n = (i : Int) := ⟨n.toNat, by omega⟩
      rw [if_neg (by rw [hL]; omega)] at hR
      simp only [Int.toNat_natCast] at hR
      have i8 : (i : Int) < 800 := by omega
      have i8n : i < 800 := by omega
      have cd := hD.dig (i := i) i8n
      obtain ⟨d, hd⟩ : ∃ d, a.ds.getD i 0 = d := ⟨_, rfl⟩
      have hfc := hg i (by rw [hL]; omega)
      obtain ⟨c, hc⟩ : ∃ c, f i = c := ⟨_, rfl⟩
      rw [hc, hd] at hfc
      rw [hc] at cd
      simp only [hd, hL] at hR
      have hd9 : d ≤ 9 := by
        rw [← hd, List.getD_eq_getElem?_getD, List.getElem?_eq_getElem (by rw [hL]; omega), Option.getD_some]
        exact ha.dig _ (List.getElem_mem _)
      by_cases h5 : d = 5
      · have c53 : ((c : Int) == 53) = true := by rw [beq_iff_eq]; omega
        by_cases h6 : i + 1 = L
        · have e6 : ((i : Int) + 1 == (L : Int)) = true := by rw [beq_iff_eq]; omega
          rw [if_pos ⟨h5, h6⟩] at hR
          cases ht : a.tr with
          | true =>
            rw [ht] at ct hR
            have hR2 : true = R := by rw [← hR]; rfl
            subst hR2
            clear hD hg ha hL hR hc hd hfc h5 ht h6
            go_enter Tryz.func259, Tryz.ntmps259
            go_wp2_with fail
            go_ret
            exact ⟨rfl, rfl⟩
          | false =>
            rw [ht] at ct hR
            rw [Bool.false_or] at hR
            cases i with
            | zero =>
              have hR2 : false = R := by rw [← hR]; rfl
              subst hR2
              obtain rfl : L = 1 := by omega
              clear hD hg ha hL hR hc hd hfc h5 ht h6
              go_enter Tryz.func259, Tryz.ntmps259
              go_wp2_with fail
              go_ret
              exact ⟨rfl, rfl⟩
            | succ j =>
              have cj := hD.dig (i := j) (by omega)
              obtain ⟨x, hx⟩ : ∃ x, a.ds.getD j 0 = x := ⟨_, rfl⟩
              have hfx := hg j (by rw [hL]; omega)
              obtain ⟨y, hy⟩ : ∃ y, f j = y := ⟨_, rfl⟩
              rw [hy, hx] at hfx
              rw [hy] at cj
              have hx9 : x ≤ 9 := by
                rw [← hx, List.getD_eq_getElem?_getD, List.getElem?_eq_getElem (by rw [hL]; omega), Option.getD_some]
                exact ha.dig _ (List.getElem_mem _)
              obtain ⟨m, hm⟩ : ∃ m, x % 2 = m := ⟨_, rfl⟩
              have j1 : j + 1 - 1 = j := by omega
              have j0 : decide (0 < j + 1) = true := decide_eq_true (by omega)
              simp only [j1, hx, hm, j0, Bool.true_and] at hR
              clear j0 j1
              have ym : ((y : Int) - 48) % 2 = (m : Int) := by omega
              have y1 : 48 ≤ y := by omega
              have y2 : y ≤ 57 := by omega
              have mR : ((m : Int) != 0) = R := by rw [← hR]; rcases (show m = 0 ∨ m = 1 by omega) with h | h <;> rw [h] <;> rfl
              have j8 : (j : Int) < 800 := by omega
              obtain ⟨I, hI⟩ : ∃ I : Int, (((j + 1 : Nat)) : Int) = I := ⟨_, rfl⟩
              have hIj : I - 1 = (j : Int) := by omega
              have hI0 : 0 < I := by omega
              have hI8 : I < 800 := by omega
              have cI : w.cell? ⟨b, I.toNat, none⟩ = some (.int .u8 (c : Int)) := by rw [← hI]; exact cd
              rw [hI] at e6 h10 h1b h1 h2 ⊢
              clear hD hg ha hL hR hc hd hfc h5 ht h6 hx hfx hy hm hx9 hI cd i8
              go_enter Tryz.func259, Tryz.ntmps259
              go_wp2_with fail
              go_ret
              exact ⟨rfl, rfl⟩
        · have e6 : ((i : Int) + 1 == (L : Int)) = false := by rw [beq_eq_false_iff_ne]; omega
          rw [if_neg (fun h => h6 h.2)] at hR
          have hR2 : true = R := by rw [← hR, h5]; rfl
          subst hR2
          have c5 : (53 : Int) ≤ (c : Int) := by omega
          clear hD hg ha hL hR hc hd hfc h5 h6
          go_enter Tryz.func259, Tryz.ntmps259
          go_wp2_with fail
          go_ret
          exact ⟨rfl, rfl⟩
      · have c53 : ((c : Int) == 53) = false := by rw [beq_eq_false_iff_ne]; omega
        rw [if_neg (fun h => h5 h.1)] at hR
        by_cases h7 : 5 ≤ d
        · have c5 : (53 : Int) ≤ (c : Int) := by omega
          have hR2 : true = R := by rw [← hR, decide_eq_true h7]
          subst hR2
          clear hD hg ha hL hR hc hd hfc h5 h7
          go_enter Tryz.func259, Tryz.ntmps259
          go_wp2_with fail
          go_ret
          exact ⟨rfl, rfl⟩
        · have c5 : ¬(53 : Int) ≤ (c : Int) := by omega
          have hR2 : false = R := by rw [← hR, decide_eq_false h7]
          subst hR2
          clear hD hg ha hL hR hc hd hfc h5 h7
          go_enter Tryz.func259, Tryz.ntmps259
          go_wp2_with fail
          go_ret
          exact ⟨rfl, rfl⟩
def RI1 (ds : List Nat) (m : Nat) (w : World) (g : Nat) (i n : Value) (wr : World) : Prop :=
  ∃ k x : Nat, g + k = min m ds.length ∧ x = PF.val (ds.take k) % 18446744073709551616 ∧ i = .int .i64 (k : Int) ∧ n = .int .u64 (x : Int) ∧ w = wr
def RI2 (ds : List Nat) (m : Nat) (w : World) (g : Nat) (i n : Value) (wr : World) : Prop :=
  ∃ k x : Nat, g = m - k ∧ k ≤ m ∧ min m ds.length ≤ k ∧ x = PF.val (ds.take m) * 10 ^ (k - ds.length) % 18446744073709551616 ∧ i = .int .i64 (k : Int) ∧ n = .int .u64 (x : Int) ∧ w = wr
theorem val_take_succ {ds : List Nat} {k : Nat} (h : k < ds.length) : PF.val (ds.take (k + 1)) = PF.val (ds.take k) * 10 + ds.getD k 0 := by
  rw [take_snoc h, PF.val_append]
  simp [PF.val]
set_option maxHeartbeats 1000000 in
theorem rint246 (b : Nat) (f : Nat → Nat) (a : PF.Dec) (neg : Bool) (w : World) (hD : DAt 267 w b f a.ds.length a.dp neg a.tr) (hg : Digs f a.ds) (ha : a.Ok) (hp1 : -1000000 ≤ a.dp) (hp2 : a.dp ≤ 1000000) :
    Calls Tryz.prog 246 #[.pointer (some ⟨b, 0, none⟩)] w fun e w' => e = .returned (.int .u64 (PF.rint a : Int)) ∧ w = w' := by
  obtain ⟨R, hR⟩ : ∃ R, PF.rint a = R := ⟨_, rfl⟩
  rw [hR]
  have cn := hD.cnd
  have cp := hD.cdp
  have hle := ha.len
  have hdig := ha.dig
  have M := Lib.hid (up259 b f a neg w hD hg ha a.dp hp2 hp1)
  obtain ⟨L, hL⟩ : ∃ L, a.ds.length = L := ⟨_, rfl⟩
  obtain ⟨p, hp⟩ : ∃ p, a.dp = p := ⟨_, rfl⟩
  obtain ⟨U, hU⟩ : ∃ U, PF.upB a a.dp = U := ⟨_, rfl⟩
  unfold PF.rint at hR
  rw [hU, hp] at M
  rw [hU, hp] at hR
  rw [hL] at cn hle
  rw [hp] at cp hp1 hp2
  have HD := Lib.hid hD
  have HG := Lib.hid hg
  have HL := Lib.hid hL
  have HDIG := Lib.hid hdig
  clear hD hg ha hL hp hU hdig
  by_cases h20 : 20 < p
  · rw [if_pos h20] at hR
    subst hR
    clear hle
    go_enter Tryz.func246, Tryz.ntmps246
    go_wp2_with fail
    go_ret
    exact ⟨rfl, rfl⟩
  · rw [if_neg h20] at hR
    obtain ⟨m, hm⟩ : ∃ m, p.toNat = m := ⟨_, rfl⟩
    have hmp : ∀ k : Nat, ((k : Int) < p ↔ k < m) := fun k => by omega
    rw [hm, HL.out] at hR
    have HR := Lib.hid hR
    have HMP := Lib.hid hmp
    have hm20 : m ≤ 20 := by omega
    clear hR hmp hm
    go_enter Tryz.func246, Tryz.ntmps246
    go_upto_block 0 with (fail)
    go_cut [3, 4] from 10 to 36 (fun i n w' => ∃ g, RI2 a.ds m w g i n w')
    case first =>
      go_wp2_with fail
      go_loopg [3, 4] (min m L) (fun g i n wr => RI1 a.ds m w g i n wr)
      case atStart => exact ⟨0, 0, by rw [HL.out]; rfl, by simp [PF.val], rfl, rfl, rfl⟩
      case round =>
        obtain ⟨k, x, hg, hx, rfl, rfl, rfl⟩ := hrel
        rw [HL.out] at hg
        cases gk with
        | succ q =>
          have k1 : (k : Int) < p := (HMP.out k).2 (by omega)
          have k2 : (k : Int) < (L : Int) := by omega
          have k8 : (k : Int) < 800 := by omega
          have cd := HD.out.dig (i := k) (by omega)
          obtain ⟨d, hd⟩ : ∃ d, a.ds.getD k 0 = d := ⟨_, rfl⟩
          have hfc := HG.out k (by rw [HL.out]; omega)
          obtain ⟨c, hc⟩ : ∃ c, f k = c := ⟨_, rfl⟩
          rw [hc, hd] at hfc
          rw [hc] at cd
          have hd9 : d ≤ 9 := by
            rw [← hd, List.getD_eq_getElem?_getD, List.getElem?_eq_getElem (by rw [HL.out]; omega), Option.getD_some]
            exact HDIG.out _ (List.getElem_mem _)
          have hv := val_take_succ (ds := a.ds) (k := k) (by rw [HL.out]; omega)
          rw [hd] at hv
          have c1 : 48 ≤ c := by omega
          have c2 : c ≤ 57 := by omega
          obtain ⟨y, hy⟩ : ∃ y, x * 10 % 18446744073709551616 = y := ⟨_, rfl⟩
          obtain ⟨z, hz⟩ : ∃ z, (y + d) % 18446744073709551616 = z := ⟨_, rfl⟩
          have wy : IntKind.u64.wrap ((x : Int) * 10) = (y : Int) := by rw [IntKind.wrap_u64]; omega
          have wz : IntKind.u64.wrap ((y : Int) + ((c : Int) - 48)) = (z : Int) := by rw [IntKind.wrap_u64]; omega
          have hzz : z = PF.val (a.ds.take (k + 1)) % 18446744073709551616 := by rw [hv]; omega
          have hz8 : z < 18446744073709551616 := by omega
          have hx8 : x < 18446744073709551616 := by omega
          have hy8 : y < 18446744073709551616 := by omega
          have HST : Hid (RI1 a.ds m w q (.int .i64 ((k : Int) + 1)) (.int .u64 (z : Int)) w) := Lib.hid ⟨k + 1, z, by rw [HL.out]; omega, hzz, by go_num, rfl, rfl⟩
          clear hg hx hd hfc hc hd9 hv hy hz hzz
          go_wp2_with fail
          go_roundg q
          case measure => omega
          case rel => exact HST.out
        | zero =>
          have hx8 : x < 18446744073709551616 := by omega
          have hkm : k = min m L := by omega
          have HST : Hid (RI2 a.ds m w (m - k) (.int .i64 (k : Int)) (.int .u64 (x : Int)) w) := Lib.hid ⟨k, x, rfl, by omega, by rw [HL.out]; omega, by
            rw [hx]
            by_cases h : m ≤ L
            · rw [show k = m by omega, show m - a.ds.length = 0 by rw [HL.out]; omega, Nat.pow_zero, Nat.mul_one]
            · rw [show k - a.ds.length = 0 by rw [HL.out]; omega, Nat.pow_zero, Nat.mul_one, List.take_of_length_le (by rw [HL.out]; omega), List.take_of_length_le (by rw [HL.out]; omega)], rfl, rfl, rfl⟩
          have HKM := Lib.hid hkm
          by_cases hkm2 : k < m
          · have k1 : (k : Int) < p := (HMP.out k).2 hkm2
            have k2 : ¬(k : Int) < (L : Int) := by omega
            clear hg hx hkm hkm2
            go_wp2_with fail
            go_meet
            case rel => exact ⟨_, HST.out⟩
          · have k1 : ¬(k : Int) < p := fun h => hkm2 ((HMP.out k).1 h)
            clear hg hx hkm hkm2
            go_wp2_with fail
            go_meet
            case rel => exact ⟨_, HST.out⟩
    case rest =>
      obtain ⟨g, hst⟩ := hcut
      have HST := Lib.hid hst
      clear hst
      go_wp2_with fail
      go_loopg [3, 4] g (fun g i n wr => RI2 a.ds m w g i n wr)
      case atStart => exact HST.out
      case round =>
        obtain ⟨k, x, hg, hkm, hmk, hx, rfl, rfl, rfl⟩ := hrel
        rw [HL.out] at hmk hx
        by_cases hlt : k < m
        · have k1 : (k : Int) < p := (HMP.out k).2 hlt
          obtain ⟨y, hy⟩ : ∃ y, x * 10 % 18446744073709551616 = y := ⟨_, rfl⟩
          have wy : IntKind.u64.wrap ((x : Int) * 10) = (y : Int) := by rw [IntKind.wrap_u64]; omega
          have hyy : y = PF.val (a.ds.take m) * 10 ^ (k + 1 - L) % 18446744073709551616 := by
            rw [show k + 1 - L = k - L + 1 by omega, Nat.pow_succ, ← Nat.mul_assoc]
            omega
          have hy8 : y < 18446744073709551616 := by omega
          have hx8 : x < 18446744073709551616 := by omega
          have HST2 : Hid (RI2 a.ds m w (gk - 1) (.int .i64 ((k : Int) + 1)) (.int .u64 (y : Int)) w) := Lib.hid ⟨k + 1, y, by omega, by omega, by rw [HL.out]; omega, by rw [HL.out]; exact hyy, by go_num, rfl, rfl⟩
          have HG1 : Hid (0 < gk) := Lib.hid (by omega)
          clear hg hkm hmk hx hlt hy hyy
          go_wp2_with fail
          go_roundg (gk - 1)
          case measure => have := HG1.out; omega
          case rel => exact HST2.out
        · have k1 : ¬(k : Int) < p := fun h => hlt ((HMP.out k).1 h)
          have hkm2 : k = m := by omega
          rw [hkm2] at hx
          have hR := HR.out
          have hx8 : x < 18446744073709551616 := by omega
          cases U with
          | true =>
            have wx : IntKind.u64.wrap ((x : Int) + 1) = (R : Int) := by
              rw [IntKind.wrap_u64, ← hR]
              simp only [Bool.toNat_true]
              omega
            clear hg hkm hmk hx hlt hkm2 hR
            go_wp2_with fail
            refine M.out.mono ?_
            rintro e w' ⟨rfl, rfl⟩
            go_wp2_with fail
            go_ret
            exact ⟨rfl, rfl⟩
          | false =>
            have hxR : R = x := by
              rw [← hR]
              simp only [Bool.toNat_false]
              omega
            subst hxR
            clear hg hkm hmk hx hlt hkm2 hR
            go_wp2_with fail
            refine M.out.mono ?_
            rintro e w' ⟨rfl, rfl⟩
            go_wp2_with fail
            go_ret
            exact ⟨rfl, rfl⟩
end Go.Proofs.YtagiddbfhlokcaaGreatDoor
/- A scope with several labels; a frame whose slots are read one by one. No condition. -/
namespace Go.Proofs.YtagiddbfhlokcaaGreatDoor
open Go.RowKit
/-- As Q; by a goto to label l: J l. -/
def Jumps (J : Nat → Act → World → Prop) (Q : Exit → Act → World → Prop) : Exit → Act → World → Prop
  | .goto l, a, w => J l a w
  | e, a, w => Q e a w
theorem wp_scope_labels {P : Program} {a : Act} {w : World} {Q : Exit → Act → World → Prop} {c : Code} (J : Nat → Act → World → Prop) (μ : Nat → Act → World → Nat)
    (first : c.wp P (Jumps J Q) a w)
    (pass : ∀ l a w, J l a w → ∃ rest, findLabel c l = some rest ∧ rest.wp P (Jumps (fun l' a' w' => J l' a' w' ∧ μ l' a' w' < μ l a w) Q) a w) : (Code.scope c).wp P Q a w := by
  intro b k cs
  have key : ∀ n l a w, μ l a w = n → J l a w → ∃ rest, findLabel c l = some rest ∧ ∃ e a' w', Q e a' w' ∧ Arrives P (lone (b.at a (.code rest :: .inScope c :: k)) cs w) b k cs e a' w' := by
    intro n
    induction n using Nat.strongRecOn with
    | _ n ih =>
      intro l a w hn hJ
      obtain ⟨rest, hf, hp⟩ := pass l a w hJ
      refine ⟨rest, hf, ?_⟩
      obtain ⟨e, a₁, w₁, hq, harr⟩ := hp b (.inScope c :: k) cs
      cases e with
      | normal => exact ⟨.normal, a₁, w₁, hq, Steps.trans harr (.one step_inScope)⟩
      | exit id => exact ⟨.exit id, a₁, w₁, hq, fun k' hk => harr k' (by simp [exitTo, hk])⟩
      | goto l' =>
        obtain ⟨hJ', hlt⟩ := hq
        obtain ⟨rest', hf', e₂, a₂, w₂, hq₂, harr₂⟩ := ih _ (by omega) l' a₁ w₁ rfl hJ'
        exact ⟨e₂, a₂, w₂, hq₂, .of_steps (harr _ (by simp [gotoIn, hf'])) harr₂⟩
      | ret => exact ⟨_, a₁, w₁, hq, harr⟩
      | panic ch => exact ⟨_, a₁, w₁, hq, harr⟩
      | outgrown => exact ⟨_, a₁, w₁, hq, harr⟩
  obtain ⟨e, a₁, w₁, hq, harr⟩ := first b (.inScope c :: k) cs
  cases e with
  | normal => exact ⟨.normal, a₁, w₁, hq, .head step_scope (Steps.trans harr (.one step_inScope))⟩
  | exit id => exact ⟨.exit id, a₁, w₁, hq, fun k' hk => .head step_scope (harr k' (by simp [exitTo, hk]))⟩
  | goto l' =>
    obtain ⟨rest, hf, e₂, a₂, w₂, hq₂, harr₂⟩ := key _ l' a₁ w₁ rfl hq
    exact ⟨e₂, a₂, w₂, hq₂, .of_steps (.head step_scope (harr _ (by simp [gotoIn, hf]))) harr₂⟩
  | ret => exact ⟨_, a₁, w₁, hq, .of_steps (.one step_scope) harr⟩
  | panic ch => exact ⟨_, a₁, w₁, hq, .of_steps (.one step_scope) harr⟩
  | outgrown => exact ⟨_, a₁, w₁, hq, .of_steps (.one step_scope) harr⟩
def firstScope : Code → Option Code
  | .scope c => some c
  | .seq a b => match firstScope a with
    | some c => some c
    | none => firstScope b
  | .block _ c => firstScope c
  | _ => none
theorem all_slots (xs : Array Value) (n : Nat) (h : xs.size = n) : xs = ((List.range n).map fun i => xs.getD i undef).toArray := by
  subst h
  apply Array.ext
  · simp
  · intro i h1 h2
    simp [Array.getD, h1]
set_option maxRecDepth 100000 in
theorem slots243 (xs : Array Value) (h : xs.size = 243) : xs = #[xs.getD 0 undef, xs.getD 1 undef, xs.getD 2 undef, xs.getD 3 undef, xs.getD 4 undef, xs.getD 5 undef, xs.getD 6 undef, xs.getD 7 undef, xs.getD 8 undef, xs.getD 9 undef, xs.getD 10 undef, xs.getD 11 undef, xs.getD 12 undef, xs.getD 13 undef, xs.getD 14 undef, xs.getD 15 undef, xs.getD 16 undef, xs.getD 17 undef, xs.getD 18 undef, xs.getD 19 undef, xs.getD 20 undef, xs.getD 21 undef, xs.getD 22 undef, xs.getD 23 undef, xs.getD 24 undef, xs.getD 25 undef, xs.getD 26 undef, xs.getD 27 undef, xs.getD 28 undef, xs.getD 29 undef, xs.getD 30 undef, xs.getD 31 undef, xs.getD 32 undef, xs.getD 33 undef, xs.getD 34 undef, xs.getD 35 undef, xs.getD 36 undef, xs.getD 37 undef, xs.getD 38 undef, xs.getD 39 undef, xs.getD 40 undef, xs.getD 41 undef, xs.getD 42 undef, xs.getD 43 undef, xs.getD 44 undef, xs.getD 45 undef, xs.getD 46 undef, xs.getD 47 undef, xs.getD 48 undef, xs.getD 49 undef, xs.getD 50 undef, xs.getD 51 undef, xs.getD 52 undef, xs.getD 53 undef, xs.getD 54 undef, xs.getD 55 undef, xs.getD 56 undef, xs.getD 57 undef, xs.getD 58 undef, xs.getD 59 undef, xs.getD 60 undef, xs.getD 61 undef, xs.getD 62 undef, xs.getD 63 undef, xs.getD 64 undef, xs.getD 65 undef, xs.getD 66 undef, xs.getD 67 undef, xs.getD 68 undef, xs.getD 69 undef, xs.getD 70 undef, xs.getD 71 undef, xs.getD 72 undef, xs.getD 73 undef, xs.getD 74 undef, xs.getD 75 undef, xs.getD 76 undef, xs.getD 77 undef, xs.getD 78 undef, xs.getD 79 undef, xs.getD 80 undef, xs.getD 81 undef, xs.getD 82 undef, xs.getD 83 undef, xs.getD 84 undef, xs.getD 85 undef, xs.getD 86 undef, xs.getD 87 undef, xs.getD 88 undef, xs.getD 89 undef, xs.getD 90 undef, xs.getD 91 undef, xs.getD 92 undef, xs.getD 93 undef, xs.getD 94 undef, xs.getD 95 undef, xs.getD 96 undef, xs.getD 97 undef, xs.getD 98 undef, xs.getD 99 undef, xs.getD 100 undef, xs.getD 101 undef, xs.getD 102 undef, xs.getD 103 undef, xs.getD 104 undef, xs.getD 105 undef, xs.getD 106 undef, xs.getD 107 undef, xs.getD 108 undef, xs.getD 109 undef, xs.getD 110 undef, xs.getD 111 undef, xs.getD 112 undef, xs.getD 113 undef, xs.getD 114 undef, xs.getD 115 undef, xs.getD 116 undef, xs.getD 117 undef, xs.getD 118 undef, xs.getD 119 undef, xs.getD 120 undef, xs.getD 121 undef, xs.getD 122 undef, xs.getD 123 undef, xs.getD 124 undef, xs.getD 125 undef, xs.getD 126 undef, xs.getD 127 undef, xs.getD 128 undef, xs.getD 129 undef, xs.getD 130 undef, xs.getD 131 undef, xs.getD 132 undef, xs.getD 133 undef, xs.getD 134 undef, xs.getD 135 undef, xs.getD 136 undef, xs.getD 137 undef, xs.getD 138 undef, xs.getD 139 undef, xs.getD 140 undef, xs.getD 141 undef, xs.getD 142 undef, xs.getD 143 undef, xs.getD 144 undef, xs.getD 145 undef, xs.getD 146 undef, xs.getD 147 undef, xs.getD 148 undef, xs.getD 149 undef, xs.getD 150 undef, xs.getD 151 undef, xs.getD 152 undef, xs.getD 153 undef, xs.getD 154 undef, xs.getD 155 undef, xs.getD 156 undef, xs.getD 157 undef, xs.getD 158 undef, xs.getD 159 undef, xs.getD 160 undef, xs.getD 161 undef, xs.getD 162 undef, xs.getD 163 undef, xs.getD 164 undef, xs.getD 165 undef, xs.getD 166 undef, xs.getD 167 undef, xs.getD 168 undef, xs.getD 169 undef, xs.getD 170 undef, xs.getD 171 undef, xs.getD 172 undef, xs.getD 173 undef, xs.getD 174 undef, xs.getD 175 undef, xs.getD 176 undef, xs.getD 177 undef, xs.getD 178 undef, xs.getD 179 undef, xs.getD 180 undef, xs.getD 181 undef, xs.getD 182 undef, xs.getD 183 undef, xs.getD 184 undef, xs.getD 185 undef, xs.getD 186 undef, xs.getD 187 undef, xs.getD 188 undef, xs.getD 189 undef, xs.getD 190 undef, xs.getD 191 undef, xs.getD 192 undef, xs.getD 193 undef, xs.getD 194 undef, xs.getD 195 undef, xs.getD 196 undef, xs.getD 197 undef, xs.getD 198 undef, xs.getD 199 undef, xs.getD 200 undef, xs.getD 201 undef, xs.getD 202 undef, xs.getD 203 undef, xs.getD 204 undef, xs.getD 205 undef, xs.getD 206 undef, xs.getD 207 undef, xs.getD 208 undef, xs.getD 209 undef, xs.getD 210 undef, xs.getD 211 undef, xs.getD 212 undef, xs.getD 213 undef, xs.getD 214 undef, xs.getD 215 undef, xs.getD 216 undef, xs.getD 217 undef, xs.getD 218 undef, xs.getD 219 undef, xs.getD 220 undef, xs.getD 221 undef, xs.getD 222 undef, xs.getD 223 undef, xs.getD 224 undef, xs.getD 225 undef, xs.getD 226 undef, xs.getD 227 undef, xs.getD 228 undef, xs.getD 229 undef, xs.getD 230 undef, xs.getD 231 undef, xs.getD 232 undef, xs.getD 233 undef, xs.getD 234 undef, xs.getD 235 undef, xs.getD 236 undef, xs.getD 237 undef, xs.getD 238 undef, xs.getD 239 undef, xs.getD 240 undef, xs.getD 241 undef, xs.getD 242 undef] := all_slots xs 243 h
set_option maxRecDepth 100000 in
theorem frame_of243 (a : Act) (hs : a.tmps.size = 243) (hd : a.defers = []) : ∃ f : Nat → Value, a = ⟨#[f 0, f 1, f 2, f 3, f 4, f 5, f 6, f 7, f 8, f 9, f 10, f 11, f 12, f 13, f 14, f 15, f 16, f 17, f 18, f 19, f 20, f 21, f 22, f 23, f 24, f 25, f 26, f 27, f 28, f 29, f 30, f 31, f 32, f 33, f 34, f 35, f 36, f 37, f 38, f 39, f 40, f 41, f 42, f 43, f 44, f 45, f 46, f 47, f 48, f 49, f 50, f 51, f 52, f 53, f 54, f 55, f 56, f 57, f 58, f 59, f 60, f 61, f 62, f 63, f 64, f 65, f 66, f 67, f 68, f 69, f 70, f 71, f 72, f 73, f 74, f 75, f 76, f 77, f 78, f 79, f 80, f 81, f 82, f 83, f 84, f 85, f 86, f 87, f 88, f 89, f 90, f 91, f 92, f 93, f 94, f 95, f 96, f 97, f 98, f 99, f 100, f 101, f 102, f 103, f 104, f 105, f 106, f 107, f 108, f 109, f 110, f 111, f 112, f 113, f 114, f 115, f 116, f 117, f 118, f 119, f 120, f 121, f 122, f 123, f 124, f 125, f 126, f 127, f 128, f 129, f 130, f 131, f 132, f 133, f 134, f 135, f 136, f 137, f 138, f 139, f 140, f 141, f 142, f 143, f 144, f 145, f 146, f 147, f 148, f 149, f 150, f 151, f 152, f 153, f 154, f 155, f 156, f 157, f 158, f 159, f 160, f 161, f 162, f 163, f 164, f 165, f 166, f 167, f 168, f 169, f 170, f 171, f 172, f 173, f 174, f 175, f 176, f 177, f 178, f 179, f 180, f 181, f 182, f 183, f 184, f 185, f 186, f 187, f 188, f 189, f 190, f 191, f 192, f 193, f 194, f 195, f 196, f 197, f 198, f 199, f 200, f 201, f 202, f 203, f 204, f 205, f 206, f 207, f 208, f 209, f 210, f 211, f 212, f 213, f 214, f 215, f 216, f 217, f 218, f 219, f 220, f 221, f 222, f 223, f 224, f 225, f 226, f 227, f 228, f 229, f 230, f 231, f 232, f 233, f 234, f 235, f 236, f 237, f 238, f 239, f 240, f 241, f 242], []⟩ ∧ ∀ i, a.tmps.getD i undef = f i := by
  obtain ⟨xs, ds⟩ := a
  simp only at hs hd
  subst hd
  exact ⟨fun i => xs.getD i undef, by rw [← slots243 xs hs], fun _ => rfl⟩
end Go.Proofs.YtagiddbfhlokcaaGreatDoor
/- The loop of readFloat, place by place. No condition. -/
namespace PF
/-- The exponent that comes of a text. -/
def expo (E : RF × List UInt8) : Int := if E.1.man = 0 then 0 else (if E.1.dot then E.1.dp else (E.1.nd : Int)) + exV E.2 - E.1.nm
theorem readF_eq (l : List UInt8) : readF l = ((RF.run (body l) rf0).1.man, expo (RF.run (body l) rf0), (RF.run (body l) rf0).1.tr) := rfl
/-- At place k the state is st; E comes of it. -/
structure Rd (l : List UInt8) (E : RF × List UInt8) (st : RF) (k : Nat) (sv : Bool) : Prop where
  le : k ≤ l.length
  run : RF.run (l.drop k) st = E
  ok : st.Ok k
  okm : okM st.dot sv (l.drop k) = true
  saw : sv = true → st.saw = true
theorem rf0_okk (k : Nat) : rf0.Ok k := ⟨by simp [rf0], by simp [rf0], by simp [rf0], by simp [rf0], by simp [rf0], by simp [rf0], (fun _ h => by cases h), by simp [rf0]⟩
theorem Rd.start {l : List UInt8} {k : Nat} (hk : k ≤ l.length) (hm : okM false false (l.drop k) = true) : Rd l (RF.run (l.drop k) rf0) rf0 k false := ⟨hk, rfl, rf0_okk k, hm, fun h => by cases h⟩
theorem Rd.cons {l : List UInt8} {k : Nat} (hk : k < l.length) : l.drop k = l[k] :: l.drop (k + 1) := List.drop_eq_getElem_cons hk
theorem Rd.step {l : List UInt8} {E : RF × List UInt8} {st st' : RF} {k : Nat} {sv sv' : Bool} (h : Rd l E st k sv) (hk : k < l.length) (hs : st.step l[k] = some st') (hm : okM st'.dot sv' (l.drop (k + 1)) = true) (hv : sv' = true → st'.saw = true) : Rd l E st' (k + 1) sv' :=
  ⟨hk, by rw [← RF.run_some hs, ← Rd.cons hk]; exact h.run, h.ok.step hs, hm, hv⟩
theorem Rd.digit {l : List UInt8} {E : RF × List UInt8} {st : RF} {k : Nat} {sv : Bool} (h : Rd l E st k sv) (hk : k < l.length) (hd : isDig l[k] = true) :
    (l[k] = 48 ∧ st.nd = 0 → Rd l E { st with saw := true, dp := st.dp - 1 } (k + 1) true) ∧
    (¬(l[k] = 48 ∧ st.nd = 0) → st.nm < 19 → Rd l E { st with saw := true, ds := st.ds ++ [l[k].toNat - 48], man := st.man * 10 + (l[k].toNat - 48), nm := st.nm + 1 } (k + 1) true) ∧
    (¬(l[k] = 48 ∧ st.nd = 0) → ¬st.nm < 19 → Rd l E { st with saw := true, ds := st.ds ++ [l[k].toNat - 48], tr := st.tr || decide (l[k] ≠ 48) } (k + 1) true) := by
  have h46 : ¬l[k] = 46 := by intro e; rw [e] at hd; revert hd; decide
  have hm := h.okm
  rw [Rd.cons hk] at hm
  unfold okM at hm
  rw [if_pos hd] at hm
  refine ⟨fun hz => h.step hk ?_ hm fun _ => rfl, fun hz hn => h.step hk ?_ hm fun _ => rfl, fun hz hn => h.step hk ?_ hm fun _ => rfl⟩
  · unfold RF.step; rw [if_neg h46, if_pos hd, if_pos hz]
  · unfold RF.step; rw [if_neg h46, if_pos hd, if_neg hz, if_pos hn]
  · unfold RF.step; rw [if_neg h46, if_pos hd, if_neg hz, if_neg hn]
theorem Rd.point {l : List UInt8} {E : RF × List UInt8} {st : RF} {k : Nat} {sv : Bool} (h : Rd l E st k sv) (hk : k < l.length) (hd : l[k] = 46) : st.dot = false ∧ Rd l E { st with dot := true, dp := st.nd } (k + 1) true := by
  have hm := h.okm
  rw [Rd.cons hk] at hm
  unfold okM at hm
  rw [if_neg (by rw [hd]; decide), if_pos hd] at hm
  simp only [Bool.and_eq_true, Bool.not_eq_true'] at hm
  refine ⟨hm.1.1, h.step hk ?_ (okM_saw _ hm.2) fun _ => h.saw hm.1.2⟩
  unfold RF.step
  rw [if_pos hd, hm.1.1]
  rfl
theorem Rd.exp {l : List UInt8} {E : RF × List UInt8} {st : RF} {k : Nat} {sv : Bool} (h : Rd l E st k sv) (hk : k < l.length) (hd : isDig l[k] = false) (hp : ¬l[k] = 46) : (l[k] = 101 ∨ l[k] = 69) ∧ E = (st, l[k] :: l.drop (k + 1)) ∧ st.saw = true ∧ okX (l.drop (k + 1)) = true := by
  have hm := h.okm
  rw [Rd.cons hk] at hm
  unfold okM at hm
  rw [if_neg (by rw [hd]; decide), if_neg hp] at hm
  simp only [Bool.and_eq_true, Bool.or_eq_true, decide_eq_true_eq] at hm
  refine ⟨hm.1, ?_, h.saw hm.2.1, hm.2.2⟩
  rw [← h.run, Rd.cons hk, RF.run_none]
  unfold RF.step
  rw [if_neg hp, if_neg (by rw [hd]; decide)]
theorem Rd.fin {l : List UInt8} {E : RF × List UInt8} {st : RF} {sv : Bool} (h : Rd l E st l.length sv) : E = (st, []) ∧ st.saw = true := by
  have hm := h.okm
  have hr := h.run
  rw [List.drop_length] at hm hr
  exact ⟨hr.symm, h.saw (by simpa [okM] using hm)⟩
/-- Behind the e: perhaps a sign, then digits. -/
theorem okX_cases {r : List UInt8} (h : okX r = true) : ∃ c t, r = c :: t ∧ ((c = 43 ∧ okD t = true) ∨ (c = 45 ∧ okD t = true) ∨ (c ≠ 43 ∧ c ≠ 45 ∧ okD (c :: t) = true)) := by
  cases r with
  | nil => simp [okX] at h
  | cons c t =>
    refine ⟨c, t, rfl, ?_⟩
    have h : (if c = 43 ∨ c = 45 then okD t else okD (c :: t)) = true := h
    by_cases h1 : c = 43
    · rw [if_pos (.inl h1)] at h; exact .inl ⟨h1, h⟩
    · by_cases h2 : c = 45
      · rw [if_pos (.inr h2)] at h; exact .inr (.inl ⟨h2, h⟩)
      · rw [if_neg (by simp [h1, h2])] at h; exact .inr (.inr ⟨h1, h2, h⟩)
end PF
/- What ParseFloat answers, in plain Lean: the bits, and whether they are said to be too great. No condition. -/
namespace PF
theorem fbits_fin (neg : Bool) (a : Dec) : ((fbits neg a).2 = false → Fin (fbits neg a).1) ∧ ((fbits neg a).2 = true → Inf (fbits neg a).1) ∧ (fbits neg a).1 < 18446744073709551616 := by
  have hs : ∀ n : Bool, (if n then 2 ^ 63 else 0 : Nat) = 0 ∨ (if n then 2 ^ 63 else 0 : Nat) = 9223372036854775808 := by intro n; cases n <;> simp
  have h52 : (2 : Nat) ^ 52 = 4503599627370496 := by decide
  have h63 : (2 : Nat) ^ 63 = 9223372036854775808 := by decide
  have inf : ∀ n : Bool, Inf (2047 * 2 ^ 52 + (if n then 2 ^ 63 else 0)) ∧ 2047 * 2 ^ 52 + (if n then 2 ^ 63 else 0) < 18446744073709551616 := by
    intro n; cases n <;> unfold Inf <;> decide
  have zer : ∀ n : Bool, Fin (if n then 2 ^ 63 else 0) ∧ (if n then 2 ^ 63 else 0) < 18446744073709551616 := by
    intro n; cases n <;> unfold Fin <;> decide
  unfold fbits
  dsimp only
  split
  · exact ⟨fun _ => (zer neg).1, (fun h => by cases h), (zer neg).2⟩
  split
  · exact ⟨(fun h => by cases h), fun _ => (inf neg).1, (inf neg).2⟩
  split
  · exact ⟨fun _ => (zer neg).1, (fun h => by cases h), (zer neg).2⟩
  generalize fb2 5000 (fb1 5000 a 0).1 (fb1 5000 a 0).2 = q
  generalize (if q.2 - 1 < -1022 then (q.1.rshN (-1022 - (q.2 - 1)).toNat, (-1022 : Int)) else (q.1, q.2 - 1)) = b
  split
  · exact ⟨(fun h => by cases h), fun _ => (inf neg).1, (inf neg).2⟩
  generalize rint (b.1.lsh 53) = m
  split
  · exact ⟨(fun h => by cases h), fun _ => (inf neg).1, (inf neg).2⟩
  rename_i h1 h2
  have key : ∀ (c : Nat × Int), c.2 + 1023 < 2047 → Fin (c.1 % 2 ^ 52 + (((if c.1 / 2 ^ 52 % 2 = 0 then -1023 else c.2) + 1023).toNat % 2048) * 2 ^ 52 + (if neg then 2 ^ 63 else 0)) ∧ c.1 % 2 ^ 52 + (((if c.1 / 2 ^ 52 % 2 = 0 then -1023 else c.2) + 1023).toNat % 2048) * 2 ^ 52 + (if neg then 2 ^ 63 else 0) < 18446744073709551616 := by
    intro c hc
    have hm : c.1 % 2 ^ 52 < 2 ^ 52 := Nat.mod_lt _ (by decide)
    have hx : ((if c.1 / 2 ^ 52 % 2 = 0 then -1023 else c.2) + 1023).toNat ≤ 2046 := by split <;> omega
    generalize ((if c.1 / 2 ^ 52 % 2 = 0 then -1023 else c.2) + 1023).toNat = x at *
    generalize c.1 % 2 ^ 52 = y at *
    rw [Nat.mod_eq_of_lt (by omega : x < 2048), h52] at *
    unfold Fin
    rcases hs neg with h | h <;> rw [h] <;> constructor <;> omega
  have k := key (if m = 2 ^ 53 then (2 ^ 52, b.2 + 1) else (m, b.2)) (by split <;> simp only <;> omega)
  exact ⟨fun _ => k.1, (fun h => by cases h), k.2⟩
/-- Are two floats alike? -/
def eqF (x y : Nat) : Bool := Ieee.double.order x y == some .eq
/-- The decimal of a text. -/
def decOf (l : List UInt8) : Dec :=
  let (st, rest) := RF.run (body l) rf0
  ⟨st.ds, (if st.dot then st.dp else st.nd) + exV rest, false⟩
def atof (T : Int → Nat × Nat) (F : Nat → Nat) (l : List UInt8) : Nat × Bool :=
  let n := isNeg l
  let r := readF l
  if r.1 = 0 then (sgn n, false)
  else if 310 < r.2.1 then (sgn n + 9218868437227405312, true)
  else if r.2.1 < -345 then (sgn n, false)
  else match (if r.2.2 then none else exact64 F r.1 r.2.1 n) with
    | some f => (f, false)
    | none =>
      if r.2.2 then (if eqF (par64 T r.1 r.2.1 n).1 (par64 T (r.1 + 1) r.2.1 n).1 then par64 T r.1 r.2.1 n else fbits n (decOf l))
      else par64 T r.1 r.2.1 n
theorem sgn_fin (n : Bool) : Fin (sgn n) ∧ sgn n < 18446744073709551616 ∧ Inf (sgn n + 9218868437227405312) ∧ sgn n + 9218868437227405312 < 18446744073709551616 := by
  cases n <;> unfold Fin Inf <;> decide
theorem atof_fin {T : Int → Nat × Nat} (hT : ∀ p, (T p).1 < two64) {F : Nat → Nat} (hF : TabOk F) (l : List UInt8) : ((atof T F l).2 = false → Fin (atof T F l).1) ∧ ((atof T F l).2 = true → Inf (atof T F l).1) ∧ (atof T F l).1 < 18446744073709551616 := by
  have s := sgn_fin (isNeg l)
  unfold atof
  dsimp only
  split
  · exact ⟨fun _ => s.1, (fun h => by cases h), s.2.1⟩
  split
  · exact ⟨(fun h => by cases h), fun _ => s.2.2.1, s.2.2.2⟩
  split
  · exact ⟨fun _ => s.1, (fun h => by cases h), s.2.1⟩
  split
  · rename_i f hf
    split at hf
    · cases hf
    · obtain ⟨a, b⟩ := exact64_fin hF hf
      exact ⟨fun _ => a, (fun h => by cases h), b⟩
  · split
    · split
      · exact par64_fin T hT _ _ _
      · exact fbits_fin _ _
    · exact par64_fin T hT _ _ _
end PF
/- The bits of a decimal. Condition: the decimal's block, the tables. -/
namespace Go.Proofs.YtagiddbfhlokcaaGreatDoor
open Go.RowKit Go.Dcm
set_option maxRecDepth 100000
/-- The tables that the bits hang on. -/
structure FB (G B2 o2 B o : Nat) (S : Nat → ByteArray) (w : World) : Prop where
  m : w.cell? ⟨G, 0, none⟩ = some (.int .u64 52)
  x : w.cell? ⟨G, 1, none⟩ = some (.int .u64 11)
  bi : w.cell? ⟨G, 2, none⟩ = some (.int .i64 (-1023))
  p : w.cell? ⟨11, 0, none⟩ = some (.slice (some ⟨B2, o2, none⟩) 9 9)
  pt : ∀ i, i < 9 → w.cell? ⟨B2, o2 + i, none⟩ = some (.int .i64 (PF.powtab i : Int))
  ch : Cheat B o S w
theorem FB.below {G B2 o2 B o b : Nat} {S : Nat → ByteArray} {w w' : World} (h : FB G B2 o2 B o S w) (hb : Below b w w') (h16 : 16 < b) (hG : G < b) (hB2 : B2 < b) (hB : B < b) : FB G B2 o2 B o S w' :=
  ⟨(hb.cell (p := ⟨G, 0, none⟩) hG).trans h.m, (hb.cell (p := ⟨G, 1, none⟩) hG).trans h.x, (hb.cell (p := ⟨G, 2, none⟩) hG).trans h.bi, (hb.cell (p := ⟨11, 0, none⟩) (by omega : 11 < b)).trans h.p, fun i hi => (hb.cell (p := ⟨B2, _, none⟩) hB2).trans (h.pt i hi), h.ch.below hb h16 hB⟩
def Fr0 (b G : Nat) (a : Act) : Prop := a.defers = [] ∧ a.tmps.size = 243 ∧ a.tmps.getD 0 undef = .pointer (some ⟨b, 0, none⟩) ∧ a.tmps.getD 1 undef = .pointer (some ⟨G, 0, none⟩)
def JOut (b : Nat) (neg : Bool) (G B2 o2 B o : Nat) (S : Nat → ByteArray) (R : Nat × Bool) (w : World) (a : Act) (wr : World) : Prop :=
  Fr0 b G a ∧ ∃ (m X : Nat) (ov : Bool) (f : Nat → Nat) (nd dp : Int) (tr : Bool), a.tmps.getD 5 undef = .bool ov ∧ a.tmps.getD 6 undef = .int .i64 ((X : Int) - 1023) ∧ a.tmps.getD 7 undef = .int .u64 (m : Int) ∧ DAt 267 wr b f nd dp neg tr ∧ FB G B2 o2 B o S wr ∧ Below b w wr ∧ X ≤ 2047 ∧ m < 18446744073709551616 ∧ (m % 4503599627370496 + X * 4503599627370496 + PF.sgn neg, ov) = R
def JOvf (b : Nat) (neg : Bool) (G B2 o2 B o : Nat) (S : Nat → ByteArray) (R : Nat × Bool) (w : World) (a : Act) (wr : World) : Prop :=
  Fr0 b G a ∧ ∃ (f : Nat → Nat) (nd dp : Int) (tr : Bool), DAt 267 wr b f nd dp neg tr ∧ FB G B2 o2 B o S wr ∧ Below b w wr ∧ (2047 * 4503599627370496 + PF.sgn neg, true) = R
def JB (b : Nat) (neg : Bool) (G B2 o2 B o : Nat) (S : Nat → ByteArray) (R : Nat × Bool) (w : World) : Nat → Act → World → Prop
  | 0 => JOut b neg G B2 o2 B o S R w
  | 1 => JOvf b neg G B2 o2 B o S R w
  | _ => fun _ _ => False
theorem and2047 : ∀ s : Fin 2048, bits BinOp.and IntKind.i64 (s.val : Int) 2047 = (s.val : Int) := by decide +kernel
def RetB (b : Nat) (R : Nat × Bool) (w : World) (a : Act) (wr : World) : Prop :=
  a.defers = [] ∧ a.tmps.getD 4 undef = .int .u64 (R.1 : Int) ∧ a.tmps.getD 5 undef = .bool R.2 ∧ Below b w wr
set_option maxHeartbeats 1000000 in
theorem pass_out (b : Nat) (neg : Bool) (G B2 o2 B o : Nat) (S : Nat → ByteArray) (R : Nat × Bool) (w : World) (Q : Exit → Act → World → Prop) (hret : ∀ a' w', RetB b R w a' w' → Q .ret a' w') (rest : Code) (hr : (Tryz.f212.body.bind firstScope).bind (findLabel · 0) = some rest)
    (a : Act) (wr : World) (hJ : JOut b neg G B2 o2 B o S R w a wr) : rest.wp Tryz.prog Q a wr := by
  change some _ = some rest at hr
  cases hr
  obtain ⟨⟨hd0, hsz, g0, g1⟩, m, X, ov, f, nd, dp, tr, g5, g6, g7, hd, hfb, hbl, hX, hm, hR⟩ := hJ
  obtain ⟨fr, rfl, hf⟩ := frame_of243 a hsz hd0
  rw [hf] at g0 g1 g5 g6 g7
  rw [g0, g1, g5, g6, g7]
  have k1 := hfb.m
  have k2 := hfb.x
  have k3 := hfb.bi
  have cng := hd.cneg
  obtain ⟨lo, hlo⟩ : ∃ lo, m % 4503599627370496 = lo := ⟨_, rfl⟩
  have am : bits BinOp.and IntKind.u64 (m : Int) 4503599627370495 = (lo : Int) := by
    have h := bits_and_u64_nat m 4503599627370495 hm (by omega)
    rw [show (4503599627370495 : Nat) = 2 ^ 52 - 1 from rfl, Nat.and_two_pow_sub_one_eq_mod, show (2 : Nat) ^ 52 = 4503599627370496 from rfl, hlo] at h
    exact h
  have ax := and2047 ⟨X, by omega⟩
  simp only at ax
  obtain ⟨y, hy⟩ : ∃ y, X * 4503599627370496 = y := ⟨_, rfl⟩
  obtain ⟨z, hz⟩ : ∃ z, lo + y = z := ⟨_, rfl⟩
  have wy : IntKind.u64.wrap ((X : Int) * 4503599627370496) = (y : Int) := by rw [IntKind.wrap_u64]; omega
  have wx : IntKind.i64.wrap ((X : Int) - 1023 - -1023) = (X : Int) := by rw [IntWalk.i64_in _ (by omega)]; omega
  have oz : bits BinOp.or IntKind.u64 (lo : Int) (y : Int) = (z : Int) := by
    have h := bits_or_u64_nat lo y (by omega) (by omega)
    rw [h, ← hz]
    congr 1
    rw [Nat.or_comm, ← hy, Nat.mul_comm, Nat.add_comm lo, Nat.mul_comm, Nat.mul_comm X]
    exact (Nat.two_pow_add_eq_or_of_lt (i := 52) (by omega) X).symm
  have on : bits BinOp.or IntKind.u64 (z : Int) 9223372036854775808 = ((z + 9223372036854775808 : Nat) : Int) := by
    have h := bits_or_u64_nat z 9223372036854775808 (by omega) (by omega)
    refine (show bits BinOp.or IntKind.u64 (z : Int) 9223372036854775808 = ((z ||| 9223372036854775808 : Nat) : Int) from h).trans ?_
    congr 1
    rw [Nat.or_comm, Nat.add_comm]
    exact (Nat.two_pow_add_eq_or_of_lt (i := 63) (by omega) 1).symm
  have HR := Lib.hid hR
  have HRET := Lib.hid hret
  have HBL := Lib.hid hbl
  have z63 : z < 9223372036854775808 := by omega
  have X0 : (0 : Int) ≤ (X : Int) := by omega
  have HZ : Hid (m % 4503599627370496 + X * 4503599627370496 = z) := Lib.hid (by omega)
  clear hf hsz hd0 hR hret hbl hd hfb hlo hy hz hm
  cases neg with
  | false =>
    go_wp2_with fail
    go_quiet (fail)
    go_wp2_with fail
    refine HRET.out _ _ ⟨rfl, ?_, ?_, below_drewN HBL.out _⟩
    · rw [← HR.out, HZ.out]; rfl
    · rw [← HR.out]; rfl
  | true =>
    go_wp2_with fail
    go_quiet (fail)
    go_wp2_with fail
    go_quiet (fail)
    go_wp2_with fail
    refine HRET.out _ _ ⟨rfl, ?_, ?_, by rw [World.drewN_drewN]; exact below_drewN HBL.out _⟩
    · rw [← HR.out, HZ.out]; rfl
    · rw [← HR.out]; rfl
set_option maxHeartbeats 1000000 in
theorem pass_ovf (b : Nat) (neg : Bool) (G B2 o2 B o : Nat) (S : Nat → ByteArray) (R : Nat × Bool) (w : World) (Q : Exit → Act → World → Prop) (hret : ∀ a' w', RetB b R w a' w' → Q .ret a' w') (rest : Code) (hr : (Tryz.f212.body.bind firstScope).bind (findLabel · 1) = some rest)
    (a : Act) (wr : World) (hJ : JOvf b neg G B2 o2 B o S R w a wr) : rest.wp Tryz.prog Q a wr := by
  change some _ = some rest at hr
  cases hr
  obtain ⟨⟨hd0, hsz, g0, g1⟩, f, nd, dp, tr, hd, hfb, hbl, hR⟩ := hJ
  obtain ⟨fr, rfl, hf⟩ := frame_of243 a hsz hd0
  rw [hf] at g0 g1
  rw [g0, g1]
  have k1 := hfb.m
  have k2 := hfb.x
  have k3 := hfb.bi
  have HRET := Lib.hid hret
  have cng := hd.cneg
  have a1 : bits BinOp.and IntKind.u64 0 4503599627370495 = 0 := by kernel_rfl
  have a2 : bits BinOp.and IntKind.i64 2047 2047 = 2047 := by kernel_rfl
  have a3 : bits BinOp.or IntKind.u64 0 9218868437227405312 = 9218868437227405312 := by kernel_rfl
  have a4 : bits BinOp.or IntKind.u64 9218868437227405312 9223372036854775808 = 18442240474082181120 := by kernel_rfl
  have HD := Lib.hid hd
  have HFB := Lib.hid hfb
  have HBL := Lib.hid hbl
  have HR := Lib.hid hR
  clear hf hsz hd0 hR hret hbl hd hfb
  cases neg with
  | false =>
    go_wp2_with fail
    go_quiet (fail)
    go_wp2_with fail
    go_step3
    go_wp2_with fail
    go_quiet (fail)
    go_wp2_with fail
    refine HRET.out _ _ ⟨rfl, ?_, ?_, below_drewN HBL.out _⟩
    · rw [← HR.out]; rfl
    · rw [← HR.out]; rfl
  | true =>
    go_wp2_with fail
    go_quiet (fail)
    go_wp2_with fail
    go_step3
    go_wp2_with fail
    go_quiet (fail)
    go_wp2_with fail
    go_quiet (fail)
    go_wp2_with fail
    refine HRET.out _ _ ⟨rfl, ?_, ?_, below_drewN (below_drewN HBL.out _) _⟩
    · rw [← HR.out]; rfl
    · rw [← HR.out]; rfl
end Go.Proofs.YtagiddbfhlokcaaGreatDoor
