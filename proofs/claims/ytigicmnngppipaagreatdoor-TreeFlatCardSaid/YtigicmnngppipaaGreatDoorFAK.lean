/- Several texts of this proof, laid together. Conditions: as each says. -/
import Derived.Test.YtigicmnngppipaaGreatDoorFAJ
import Derived.Lib.SmallJoins
import Derived.Lib.Builder
import Derived.Deep.LoopGhost
import Derived.IntWalk
/- A shift to the left, digit by digit from behind. No condition. -/
namespace PF
/-- What is carried behind j digits. -/
def nJ (ds : List Nat) (k j : Nat) : Nat := val (ds.drop (ds.length - j)) * 2 ^ k / 10 ^ j
theorem nJ_zero (ds : List Nat) (k : Nat) : nJ ds k 0 = 0 := by
  unfold nJ
  rw [Nat.sub_zero, List.drop_length]
  simp [val]
theorem nJ_full (ds : List Nat) (k : Nat) : nJ ds k ds.length = val ds * 2 ^ k / 10 ^ ds.length := by
  unfold nJ
  rw [Nat.sub_self, List.drop_zero]
theorem nJ_lt {ds : List Nat} (hd : ∀ d ∈ ds, d ≤ 9) (k : Nat) {j : Nat} (hj : j ≤ ds.length) : nJ ds k j < 2 ^ k := by
  unfold nJ
  have h := val_lt (ds := ds.drop (ds.length - j)) fun d h => hd d (List.mem_of_mem_drop h)
  rw [List.length_drop, show ds.length - (ds.length - j) = j by omega] at h
  rw [Nat.div_lt_iff_lt_mul (Nat.pow_pos (by omega)), Nat.mul_comm]
  exact Nat.mul_lt_mul_of_pos_left h (Nat.two_pow_pos k)
theorem nJ_step {ds : List Nat} (k : Nat) {j : Nat} (hj : j < ds.length) : (nJ ds k j + ds.getD (ds.length - 1 - j) 0 * 2 ^ k) / 10 = nJ ds k (j + 1) ∧ (nJ ds k j + ds.getD (ds.length - 1 - j) 0 * 2 ^ k) % 10 = val ds * 2 ^ k / 10 ^ j % 10 := by
  have p10 : 0 < 10 ^ j := Nat.pow_pos (by omega)
  have hi : ds.length - (j + 1) < ds.length := by omega
  have e1 : ds.drop (ds.length - (j + 1)) = ds.getD (ds.length - 1 - j) 0 :: ds.drop (ds.length - j) := by
    rw [List.drop_eq_getElem_cons hi, show ds.length - (j + 1) + 1 = ds.length - j by omega]
    congr 1
    rw [List.getD_eq_getElem?_getD, List.getElem?_eq_getElem (by omega), Option.getD_some]
    congr 1
    omega
  have e2 : (ds.drop (ds.length - j)).length = j := by rw [List.length_drop]; omega
  have e3 : val (ds.drop (ds.length - (j + 1))) = ds.getD (ds.length - 1 - j) 0 * 10 ^ j + val (ds.drop (ds.length - j)) := by rw [e1, val_cons, e2]
  have e4 : val ds = val (ds.take (ds.length - (j + 1))) * 10 ^ (j + 1) + val (ds.drop (ds.length - (j + 1))) := by
    conv => lhs; rw [← List.take_append_drop (ds.length - (j + 1)) ds]
    rw [val_append, List.length_drop, show ds.length - (ds.length - (j + 1)) = j + 1 by omega]
  have e5 : nJ ds k j + ds.getD (ds.length - 1 - j) 0 * 2 ^ k = val (ds.drop (ds.length - (j + 1))) * 2 ^ k / 10 ^ j := by
    unfold nJ
    rw [e3, Nat.add_mul, Nat.mul_right_comm, Nat.add_comm (_ * 10 ^ j), Nat.add_mul_div_right _ _ p10]
  rw [e5]
  constructor
  · unfold nJ
    rw [Nat.div_div_eq_div_mul, ← Nat.pow_succ]
  · rw [e4, Nat.add_mul]
    generalize val (ds.take (ds.length - (j + 1))) = A
    generalize val (ds.drop (ds.length - (j + 1))) = B
    have : A * 10 ^ (j + 1) * 2 ^ k = 10 * (A * 2 ^ k) * 10 ^ j := by
      rw [Nat.pow_succ]
      simp only [Nat.mul_assoc, Nat.mul_left_comm, Nat.mul_comm]
    rw [this, Nat.add_comm, Nat.add_mul_div_right _ _ p10, Nat.add_mul_mod_self_left]
/-- The places that are written, from behind: where they lie among the digits. -/
theorem dgs_at {V K p : Nat} (hK : (dgs V).length = K) (hp : p < K) : (dgs V)[p]? = some (V / 10 ^ (K - 1 - p) % 10) := by
  have := dgs_get V p (by omega)
  rw [hK] at this
  exact this
theorem any_drop_step {l : List Nat} {m : Nat} (hm : m < l.length) : (l.drop m).any (· ≠ 0) = (decide (l[m] ≠ 0) || (l.drop (m + 1)).any (· ≠ 0)) := by
  rw [List.drop_eq_getElem_cons hm, List.any_cons]
end PF
/- A decimal's block: 800 places for digits, their number, the place of the point, the sign, the mark of digits cut off. No condition. -/
namespace Go.Dcm
open Go.RowKit
def rowV (f : Nat → Nat) (nd dp : Int) (neg tr : Bool) : Array Value := (Array.ofFn (n := 800) fun i => Value.int .u8 (f i.val : Int)) ++ #[.int .i64 nd, .int .i64 dp, .bool neg, .bool tr]
theorem rowV_size (f : Nat → Nat) (nd dp : Int) (neg tr : Bool) : (rowV f nd dp neg tr).size = 804 := by simp [rowV]
theorem rowV_get (f : Nat → Nat) (nd dp : Int) (neg tr : Bool) (i : Nat) : (rowV f nd dp neg tr)[i]? = if i < 800 then some (.int .u8 (f i : Int)) else #[Value.int .i64 nd, .int .i64 dp, .bool neg, .bool tr][i - 800]? := by
  unfold rowV
  rw [Array.getElem?_append]
  simp only [Array.size_ofFn]
  split
  · rename_i h
    rw [Array.getElem?_ofFn]
    simp [h]
  · rfl
def upd (f : Nat → Nat) (i x : Nat) : Nat → Nat := fun j => if j = i then x else f j
theorem upd_same (f : Nat → Nat) (i x : Nat) : upd f i x i = x := by simp [upd]
theorem upd_ne (f : Nat → Nat) {i j : Nat} (x : Nat) (h : j ≠ i) : upd f i x j = f j := by simp [upd, h]
theorem set_lt (f : Nat → Nat) (nd dp : Int) (neg tr : Bool) {i : Nat} (hi : i < 800) (x : Nat) : (rowV f nd dp neg tr).setIfInBounds i (.int .u8 (x : Int)) = rowV (upd f i x) nd dp neg tr := by
  apply Array.ext_getElem?
  intro j
  rw [Array.getElem?_setIfInBounds, rowV_size, rowV_get, rowV_get]
  by_cases h : i = j
  · subst h
    rw [if_pos rfl, if_pos (by omega), if_pos hi, upd_same]
  · rw [if_neg h]
    by_cases h8 : j < 800
    · rw [if_pos h8, if_pos h8, upd_ne _ _ (by omega)]
    · rw [if_neg h8, if_neg h8]
theorem set_end (f : Nat → Nat) (nd dp : Int) (neg tr : Bool) (k : Nat) (v : Value) : (rowV f nd dp neg tr).setIfInBounds (800 + k) v = (Array.ofFn (n := 800) fun i => Value.int .u8 (f i.val : Int)) ++ (#[Value.int .i64 nd, .int .i64 dp, .bool neg, .bool tr].setIfInBounds k v) := by
  apply Array.ext_getElem?
  intro j
  rw [Array.getElem?_setIfInBounds, rowV_size, rowV_get, Array.getElem?_append]
  simp only [Array.size_ofFn]
  by_cases h : 800 + k = j
  · subst h
    by_cases hk : k < 4
    · rw [if_pos rfl, if_pos (show 800 + k < 804 by omega), if_neg (show ¬800 + k < 800 by omega), Nat.add_sub_cancel_left, Array.getElem?_setIfInBounds, if_pos rfl, if_pos (by simpa using hk)]
    · rw [if_pos rfl, if_neg (show ¬800 + k < 804 by omega), if_neg (show ¬800 + k < 800 by omega), Nat.add_sub_cancel_left, Array.getElem?_setIfInBounds, if_pos rfl, if_neg (by simpa using hk)]
  · rw [if_neg h]
    by_cases h8 : j < 800
    · rw [if_pos h8, if_pos h8, Array.getElem?_ofFn]; simp [h8]
    · rw [if_neg h8, if_neg h8, Array.getElem?_setIfInBounds, if_neg (by omega)]
theorem set_nd (f : Nat → Nat) (nd dp : Int) (neg tr : Bool) (x : Int) : (rowV f nd dp neg tr).setIfInBounds 800 (.int .i64 x) = rowV f x dp neg tr := set_end f nd dp neg tr 0 _
theorem set_dp (f : Nat → Nat) (nd dp : Int) (neg tr : Bool) (x : Int) : (rowV f nd dp neg tr).setIfInBounds 801 (.int .i64 x) = rowV f nd x neg tr := set_end f nd dp neg tr 1 _
theorem set_neg (f : Nat → Nat) (nd dp : Int) (neg tr : Bool) (x : Bool) : (rowV f nd dp neg tr).setIfInBounds 802 (.bool x) = rowV f nd dp x tr := set_end f nd dp neg tr 2 _
theorem set_tr (f : Nat → Nat) (nd dp : Int) (neg tr : Bool) (x : Bool) : (rowV f nd dp neg tr).setIfInBounds 803 (.bool x) = rowV f nd dp neg x := set_end f nd dp neg tr 3 _
/-- Block b holds a decimal's cells; T: its type's number. -/
def DAt (T : TypeId) (w : World) (b : Nat) (f : Nat → Nat) (nd dp : Int) (neg tr : Bool) : Prop := w.heap[b]? = some (.cells (rowV f nd dp neg tr) T (0, 0))
variable {T : TypeId} {w : World} {b : Nat} {f : Nat → Nat} {nd dp : Int} {neg tr : Bool}
theorem DAt.dig (h : DAt T w b f nd dp neg tr) {i : Nat} (hi : i < 800) : w.cell? ⟨b, i, none⟩ = some (.int .u8 (f i : Int)) := by
  rw [Lib.cell_of_heap h, rowV_get, if_pos hi]
theorem DAt.cnd (h : DAt T w b f nd dp neg tr) : w.cell? ⟨b, 800, none⟩ = some (.int .i64 nd) := by rw [Lib.cell_of_heap h, rowV_get]; rfl
theorem DAt.cdp (h : DAt T w b f nd dp neg tr) : w.cell? ⟨b, 801, none⟩ = some (.int .i64 dp) := by rw [Lib.cell_of_heap h, rowV_get]; rfl
theorem DAt.cneg (h : DAt T w b f nd dp neg tr) : w.cell? ⟨b, 802, none⟩ = some (.bool neg) := by rw [Lib.cell_of_heap h, rowV_get]; rfl
theorem DAt.ctr (h : DAt T w b f nd dp neg tr) : w.cell? ⟨b, 803, none⟩ = some (.bool tr) := by rw [Lib.cell_of_heap h, rowV_get]; rfl
theorem DAt.free (h : DAt T w b f nd dp neg tr) (i : Nat) : w.frozen? ⟨b, i, none⟩ = false := Lib.frozen_of_heap h i
theorem DAt.lt (h : DAt T w b f nd dp neg tr) : b < w.heap.size := by
  rcases Nat.lt_or_ge b w.heap.size with h' | h'
  · exact h'
  · unfold DAt at h; rw [Array.getElem?_eq_none h'] at h; cases h
theorem DAt.setDig (h : DAt T w b f nd dp neg tr) {i : Nat} (hi : i < 800) (x : Nat) : DAt T (w.setCell ⟨b, i, none⟩ (.int .u8 (x : Int))) b (upd f i x) nd dp neg tr := by
  have := Joins.block_setCell (i := i) h (.int .u8 (x : Int))
  rw [set_lt _ _ _ _ _ hi] at this
  exact this
theorem DAt.setNd (h : DAt T w b f nd dp neg tr) (x : Int) : DAt T (w.setCell ⟨b, 800, none⟩ (.int .i64 x)) b f x dp neg tr := by
  have := Joins.block_setCell (i := 800) h (.int .i64 x)
  rw [set_nd] at this
  exact this
theorem DAt.setDp (h : DAt T w b f nd dp neg tr) (x : Int) : DAt T (w.setCell ⟨b, 801, none⟩ (.int .i64 x)) b f nd x neg tr := by
  have := Joins.block_setCell (i := 801) h (.int .i64 x)
  rw [set_dp] at this
  exact this
theorem DAt.setNeg (h : DAt T w b f nd dp neg tr) (x : Bool) : DAt T (w.setCell ⟨b, 802, none⟩ (.bool x)) b f nd dp x tr := by
  have := Joins.block_setCell (i := 802) h (.bool x)
  rw [set_neg] at this
  exact this
theorem DAt.setTr (h : DAt T w b f nd dp neg tr) (x : Bool) : DAt T (w.setCell ⟨b, 803, none⟩ (.bool x)) b f nd dp neg x := by
  have := Joins.block_setCell (i := 803) h (.bool x)
  rw [set_tr] at this
  exact this
theorem DAt.drew (h : DAt T w b f nd dp neg tr) (n : Nat) : DAt T (w.drewN n) b f nd dp neg tr := by
  unfold DAt at *
  simpa using h
/-- The first places hold the digits. -/
def Digs (f : Nat → Nat) (ds : List Nat) : Prop := ∀ i, i < ds.length → f i = 48 + ds.getD i 0
theorem Digs.at {f : Nat → Nat} {ds : List Nat} (h : Digs f ds) {i : Nat} (hi : i < ds.length) : f i = 48 + ds[i] := by
  rw [h i hi, List.getD_eq_getElem?_getD, List.getElem?_eq_getElem hi, Option.getD_some]
theorem Digs.take {f : Nat → Nat} {ds : List Nat} (h : Digs f ds) (n : Nat) : Digs f (ds.take n) := by
  intro i hi
  rw [List.length_take] at hi
  rw [h i (by omega), List.getD_eq_getElem?_getD, List.getD_eq_getElem?_getD, List.getElem?_take_of_lt (by omega)]
theorem Digs.snoc {f : Nat → Nat} {ds : List Nat} (h : Digs f ds) (d : Nat) : Digs (upd f ds.length (48 + d)) (ds ++ [d]) := by
  intro i hi
  rw [List.length_append, List.length_singleton] at hi
  rw [List.getD_eq_getElem?_getD]
  by_cases e : i = ds.length
  · subst e
    rw [upd_same, List.getElem?_append_right (Nat.le_refl _)]
    simp
  · rw [upd_ne _ _ e, h i (by omega), List.getD_eq_getElem?_getD, List.getElem?_append_left (by omega)]
end Go.Dcm
/- A decimal's zeros behind its digits cut off. Condition: the decimal's block. -/
namespace Go.Proofs.YtigicmnngppipaaGreatDoor
open Go.RowKit Go.Dcm
set_option maxRecDepth 100000
theorem trimL_snoc0 (l : List Nat) : PF.trimL (l ++ [0]) = PF.trimL l := by
  unfold PF.trimL
  rw [List.reverse_append, List.reverse_singleton, List.singleton_append, List.dropWhile_cons]
  rfl
theorem trimL_snoc (l : List Nat) {d : Nat} (h : d ≠ 0) : PF.trimL (l ++ [d]) = l ++ [d] := by
  unfold PF.trimL
  rw [List.reverse_append, List.reverse_singleton, List.singleton_append, List.dropWhile_cons, if_neg (by simp [h])]
  simp
theorem take_snoc {ds : List Nat} {m : Nat} (h : m < ds.length) : ds.take (m + 1) = ds.take m ++ [ds.getD m 0] := by
  rw [List.take_succ_eq_append_getElem h, List.getD_eq_getElem?_getD, List.getElem?_eq_getElem h, Option.getD_some]
/-- What a function leaves of a decimal: its block, and all below it. -/
def DPost (b : Nat) (w : World) (f : Nat → Nat) (nd dp : Int) (neg tr : Bool) (e : Ending) (w' : World) : Prop := e = .returned (.tuple #[]) ∧ DAt 242 w' b f nd dp neg tr ∧ Below b w w'
theorem below_drewN {B : Nat} {a w : World} (h : Below B a w) (n : Nat) : Below B a (w.drewN n) := ⟨h.os, h.tape, h.output, h.size, h.block⟩
theorem trim256 (b : Nat) (f : Nat → Nat) (ds : List Nat) (dp : Int) (neg tr : Bool) (w : World) (hD : DAt 242 w b f ds.length dp neg tr) (hg : Digs f ds) (hl : ds.length ≤ 800) :
    Calls Tryz.prog 219 #[.pointer (some ⟨b, 0, none⟩)] w (DPost b w f (PF.trimL ds).length (if PF.trimL ds = [] then 0 else dp) neg tr) := by
  obtain ⟨dp', hdp⟩ : ∃ x, (if PF.trimL ds = [] then 0 else dp) = x := ⟨_, rfl⟩
  obtain ⟨L, hL⟩ : ∃ x, (PF.trimL ds).length = x := ⟨_, rfl⟩
  rw [hdp, hL]
  have HDP := Lib.hid hdp
  have HL := Lib.hid hL
  have HD := Lib.hid hD
  have HG := Lib.hid hg
  clear hD hg hdp hL
  go_enter Tryz.func219, Tryz.ntmps219
  go_wp2_with fail
  go_loopg [] ds.length (fun k wr => k ≤ ds.length ∧ PF.trimL (ds.take k) = PF.trimL ds ∧ DAt 242 wr b f k dp neg tr ∧ Below b w wr)
  case atStart => exact ⟨Nat.le_refl _, by rw [List.take_length], HD.out, Below.refl _ _⟩
  case round =>
    obtain ⟨hk, ht, hd, hb⟩ := hrel
    have HT := Lib.hid ht
    have HB := Lib.hid hb
    cases gk with
    | zero =>
      have cn := hd.cnd
      have cp := hd.cdp
      have fr := hd.free 801
      obtain rfl : L = 0 := by rw [← HL.out, ← HT.out]; rfl
      obtain rfl : 0 = dp' := by rw [← HDP.out, ← HT.out]; rfl
      have HE := Lib.hid hd
      clear ht hb hd hk
      go_wp2_with fail
      go_quiet (fail)
      go_wp2_with fail
      go_end0
      exact ⟨rfl, (HE.out.drew _).setDp 0, (Go.below_drewN HB.out _).setCell (p := ⟨b, 801, none⟩) (Nat.le_refl _) _⟩
    | succ m =>
      have cn : wr.cell? ⟨b, 800, none⟩ = some (.int .i64 ((m : Int) + 1)) := by simpa using hd.cnd
      have cp := hd.cdp
      have fr := hd.free 800
      have cd := hd.dig (i := m) (by omega)
      obtain ⟨N, hN⟩ : ∃ N : Int, (m : Int) + 1 = N := ⟨_, rfl⟩
      rw [hN] at cn
      have n0 : 0 < N := by omega
      have wn : IntKind.i64.wrap (N - 1) = (m : Int) := by rw [IntWalk.i64_in _ (by omega)]; omega
      have m8 : m < 800 := by omega
      obtain ⟨x, hx⟩ : ∃ x, f m = x := ⟨_, rfl⟩
      rw [hx] at cd
      have hfm := HG.out m (by omega)
      rw [hx] at hfm
      have hts := take_snoc (ds := ds) (m := m) (by omega)
      obtain ⟨d, hdd⟩ : ∃ d, ds.getD m 0 = d := ⟨_, rfl⟩
      rw [hdd] at hfm hts
      have HH := Lib.hid hd
      have HTS := Lib.hid hts
      have hkl : m + 1 ≤ ds.length := hk
      have HK := Lib.hid hkl
      by_cases h0 : d = 0
      · have e48 : ((x : Int) == 48) = true := by rw [beq_iff_eq]; omega
        have H0 := Lib.hid h0
        have HN : Hid ((m : Int) + 1 = N) := Lib.hid hN
        clear ht hb hd hfm hts hk hkl hdd hN hx h0
        go_wp2_with fail
        go_quiet (fail)
        go_wp2_with fail
        go_roundg m
        case measure => omega
        case rel => exact ⟨by have := HK.out; omega, by rw [← HT.out, HTS.out, H0.out, trimL_snoc0], (HH.out.drew _).setNd _, (Go.below_drewN HB.out _).setCell (p := ⟨b, 800, none⟩) (Nat.le_refl _) _⟩
      · have e48 : ((x : Int) == 48) = false := by rw [beq_eq_false_iff_ne]; omega
        have hd2 : PF.trimL ds = ds.take (m + 1) := by rw [← ht, hts, trimL_snoc _ h0]
        have hlen : L = m + 1 := by rw [← HL.out, hd2, List.length_take]; omega
        have hne : PF.trimL ds ≠ [] := by intro e; rw [hd2] at e; have := congrArg List.length e; rw [List.length_take, List.length_nil] at this; omega
        obtain rfl : dp = dp' := by rw [← HDP.out, if_neg hne]
        have HLN := Lib.hid hlen
        have nz : (N == 0) = false := by rw [beq_eq_false_iff_ne]; omega
        clear ht hb hd hfm hts hk hkl hdd hN hx h0 hd2 hlen hne
        go_wp2_with fail
        go_quiet (fail)
        go_wp2_with fail
        go_end0
        exact ⟨rfl, by rw [HLN.out]; exact HH.out.drew _, Go.below_drewN HB.out _⟩
end Go.Proofs.YtigicmnngppipaaGreatDoor
/- Is a decimal's beginning less than a text of digits? Condition: the decimal's block. -/
namespace Go.Proofs.YtigicmnngppipaaGreatDoor
open Go.RowKit Go.Dcm
set_option maxRecDepth 100000
/-- A text of digits. -/
def DText (s : ByteArray) (t : List Nat) : Prop := s.size = t.length ∧ ∀ i (h : i < s.size), s[i].toNat = 48 + t.getD i 0
def LtRel (ds t : List Nat) (w : World) (g : Nat) (i : Value) (wr : World) : Prop := ∃ k n : Nat, g + k = t.length ∧ i = .int .i64 (k : Int) ∧ PF.plt (ds.drop k) (t.drop k) = PF.plt ds t ∧ wr = w.drewN n
theorem plt_cons (x y : Nat) (a b : List Nat) : PF.plt (x :: a) (y :: b) = if x = y then PF.plt a b else decide (x < y) := rfl
theorem drop_cons {ds : List Nat} {m : Nat} (h : m < ds.length) : ds.drop m = ds.getD m 0 :: ds.drop (m + 1) := by
  rw [List.drop_eq_getElem_cons h, List.getD_eq_getElem?_getD, List.getElem?_eq_getElem h, Option.getD_some]
theorem less273 (b : Nat) (f : Nat → Nat) (ds : List Nat) (nd dp : Int) (neg tr : Bool) (w : World) (hD : DAt 242 w b f nd dp neg tr) (hg : Digs f ds) (hl : ds.length ≤ 800) (s : ByteArray) (t : List Nat) (hs : DText s t) (cap : Nat) :
    Calls Tryz.prog 240 #[.slice (some ⟨b, 0, none⟩) ds.length cap, .string s] w fun e w' => e = .returned (.bool (PF.plt ds t)) ∧ ∃ n, w' = w.drewN n := by
  obtain ⟨R, hR⟩ : ∃ R, PF.plt ds t = R := ⟨_, rfl⟩
  rw [hR]
  have HR := Lib.hid hR
  have HD := Lib.hid hD
  have HG := Lib.hid hg
  have HS := Lib.hid hs
  clear hD hg hs hR
  go_enter Tryz.func240, Tryz.ntmps240
  go_wp2_with fail
  go_loopg [5] (t.length) (fun g i wr => LtRel ds t w g i wr)
  case atStart => exact ⟨0, 0, rfl, rfl, rfl, rfl⟩
  case round =>
    obtain ⟨k, n, hk, rfl, hp, rfl⟩ := hrel
    have hst := HS.out.1
    by_cases h1 : k < t.length
    · have i1 : (k : Int) < (s.size : Int) := by omega
      have i1' : k < s.size := by omega
      rw [drop_cons h1] at hp
      by_cases h2 : k < ds.length
      · have i2 : ¬(ds.length : Int) ≤ (k : Int) := by omega
        have i2' : (k : Int) < (ds.length : Int) := by omega
        have cd := HD.out.dig (i := k) (by omega)
        obtain ⟨x, hx⟩ : ∃ x, f k = x := ⟨_, rfl⟩
        obtain ⟨c, hc⟩ : ∃ c, s[k] = c := ⟨_, rfl⟩
        have hx2 := HG.out k h2
        have hc2 := HS.out.2 k i1'
        rw [hx] at cd hx2
        rw [hc] at hc2
        rw [drop_cons h2, plt_cons] at hp
        obtain ⟨d, hd⟩ : ∃ d, ds.getD k 0 = d := ⟨_, rfl⟩
        obtain ⟨e, he⟩ : ∃ e, t.getD k 0 = e := ⟨_, rfl⟩
        rw [hd] at hp hx2
        rw [he] at hp hc2
        by_cases h3 : d = e
        · have t1 : ((x : Int) != (c.toNat : Int)) = false := by rw [bne_eq_false_iff_eq]; omega
          rw [if_pos h3] at hp
          have HP := Lib.hid hp
          clear hp hst hx hx2 hc2 hd he h3
          go_wp2_with fail
          go_quiet (fail)
          go_wp2_with fail
          go_roundg (gk - 1)
          case measure => omega
          case rel => exact ⟨k + 1, _, by omega, by go_num, HP.out, rfl⟩
        · have t1 : ((x : Int) != (c.toNat : Int)) = true := by rw [bne_iff_ne]; omega
          have t2 : decide (x < c.toNat) = R := by
            rw [← HR.out, ← hp, if_neg h3]
            exact decide_eq_decide.2 (by omega)
          clear hp hst hx hx2 hc2 hd he h3
          go_wp2_with fail
          go_quiet (fail)
          go_wp2_with fail
          go_quiet (fail)
          go_wp2_with fail
          go_ret
          exact ⟨rfl, _, by rw [World.drewN_drewN, World.drewN_drewN]⟩
      · have i2 : (ds.length : Int) ≤ (k : Int) := by omega
        have hR2 : R = true := by
          rw [← HR.out, ← hp, List.drop_of_length_le (by omega)]
          rfl
        subst hR2
        clear hp hst
        go_wp2_with fail
        go_ret
        exact ⟨rfl, _, rfl⟩
    · have i1 : ¬(k : Int) < (s.size : Int) := by omega
      have hR2 : R = false := by
        rw [← HR.out, ← hp, List.drop_of_length_le (l := t) (by omega)]
        cases ds.drop k <;> rfl
      subst hR2
      clear hp hst
      go_wp2_with fail
      go_ret
      exact ⟨rfl, _, rfl⟩
end Go.Proofs.YtigicmnngppipaaGreatDoor
/- How many digits a shift to the left brings. No condition. -/
namespace PF
theorem val_dgs : ∀ n, val (dgs n) = n := by
  intro n
  induction n using Nat.strongRecOn with
  | ind n ih =>
    by_cases h : n = 0
    · subst h; rw [dgs_zero]; rfl
    · rw [dgs_pos h, val_append, ih (n / 10) (by omega)]
      simp [val]
      omega
theorem five_mod : ∀ k, 1 ≤ k → 5 ^ k % 10 = 5
  | 0, h => by omega
  | 1, _ => rfl
  | k + 2, _ => by
    have := five_mod (k + 1) (by omega)
    rw [Nat.pow_succ]
    omega
/-- How many digits 5 ^ k has. -/
def cN (k : Nat) : Nat := (dgs (5 ^ k)).length
theorem cN_spec {k : Nat} (h : 1 ≤ k) : 1 ≤ cN k ∧ cN k ≤ k ∧ 10 ^ (cN k - 1) ≤ 5 ^ k ∧ 5 ^ k < 10 ^ cN k := by
  have h5 : 5 ^ k ≠ 0 := by have := Nat.pow_pos (n := k) (show 0 < 5 by omega); omega
  obtain ⟨a, b, c⟩ := dgs_len (5 ^ k) h5
  refine ⟨c, ?_, a, b⟩
  have : 5 ^ k < 10 ^ k := Nat.pow_lt_pow_left (by omega) (by omega)
  have := (Nat.pow_lt_pow_iff_right (show 1 < 10 by omega)).1 (Nat.lt_of_le_of_lt a this)
  unfold cN
  omega
theorem lsh_len {a : Dec} (h : a.Ok) {k : Nat} (hk : 1 ≤ k) : (dgs (val a.ds * 2 ^ k)).length = a.ds.length + (k - cN k + 1) - (if plt a.ds (dgs (5 ^ k)) then 1 else 0) := by
  obtain ⟨v1, v2, v3, v4⟩ := h.val
  obtain ⟨c1, c2, c3, c4⟩ := cN_spec hk
  have h5 : 5 ^ k ≠ 0 := by have := Nat.pow_pos (n := k) (show 0 < 5 by omega); omega
  have hl : dgs (5 ^ k) ≠ [] → (dgs (5 ^ k)).getLast? ≠ some 0 := by
    intro _
    rw [dgs_pos h5, List.getLast?_append, five_mod k hk]
    simp
  have hp := plt_iff a.ds (dgs (5 ^ k)) h.dig (dgs_le _) hl
  rw [val_dgs] at hp
  have hcN : (dgs (5 ^ k)).length = cN k := rfl
  rw [hcN] at hp
  have hg := grow_bounds (v := val a.ds) (L := a.ds.length) (k := k) (C := cN k) (K := a.ds.length + (k - cN k + 1) - (if val a.ds * 10 ^ cN k < 5 ^ k * 10 ^ a.ds.length then 1 else 0)) v1 v2 v3 c2 c3 c4 c1 rfl
  have e : (if plt a.ds (dgs (5 ^ k)) then 1 else 0 : Nat) = if val a.ds * 10 ^ cN k < 5 ^ k * 10 ^ a.ds.length then 1 else 0 := by
    by_cases hx : val a.ds * 10 ^ cN k < 5 ^ k * 10 ^ a.ds.length
    · rw [if_pos hx, if_pos (hp.2 hx)]
    · rw [if_neg hx, if_neg (fun h => hx (hp.1 h))]
  rw [e]
  refine dgs_len_eq ?_ hg.1 hg.2
  split <;> omega
end PF
