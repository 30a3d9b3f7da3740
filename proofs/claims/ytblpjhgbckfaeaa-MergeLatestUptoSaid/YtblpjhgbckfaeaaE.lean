/- The map's keys, collected: maps.Keys, slices.Collect, slices.AppendSeq at pairs of strings (after the guide's worked text on Collect). No condition. -/
import Derived.Test.YtblpjhgbckfaeaaD
import Derived.RangeFuncGives
import Derived.Sort.MapsRangeIn
import Derived.WalkKit
import Derived.OwnWalkIn
import Derived.TacticsInMore
import Derived.RegionIn
import Derived.LoopNIn
import Derived.LoopIn
import Derived.Maps.AppendAt
import Derived.Maps.OwnIn
import Derived.Shelf.Abstract
import Derived.RangeFuncBound
import Derived.RangeFuncCalls
namespace Go.Proofs.Ytblpjhgbckfaeaa
open Go.RowKit Go.Maps Go.Sort Go.Shelf
attribute [local go_sem] Oper.semAt_some
/-- What a map has come to: each key once. -/
def AllK {H : Type} (D0 : DataW H) (ss : List (List UInt8)) : Prop := ss.Nodup ∧ ∀ x, x ∈ ss ↔ has D0 (.string x) = true
set_option maxRecDepth 100000 in
set_option maxHeartbeats 1000000 in
theorem keys1_in {R : Value → Option (DataW Unit × List MemPlace)} (F : Fence) (n : Nat) (h50 : F.fn 21) (hro : F.round = none) (hn : 1 ≤ n) (l Bm b nn : Nat) (D0 : DataW Unit) (J : List (List UInt8) → World → Prop)
    (hY : ∀ pre x W, J pre W → pre.length < Maps.size D0 → YieldAt F (n - 1) Try.prog l #[encK x] W fun e W' => e = .returned (.bool true) ∧ J (pre ++ [x]) W' ∧ KeepsWalks W W')
    (W : World) (hJ : AbidesFrom W.heap.size J) (hm : W.cell? ⟨Bm, 0, none⟩ = some (.map (some b))) (hown : W.ownsMap Try.prog 47 R b nn D0) (h0 : J [] W) :
    CallsIn F n Try.prog 21 #[.func (.yield l) #[] #[], .pointer (some ⟨Bm, 0, none⟩)] W fun e W' => (∃ v, e = .returned v) ∧ ∃ ss : List (List UInt8), AllK D0 ss ∧ J ss W' := by
  refine callsIn_of_wp Try.func21 rfl h50 ?_ hro
  simp only [Try.ntmps21, List.size_toArray, List.length_cons, List.length_nil, Nat.reduceAdd, Nat.reduceSub, Array.replicate_succ, Array.replicate_zero, List.push_toArray, List.append_toArray, List.nil_append, List.cons_append]
  gi_wp2_with (first
    | (gi_at_range; refine wpListIn_range_own _ rfl _ 45 rfl 47 48 keyed47 Try.underlying45 _ b nn _ rfl hown ?_; intro w0 hrg0 hg0 hs0)
    | gi_in)
  go_frame
  gi_loopw [3] (fun _ wr => ∃ (left : Lit → Bool) (cnt : Nat) (ss : List (List UInt8)), wr.ranges Try.prog 47 R b W.heap.size nn D0 left cnt ∧ ss.length + cnt ≤ Maps.size D0 ∧ Collected D0 left ss ∧ J ss wr)
    (fun _ wr => wr.rangeLeft b W.heap.size)
  case atStart =>
    exact ⟨_, _, [], hrg0, by simp, Collected.start D0, hJ [] W w0 none h0 hg0 (fun r e => by cases e)⟩
  case round =>
    obtain ⟨left, cnt, ss, hrg, hcs, hC, hJs⟩ := hrel
    gi_wp2_with (first
      | (gi_at_next; refine wpListIn_next_ranges _ rfl _ rfl 47 keyed47 R encK id (fun key kl hk => by obtain ⟨s, f, hv, hs, hf, _⟩ := key47_inv hk; exact ⟨kB s f, by rw [hv, encK_of hs hf]⟩) (fun v _ _ => ⟨v, rfl⟩) b W.heap.size nn _ _ _ rfl hrg ?_ ?_)
      | gi_in)
    · intro hc0 hl0
      gi_wp2
      go_end0
      exact ⟨⟨_, rfl⟩, ss, ⟨hC.1, fun x => by rw [hC.2 x, hl0]; simp⟩, hJs⟩
    · intro x c kl yd yp w2 cnt2 hkey hlk hv hat hrg2 hlt hg2 hs2 hen
      obtain ⟨s', f', ex, hs', hf', rfl⟩ := key47_inv hkey
      rw [kL_kB] at hlk hat
      have ex2 : encK (kB s' f') = .agg #[.string s', .string f'] := encK_of hs' hf'
      have ex3 : encK x = .agg #[.string s', .string f'] := ex
      have hJ2 : J ss w2 := hJ ss wr w2 (some W.heap.size) hJs hg2 (fun r e => by cases e; exact ⟨Nat.le_refl _, hrg.iter_walk⟩)
      obtain ⟨w3, hw3⟩ : ∃ w3, w2.alloc (.cells #[.string s', .string f'] 47) = w3 := ⟨_, rfl⟩
      have hgA : w2.grownBy w3 none := by rw [← hw3]; exact ⟨rfl, rfl, rfl, by simp, fun k hk _ => heap_alloc_old w2 _ hk⟩
      have hkA : KeepsWalks w2 w3 := by rw [← hw3]; exact KeepsWalks.alloc _ _
      have hnew : w3.heap[w2.heap.size]? = some (.cells #[.string s', .string f'] 47 (0, 0)) := by rw [← hw3]; exact heap_alloc_new w2 _
      have n0 : w3.cell? ⟨w2.heap.size, 0, none⟩ = some (.string s') := by simp [World.cell?, hnew]
      have n1 : w3.cell? ⟨w2.heap.size, 1, none⟩ = some (.string f') := by simp [World.cell?, hnew]
      have hJ3 : J ss w3 := hJ ss w2 w3 none hJ2 hgA (fun r e => by cases e)
      obtain ⟨fn, tmps, assign, body, hy, hR⟩ := hY ss (kB s' f') w3 hJ3 (by omega)
      rw [ex2] at hy
      rw [ex3]
      clear hs2 hkey ex
      gi_wp2
      refine hR.mono ?_
      rintro e W3 ⟨rfl, hJ4, hk3⟩
      gi_wp2
      have hrg3 := (hrg2.of_walks hkA).of_walks hk3
      go_roundw
      case rel => exact ⟨_, cnt2, ss ++ [kB s' f'], hrg3, by simp; omega, hC.step hlk hat, hJ4⟩
      case measure => rw [hrg3.left_eq, hrg.left_eq]; exact hlt
theorem keys_gives {R : Value → Option (DataW Unit × List MemPlace)} (F : Fence) (n : Nat) (h50 : F.fn 21) (hro : F.round = none) (hn : 1 ≤ n) (Bm b nn : Nat) (D0 : DataW Unit) (w : World) (hBm : Bm < w.heap.size)
    (hm : w.cell? ⟨Bm, 0, none⟩ = some (.map (some b))) (hown : w.ownsMap Try.prog 47 R b nn D0) :
    SeqGives F n Try.prog 21 #[.pointer (some ⟨Bm, 0, none⟩)] encK (AllK D0) (Maps.size D0) w := fun l J W hW hJ hY h0 => by
  have hown' : W.ownsMap Try.prog 47 R b nn D0 := by
    have hbl := hown.lt
    obtain ⟨es, clock, hb, Ft, hs, hD⟩ := hown
    exact ⟨es, clock, (hW.block b hbl).trans hb, Ft, hs, hD⟩
  exact keys1_in F n h50 hro hn l Bm b nn D0 J hY W hJ ((hW.cell (p := ⟨Bm, 0, none⟩) hBm).trans hm) hown' h0
theorem keys_in (F : Fence) (n : Nat) (h32 : F.fn 12) (hro : F.round = none) (mb : Option Nat) (w : World) :
    CallsIn F n Try.prog 12 #[.map mb] w fun e w' => e = .returned (.func (.func 21) #[] #[.pointer (some ⟨w.heap.size, 0, none⟩)]) ∧ w' = w.alloc (.cells #[.map mb] 45) := by
  refine callsIn_of_wp Try.func12 rfl h32 ?_ hro
  simp only [Try.ntmps12, List.size_toArray, List.length_cons, List.length_nil, Nat.reduceAdd, Nat.reduceSub, Array.replicate_succ, Array.replicate_zero, List.push_toArray, List.append_toArray, List.nil_append, List.cons_append]
  gi_wp2
  go_ret
  exact ⟨rfl, rfl⟩
/-- The cells of keys. -/
noncomputable def cellsK (x : List UInt8) : List Value := match encK x with | .agg cs => cs.toList | _ => []
noncomputable def keyC (ss : List (List UInt8)) : List Value := ss.flatMap cellsK
theorem cellsK_of {x : List UInt8} {s f : ByteArray} (h : encK x = kV s f) : cellsK x = [.string s, .string f] := by unfold cellsK; rw [h]; rfl
theorem cellsK_len (x : List UInt8) : (cellsK x).length = 2 := by
  obtain ⟨s, f, h, _⟩ := encK_form x
  rw [cellsK_of h]; rfl
theorem keyC_snoc (ss : List (List UInt8)) (x : List UInt8) : keyC (ss ++ [x]) = keyC ss ++ cellsK x := by simp [keyC]
def apAssign : Code := (Code.region 2 #[{ dst := some 5, op := Op.alloc 47, type := 0, pos := "iter.go:51", after := #[], guard := none }, { dst := none, op := Op.store 47 (Operand.tmp 5) (Operand.tmp 7), type := 0, pos := "iter.go:51", after := #[{ on := 0, ground := Ground.data }, { on := 0, ground := Ground.phase }], guard := none }] false)
def apBody : Code := (Code.block 1 (Code.region 3 #[{ dst := some 8, op := Op.load 49 (Operand.tmp 2), type := 49, pos := "iter.go:52", after := #[], guard := none }, { dst := some 9, op := Op.load 47 (Operand.tmp 5), type := 47, pos := "iter.go:52", after := #[], guard := none }, { dst := some 10, op := Op.buildSlice 49 1 #[(0, Operand.tmp 9)], type := 49, pos := "iter.go:52", after := #[{ on := 1, ground := Ground.data }], guard := none }, { dst := some 11, op := Op.call { callee := Callee.builtin Builtin.append, args := #[Operand.tmp 8, Operand.tmp 10], argTypes := #[49, 49] }, type := 49, pos := "iter.go:52", after := #[{ on := 0, ground := Ground.data }, { on := 2, ground := Ground.data }], guard := none }, { dst := none, op := Op.store 49 (Operand.tmp 2) (Operand.tmp 11), type := 0, pos := "iter.go:52", after := #[{ on := 3, ground := Ground.data }, { on := 3, ground := Ground.chain }, { on := 0, ground := Ground.phase }, { on := 1, ground := Ground.phase }, { on := 2, ground := Ground.phase }, { on := 3, ground := Ground.phase }], guard := none }] false))
/-- The loop's record: AppendSeq's temporaries as they stood at the entering. -/
def apRec (fn : FuncId) (sv : Value) (Bs D : Nat) (st : LoopState) (pend : Option Code) : Loop :=
  { state := st, pending := pend, fn, tmps := #[.slice none 0 0, sv, .pointer (some ⟨Bs, 0, none⟩), undef, .slice none 0 0, undef, sv, undef, undef, undef, undef, undef, undef], params := #[7], assign := apAssign, body := apBody, defers := D }
/-- Between two rounds. -/
structure ApAt (w0 : World) (fn : FuncId) (sv : Value) (Bs l D : Nat) (ss : List (List UInt8)) (W : World) : Prop where
  box : ∃ v, W.heap[Bs]? = some (.cells #[v] 49 (0, 0)) ∧ W.ownsRow w0.heap.size 47 2 v ss.length (keyC ss)
  L : W.heap[l]? = some (.loop (apRec fn sv Bs D .ready none))
  K : W.heap[D]? = some (.deferred (some []))
  below : Below w0.heap.size w0 W
/-- A slice's own row is no walk's object: it abides an iterator's step. -/
theorem ownsRow_abides {W W' : World} {row : Option Nat} {base : Nat} {e : TypeId} {size : Nat} {v : Value} {k : Nat} {xs : List Value} (h : W.ownsRow base e size v k xs) (hg : W.grownBy W' row)
    (hrow : ∀ r, row = some r → ∃ o : Obj, W.heap[r]? = some o ∧ o.isWalk = true) : W'.ownsRow base e size v k xs := by
  refine h.kept hg ?_
  rcases h.2 with ⟨rfl, _⟩ | ⟨g, cap, cur, rfl, _, hgb, _⟩
  · exact .inl rfl
  · refine .inr fun e' => ?_
    obtain ⟨o, ho, hw⟩ := hrow g (by simpa [Value.ownBlock] using e'.symm)
    rw [hgb] at ho; cases ho; cases hw

theorem ap_abides (w0 : World) (fn : FuncId) (sv : Value) (Bs l D B : Nat) (hB : w0.heap.size ≤ B) : AbidesFrom B (ApAt w0 fn sv Bs l D) := fun s W W' row h hg hrow => by
  have hrow' : ∀ r, row = some r → ∃ o : Obj, W.heap[r]? = some o ∧ o.isWalk = true := fun r e => (hrow r e).2
  obtain ⟨v, hv, hr⟩ := h.box
  exact ⟨⟨v, (grownBy_keeps hg hrow' hv rfl).trans hv, ownsRow_abides hr hg hrow'⟩, (grownBy_keeps hg hrow' h.L rfl).trans h.L, (grownBy_keeps hg hrow' h.K rfl).trans h.K,
    h.below.grown hg h.below.size (fun k e => Nat.le_trans hB (hrow k e).1)⟩
theorem grownBy_putObj (W : World) (l : Nat) (o : Obj) : W.grownBy (W.putObj l o) (some l) :=
  ⟨rfl, rfl, rfl, by simp, fun k _ hk => World.putObj_heap_other (fun e => hk (by rw [e]))⟩
theorem grownBy_setCell0 (W : World) (b : Nat) (v : Value) : W.grownBy (W.setCell ⟨b, 0, none⟩ v) (some b) :=
  ⟨rfl, rfl, rfl, (KeepsWalks.setCell W _ v).size, fun k _ hk => Below.heap_setCell _ _ _ k (fun e => hk (by rw [e]))⟩
/-- A slice's own row is not a block that holds something else than cells of its element's type. -/
theorem ownsRow_ne {W : World} {base : Nat} {e : TypeId} {size : Nat} {v : Value} {k : Nat} {xs : List Value} (h : W.ownsRow base e size v k xs) {j : Nat} {o : Obj} (hj : W.heap[j]? = some o) (hno : ∀ cur, o ≠ .cells cur e (0, 0)) :
    v.ownBlock = none ∨ v.ownBlock ≠ some j := by
  rcases h.2 with ⟨rfl, _⟩ | ⟨g, cap, cur, rfl, _, hgb, _⟩
  · exact .inl rfl
  · refine .inr fun e' => ?_
    have : g = j := by simpa [Value.ownBlock] using e'
    subst this; rw [hgb] at hj; cases hj; exact hno cur rfl
theorem cell_of_box {W : World} {B : Nat} {v : Value} {t : TypeId} (h : W.heap[B]? = some (.cells #[v] t (0, 0))) : W.cell? ⟨B, 0, none⟩ = some v ∧ W.frozen? ⟨B, 0, none⟩ = false := by
  constructor <;> simp [World.cell?, World.frozen?, h]

theorem heap_setCell_box {W : World} {B : Nat} {v : Value} {t : TypeId} (v' : Value) (h : W.heap[B]? = some (.cells #[v] t (0, 0))) : (W.setCell ⟨B, 0, none⟩ v').heap[B]? = some (.cells #[v'] t (0, 0)) := by
  obtain ⟨hlt, hk⟩ := Array.getElem?_eq_some_iff.1 h
  show (W.heap.modify B _)[B]? = _
  rw [Array.getElem?_eq_getElem (by rw [Array.size_modify]; exact hlt), Array.getElem_modify_self, hk]
  rfl
theorem ownsRow_not_walk {W : World} {base : Nat} {e : TypeId} {size : Nat} {v : Value} {k : Nat} {xs : List Value} (h : W.ownsRow base e size v k xs) : ∀ (j : Nat) (o : Obj), v.ownBlock = some j → W.heap[j]? = some o → o.isWalk = false := by
  intro j o hj ho
  rcases h.2 with ⟨rfl, _⟩ | ⟨g, cap, cur, rfl, _, hgb, _⟩
  · simp [Value.ownBlock] at hj
  · have : g = j := by simpa [Value.ownBlock] using hj
    subst this; rw [hgb] at ho; cases ho; rfl

theorem info47 : (Try.prog.info? 47).map (fun i => (i.zero, i.size, i.bytes)) = some (some (.agg #[.string ⟨#[]⟩, .string ⟨#[]⟩]), 2, 32) := by kernel_rfl
set_option maxRecDepth 100000 in
set_option maxHeartbeats 2000000 in
theorem apYield (F : Fence) (m : Nat) (w0 : World) (fn : FuncId) (hfn : F.fn fn) (sv : Value) (Bs l D : Nat) (hBl : Bs ≠ l) (hDl : D ≠ l) (hDB : D ≠ Bs) (h0B : w0.heap.size ≤ Bs) (h0l : w0.heap.size ≤ l)
    (N : Nat) (hN : N ≤ maxLen) (hNb : N * 32 ≤ 140737488355328) (ss : List (List UInt8)) (x : List UInt8) (W : World) (h : ApAt w0 fn sv Bs l D ss W) (hlen : ss.length < N) :
    YieldAt F m Try.prog l #[encK x] W fun e W' => e = .returned (.bool true) ∧ ApAt w0 fn sv Bs l D (ss ++ [x]) W' ∧ KeepsWalks W W' := by
  obtain ⟨i0, hi, hz0, hz1, hz2⟩ := info_parts info47
  obtain ⟨v, hv, hrow⟩ := h.box
  obtain ⟨s, f, hsf, _, _⟩ := encK_form x
  have hck := cellsK_of hsf
  rw [hsf]
  unfold kV
  refine ⟨fn, #[.slice none 0 0, sv, .pointer (some ⟨Bs, 0, none⟩), undef, .slice none 0 0, undef, sv, .agg #[.string s, .string f], undef, undef, undef, undef, undef], apAssign, apBody, by simpa [apRec] using run_yield (P := Try.prog) (args := #[.agg #[.string s, .string f]]) h.L rfl, roundIn_of_wpIn hfn ?_⟩
  -- the loop variable's own block
  have hl0 : l < W.heap.size := (Array.getElem?_eq_some_iff.1 h.L).1
  obtain ⟨WA, hWA⟩ : ∃ WA, W.alloc (.cells #[.string s, .string f] 47) = WA := ⟨_, rfl⟩
  have hsA : WA.heap.size = W.heap.size + 1 := by rw [← hWA]; simp
  have holdA : ∀ k, k < W.heap.size → WA.heap[k]? = W.heap[k]? := fun k hk => by rw [← hWA]; exact heap_alloc_old W _ hk
  have hnewA : WA.heap[W.heap.size]? = some (.cells #[.string s, .string f] 47 (0, 0)) := by rw [← hWA]; exact heap_alloc_new W _
  have hvA := (holdA Bs (Array.getElem?_eq_some_iff.1 hv).1).trans hv
  have hKA := (holdA D (Array.getElem?_eq_some_iff.1 h.K).1).trans h.K
  have hLA := (holdA l hl0).trans h.L
  have hrowA : WA.ownsRow w0.heap.size 47 2 v ss.length (keyC ss) := by rw [← hWA]; exact hrow.alloc _
  have hbA : Below w0.heap.size w0 WA := by rw [← hWA]; exact h.below.alloc h.below.size _
  have hkA : KeepsWalks W WA := by rw [← hWA]; exact KeepsWalks.alloc _ _
  have hl : l < WA.heap.size := (Array.getElem?_eq_some_iff.1 hLA).1
  have hbr := run_beginRound (P := Try.prog) hLA rfl
  obtain ⟨W3, hW3⟩ : ∃ W3, WA.putObj l (.loop { apRec fn sv Bs D .ready none with state := .busy }) = W3 := ⟨_, rfl⟩
  rw [hW3] at hbr
  have hg3 : WA.grownBy W3 (some l) := by rw [← hW3]; exact grownBy_putObj _ _ _
  have hk3 : KeepsWalks WA W3 := by rw [← hW3]; exact KeepsWalks.putObj _ hLA rfl
  have hv3 : W3.heap[Bs]? = some (.cells #[v] 49 (0, 0)) := by rw [← hW3]; exact (World.putObj_heap_other hBl).trans hvA
  have hK3 : W3.heap[D]? = some (.deferred (some [])) := by rw [← hW3]; exact (World.putObj_heap_other hDl).trans hKA
  have hL3 : W3.heap[l]? = some (.loop { apRec fn sv Bs D .ready none with state := .busy }) := by rw [← hW3]; exact World.putObj_heap_same hl
  have hnew3 : W3.heap[W.heap.size]? = some (.cells #[.string s, .string f] 47 (0, 0)) := by rw [← hW3]; exact (World.putObj_heap_other (by omega)).trans hnewA
  have hrow3 : W3.ownsRow w0.heap.size 47 2 v ss.length (keyC ss) := hrowA.kept hg3 (ownsRow_ne hrowA hLA (fun cur e => by cases e))
  have hb3 : Below w0.heap.size w0 W3 := hbA.grown hg3 hbA.size (fun k e => by cases e; exact h0l)
  have n0 : W3.cell? ⟨W.heap.size, 0, none⟩ = some (.string s) := by simp [World.cell?, hnew3]
  have n1 : W3.cell? ⟨W.heap.size, 1, none⟩ = some (.string f) := by simp [World.cell?, hnew3]
  obtain ⟨hc3, hf3⟩ := cell_of_box hv3
  have hBlt : Bs < W3.heap.size := (Array.getElem?_eq_some_iff.1 hv3).1
  have hl3 : l < W3.heap.size := (Array.getElem?_eq_some_iff.1 hL3).1
  have hDlt : D < W3.heap.size := (Array.getElem?_eq_some_iff.1 hK3).1
  have ne_of : ∀ {j : Nat} {o : Obj}, W3.heap[j]? = some o → (∀ cur, o ≠ .cells cur 47 (0, 0)) → some j ≠ v.ownBlock := fun hj hno => by
    rcases ownsRow_ne hrow3 hj hno with e | e
    · rw [e]; simp
    · exact fun e' => e e'.symm
  clear hW3 holdA
  unfold apAssign
  gi_wp2
  unfold apBody
  gi_wp2_with (first
    | (gi_at_builtin; refine wpListIn_append_own _ rfl _ _ 49 rfl w0.heap.size 47 i0 (.agg #[.string ⟨#[]⟩, .string ⟨#[]⟩]) 2 32 Try.underlying49 hi hz0 hz1 hz2 rfl (by decide) _ _ _ rfl (hrow3.alloc _) ⟨W3.heap.size, 0, none⟩ 1 1 [.string s, .string f] rfl rfl (World.news_of_block (heap_alloc_new W3 (.cells #[.string s, .string f] 47))) (by simp [Value.oneCell']) (by omega) (by omega) (by have := hb3.size; simp; omega) ?_; intro v' w4 hown' hg4 hnil4
       have hv4 : w4.heap[Bs]? = some (.cells #[v] 49 (0, 0)) := (hg4.block Bs (by simp; omega) (ne_of hv3 (fun cur e => by cases e))).trans ((Below.heap_alloc _ _ Bs hBlt).trans hv3)
       obtain ⟨hc4, hf4⟩ := cell_of_box hv4
       obtain ⟨g', cap', cur', rfl, hbase', hgb', hr1, hr2, hr3, hr4⟩ : ∃ g' cap' cur', v' = .slice (some ⟨g', 0, none⟩) (ss.length + 1) cap' ∧ w0.heap.size ≤ g' ∧ w4.heap[g']? = some (.cells cur' 47 (0, 0)) ∧ ss.length + 1 ≤ cap' ∧ cap' ≤ maxLen ∧ cur'.size = cap' * 2 ∧ cur'.toList.take ((ss.length + 1) * 2) = keyC ss ++ [.string s, .string f] := by
         rcases hown'.2 with ⟨_, h0⟩ | h'
         · exact absurd h0 (by omega)
         · exact h'
       go_frame)
    | gi_in)
  have hg4' : (W3.alloc (.cells #[.string s, .string f] 47)).grownBy w4 v.ownBlock := hg4
  have hL4 : w4.heap[l]? = some (.loop { apRec fn sv Bs D .ready none with state := .busy }) := (hg4'.block l (by simp; omega) (ne_of hL3 (fun cur e => by cases e))).trans ((Below.heap_alloc _ _ l hl3).trans hL3)
  have hK4 : w4.heap[D]? = some (.deferred (some [])) := (hg4'.block D (by simp; omega) (ne_of hK3 (fun cur e => by cases e))).trans ((Below.heap_alloc _ _ D hDlt).trans hK3)
  obtain ⟨w5, hw5⟩ : ∃ w5, w4.setCell ⟨Bs, 0, none⟩ (.slice (some ⟨g', 0, none⟩) (ss.length + 1) cap') = w5 := ⟨_, rfl⟩
  rw [hw5]
  have hg5 : w4.grownBy w5 (some Bs) := by rw [← hw5]; exact grownBy_setCell0 _ _ _
  have hv5 : w5.heap[Bs]? = some (.cells #[.slice (some ⟨g', 0, none⟩) (ss.length + 1) cap'] 49 (0, 0)) := by rw [← hw5]; exact heap_setCell_box _ hv4
  have hL5 : w5.heap[l]? = some (.loop { apRec fn sv Bs D .ready none with state := .busy }) := (hg5.block l (Array.getElem?_eq_some_iff.1 hL4).1 (fun e => hBl (by cases e; rfl))).trans hL4
  have hK5 : w5.heap[D]? = some (.deferred (some [])) := (hg5.block D (Array.getElem?_eq_some_iff.1 hK4).1 (fun e => hDB (by cases e; rfl))).trans hK4
  have hrow5 := hown'.kept hg5 (ownsRow_ne hown' hv4 (fun cur e => by cases e))
  have hl5 : l < w5.heap.size := (Array.getElem?_eq_some_iff.1 hL5).1
  have hb4 : Below w0.heap.size w0 w4 := (hb3.alloc hb3.size _).grown hg4' (by have := hb3.size; simp; omega) (fun k e => (hrow3.lt k e).1)
  have hb5 : Below w0.heap.size w0 w5 := hb4.grown hg5 hb4.size (fun k e => by cases e; exact h0B)
  have hk5 : KeepsWalks W w5 := (((hkA.trans hk3).trans (KeepsWalks.alloc _ _)).trans (KeepsWalks.of_grownBy hg4' (ownsRow_not_walk (hrow3.alloc _)))).trans (by rw [← hw5]; exact KeepsWalks.setCell _ _ _)
  clear hw5
  refine ⟨_, _, run_endRound none hL5, rfl, ⟨⟨_, (World.putObj_heap_other hBl).trans hv5, ?_⟩, World.putObj_heap_same hl5, (World.putObj_heap_other hDl).trans hK5, hb5.grown (grownBy_putObj _ _ _) hb5.size (fun k e => by cases e; exact h0l)⟩, hk5.trans (KeepsWalks.putObj _ hL5 rfl)⟩
  have := hrow5.kept (grownBy_putObj w5 l (.loop { { apRec fn sv Bs D .ready none with state := .busy } with state := if (none : Option Code).isNone then .ready else .done, pending := none })) (ownsRow_ne hrow5 hL5 (fun cur e => by cases e))
  rw [keyC_snoc, hck, List.length_append]
  simpa using this
set_option maxRecDepth 100000 in
set_option maxHeartbeats 2000000 in
theorem appendSeq_in (F : Fence) (n : Nat) (h55 : F.fn 26) (hro : F.round = none) (hn : 2 ≤ n) (g : Nat) (lb : Array Value) (hFg : F.fn g) (eg : ∀ args w, (callFunc g args).run Try.prog w = .ok (.enter g args) w)
    (S : List (List UInt8) → Prop) (N : Nat) (hN : N ≤ maxLen) (hNb : N * 32 ≤ 140737488355328) (w : World) (hseq : SeqGives F (n - 1) Try.prog g lb encK S N w) :
    CallsIn F n Try.prog 26 #[.slice none 0 0, .func (.func g) #[] lb] w fun e w' => ∃ (v : Value) (ss : List (List UInt8)), e = .returned v ∧ S ss ∧ w'.ownsRow w.heap.size 47 2 v ss.length (keyC ss) ∧ Below w.heap.size w w' := by
  have h1 : 1 ≤ n := by omega
  refine callsIn_of_wp_marks Try.func26 rfl h55 ?_ hro
  simp only [Try.ntmps26, List.size_toArray, List.length_cons, List.length_nil, Nat.reduceAdd, Nat.reduceSub, Array.replicate_succ, Array.replicate_zero, List.push_toArray, List.append_toArray, List.nil_append, List.cons_append]
  gi_wp2
  refine wpIn_rangeFunc ?_
  intro fn hfn
  rw [hro]
  obtain ⟨W0, hW0⟩ : ∃ W0, w.alloc (.cells #[.slice none 0 0] 49) = W0 := ⟨_, rfl⟩
  have hs0 : W0.heap.size = w.heap.size + 1 := by rw [← hW0]; simp
  have hv0 : W0.heap[w.heap.size]? = some (.cells #[.slice none 0 0] 49 (0, 0)) := by rw [← hW0]; exact World.alloc_heap_new w _
  have hb0 : Below w.heap.size w W0 := by rw [← hW0]; exact (Below.refl _ w).alloc (Nat.le_refl _) _
  rw [hW0]
  obtain ⟨W1, hW1⟩ : ∃ W1, (W0.alloc (.deferred (some []))).alloc (.loop (apRec fn (.func (.func g) #[] lb) w.heap.size W0.heap.size .ready none)) = W1 := ⟨_, rfl⟩
  have hold : ∀ k, k < W0.heap.size → W1.heap[k]? = W0.heap[k]? := fun k hk => by
    rw [← hW1]; exact (Below.heap_alloc _ _ k (by simp; omega)).trans (Below.heap_alloc _ _ k hk)
  have hb1 : Below w.heap.size w W1 := by rw [← hW1]; exact (hb0.alloc hb0.size _).alloc (by have := hb0.size; simp; omega) _
  have hs1 : W1.heap.size = W0.heap.size + 2 := by rw [← hW1]; simp
  have hM : ApAt w fn (.func (.func g) #[] lb) w.heap.size (W0.heap.size + 1) W0.heap.size [] W1 :=
    ⟨⟨_, (hold w.heap.size (by omega)).trans hv0, ⟨rfl, .inl ⟨rfl, rfl⟩⟩⟩,
     by rw [← hW1]; have := World.alloc_heap_new (W0.alloc (.deferred (some []))) (.loop (apRec fn (.func (.func g) #[] lb) w.heap.size W0.heap.size .ready none)); rwa [World.size_alloc] at this,
     by rw [← hW1]; exact (Below.heap_alloc _ _ _ (by simp)).trans (World.alloc_heap_new W0 _), hb1⟩
  refine ⟨W0.heap.size + 1, [{ target := .collected W0.heap.size, args := #[] }], W1, { target := .fn (.func g) lb, args := #[.func (.yield (W0.heap.size + 1)) #[] #[]] }, W1, g,
    #[.func (.yield (W0.heap.size + 1)) #[] #[]] ++ lb, W1, ?_, ?_, ?_, ?_, fun _ => h1, ?_⟩
  · rw [← hW1]; exact run_enterLoop_outer _ _ _ _ _
  · simp [resolve, go_sem]
  · intro f' hf'; simp [Target.leads] at hf'; subst hf'; exact hFg
  · simp [invoke, go_sem, eg]
  · refine (hseq (W0.heap.size + 1) (ApAt w fn (.func (.func g) #[] lb) w.heap.size (W0.heap.size + 1) W0.heap.size) W1 hb1 (ap_abides _ _ _ _ _ _ _ hb1.size)
      (fun pre x W hJ hl => apYield F (n - 1 - 1) w fn hfn _ w.heap.size (W0.heap.size + 1) W0.heap.size (by omega) (by omega) (by omega) (Nat.le_refl _) (by omega) N hN hNb pre x W hJ hl) hM).mono ?_
    rintro e W2 ⟨⟨v0, rfl⟩, ss, hS, h2⟩
    obtain ⟨v, hv, hrow⟩ := h2.box
    have hend := run_endLoop (P := Try.prog) h2.L (by simp [apRec])
    obtain ⟨W3, hW3⟩ : ∃ W3, W2.putObj (W0.heap.size + 1) (.loop { apRec fn (.func (.func g) #[] lb) w.heap.size W0.heap.size .ready none with state := .exhausted }) = W3 := ⟨_, rfl⟩
    rw [hW3] at hend
    have hg3 : W2.grownBy W3 (some (W0.heap.size + 1)) := by rw [← hW3]; exact grownBy_putObj _ _ _
    have hv3 : W3.heap[w.heap.size]? = some (.cells #[v] 49 (0, 0)) := by rw [← hW3]; exact (World.putObj_heap_other (by omega)).trans hv
    have hK3 : W3.heap[W0.heap.size]? = some (.deferred (some [])) := by rw [← hW3]; exact (World.putObj_heap_other (by omega)).trans h2.K
    have hrow3 := hrow.kept hg3 (ownsRow_ne hrow h2.L (fun cur e => by cases e))
    have hb3 : Below w.heap.size w W3 := h2.below.grown hg3 h2.below.size (fun k e => by cases e; omega)
    obtain ⟨hc3, hf3⟩ := cell_of_box hv3
    clear hW3
    refine ⟨none, W3, hend, ?_⟩
    gi_wp2
    rw [← hs0]
    refine ⟨by simp, .inl ⟨_, _, rfl, run_takeDeferred hK3, ?_⟩⟩
    exact ⟨_, results_tmp rfl _ _ _, v, ss, rfl, hS, hrow3.kept (grownBy_putObj _ _ _) (ownsRow_ne hrow3 hK3 (fun cur e => by cases e)), hb3.grown (grownBy_putObj _ _ _) hb3.size (fun k e => by cases e; omega)⟩
set_option maxHeartbeats 1000000 in
theorem collect_in (F : Fence) (n : Nat) (h48 : F.fn 19) (h55 : F.fn 26) (hro : F.round = none) (hn : 3 ≤ n) (g : Nat) (lb : Array Value) (hFg : F.fn g) (eg : ∀ args w, (callFunc g args).run Try.prog w = .ok (.enter g args) w)
    (S : List (List UInt8) → Prop) (N : Nat) (hN : N ≤ maxLen) (hNb : N * 32 ≤ 140737488355328) (w : World) (hseq : SeqGives F (n - 1 - 1) Try.prog g lb encK S N w) :
    CallsIn F n Try.prog 19 #[.func (.func g) #[] lb] w fun e w' => ∃ (v : Value) (ss : List (List UInt8)), e = .returned v ∧ S ss ∧ w'.ownsRow w.heap.size 47 2 v ss.length (keyC ss) ∧ Below w.heap.size w w' := by
  have h1 : 1 ≤ n := by omega
  refine callsIn_of_wp Try.func19 rfl h48 ?_ hro
  simp only [Try.ntmps19, List.size_toArray, List.length_cons, List.length_nil, Nat.reduceAdd, Nat.reduceSub, Array.replicate_succ, Array.replicate_zero, List.push_toArray, List.append_toArray, List.nil_append, List.cons_append]
  gi_wp2_with (gi_at_call 26; refine (appendSeq_in F (n - 1) h55 hro (by omega) g lb hFg eg S N hN hNb _ hseq).mono ?_; rintro e w' ⟨v, ss, rfl, hS, hrow, hb⟩)
  go_ret
  exact ⟨v, ss, rfl, hS, hrow, hb⟩
/-- slices.Collect(maps.Keys(m)): the map's keys, each once. -/
theorem collectKeys {R : Value → Option (DataW Unit × List MemPlace)} (w : World) (Bm b nn : Nat) (D0 : DataW Unit) (hBm : Bm < w.heap.size) (hm : w.cell? ⟨Bm, 0, none⟩ = some (.map (some b))) (hown : w.ownsMap Try.prog 47 R b nn D0) (hmax : Maps.size D0 ≤ maxLen) (hbytes : Maps.size D0 * 32 ≤ 140737488355328) :
    Calls Try.prog 19 #[.func (.func 21) #[] #[.pointer (some ⟨Bm, 0, none⟩)]] w fun e w' => ∃ (v : Value) (ss : List (List UInt8)), e = .returned v ∧ AllK D0 ss ∧ w'.ownsRow w.heap.size 47 2 v ss.length (keyC ss) ∧ Below w.heap.size w w' :=
  callsIn_wide.1 (collect_in Fence.wide 3 trivial trivial rfl (Nat.le_refl _) 21 _ trivial (enters_of Try.func21 (by kernel_rfl) rfl) _ _ hmax hbytes w (keys_gives Fence.wide _ trivial rfl (by omega) Bm b nn D0 w hBm hm hown))
theorem mapsKeys (mb : Option Nat) (w : World) : Calls Try.prog 12 #[.map mb] w fun e w' => e = .returned (.func (.func 21) #[] #[.pointer (some ⟨w.heap.size, 0, none⟩)]) ∧ w' = w.alloc (.cells #[.map mb] 45) :=
  callsIn_wide.1 (keys_in Fence.wide 1 trivial rfl mb w)
end Go.Proofs.Ytblpjhgbckfaeaa
