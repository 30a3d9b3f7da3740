/- The document's table: a point is laid at its place. No condition. -/
import Derived.Test.YtfhdaihladgchaaX
import Derived.Deep.Cut
namespace Go.Proofs.Ytfhdaihladgchaa
open Go.RowKit Go.WideMaps
theorem zinfo55 : (Try.prog.info? 55).map (fun i => (i.size, i.bytes, i.zero.map (·.cells.size))) = some (3, 56, some 3) := by kernel_rfl
theorem zparts55 : ∃ i z, Try.prog.info? 55 = some i ∧ i.zero = some z ∧ i.size = 3 ∧ i.bytes = 56 ∧ z.cells.size = 3 := by
  have e1 := zinfo55
  cases h : Try.prog.info? 55 with
  | none => rw [h] at e1; cases e1
  | some i =>
    rw [h] at e1
    simp only [Option.map_some, Option.some.injEq, Prod.mk.injEq] at e1
    obtain ⟨h1, h2, h3⟩ := e1
    cases hz : i.zero with
    | none => rw [hz] at h3; cases h3
    | some z =>
      rw [hz] at h3
      exact ⟨i, z, rfl, hz, h1, h2, by simpa using h3⟩
theorem rcC_one {w : World} : ∀ {l : List RC}, (∀ x ∈ l, w.ownsRow 0 33 4 x.v x.l.length (ptC x.l)) → ∀ u ∈ rcC l, u.oneCell' = true
  | [], _, u, h => by simp [rcC] at h
  | x :: r, hl, u, h => by
    simp only [rcC, List.mem_cons] at h
    rcases h with rfl | rfl | rfl | h
    · rfl
    · rfl
    · obtain ⟨a, c, hv⟩ := row_form (hl x (by simp))
      rw [hv]; rfl
    · exact rcC_one (fun y hy => hl y (by simp [hy])) u h
theorem slice46_upto (a : Option Addr) (n c j : Nat) (hj : j ≤ c) (w' : World) : (Instr.slice 46 (.slice a n c) none (some (.int .i64 (j : Int))) none).run Try.prog w' = .ok (.slice a j c) w' := by
  have hso : (Try.prog.info? 55).map (·.size) = some 3 := by kernel_rfl
  simp [Instr.slice, Instr.sliceBounds, Instr.sliceBound, asIntOf, go_sem, hj]
theorem slice46_from (a : Option Addr) (n c i : Nat) (hi : i ≤ n) (w' : World) : (Instr.slice 46 (.slice a n c) (some (.int .i64 (i : Int))) none none).run Try.prog w' = .ok (.slice (if c = i then a else a.map (·.add (i * 3))) (n - i) (c - i)) w' := by
  have hso : (Try.prog.info? 55).map (·.size) = some 3 := by kernel_rfl
  simp [Instr.slice, Instr.sliceBounds, Instr.sliceBound, asIntOf, go_sem, hi]
/-- The beginning, and the end, of a row, as what an append reads. -/
theorem takeN_src {w : World} {base size n vc k : Nat} {t : TypeId} {va : Option Addr} {xs : List Value} (h : w.ownsRow base t size (.slice va n vc) n xs) (h1 : ∀ u ∈ xs, u.oneCell' = true) (hk : k ≤ n) : SrcN w size (.slice va k vc) k (xs.take (k * size)) := by
  have hxl := h.1
  refine ⟨by rw [List.length_take, hxl]; exact Nat.min_eq_left (Nat.mul_le_mul_right _ hk), ?_⟩
  rcases h.2 with ⟨h2, h0⟩ | ⟨g, c, cur, h2, _⟩
  · cases h2
    exact .inl ⟨by rw [show k = 0 by omega], by omega⟩
  · cases h2
    refine .inr ⟨_, _, rfl, fun j u hj => ?_, fun u hu => h1 u (List.mem_of_mem_take hu)⟩
    have hj' : j < k * size := by
      have := (List.getElem?_eq_some_iff.1 hj).1
      rw [List.length_take] at this; omega
    have hkn : k * size ≤ n * size := Nat.mul_le_mul_right _ hk
    rw [List.getElem?_take_of_lt hj'] at hj
    rw [addr_lit, Nat.zero_add, h.cellAt j (by omega)]
    exact hj
theorem dropN_src {w : World} {base size n vc i : Nat} {t : TypeId} {va : Option Addr} {xs : List Value} (h : w.ownsRow base t size (.slice va n vc) n xs) (h1 : ∀ u ∈ xs, u.oneCell' = true) (hi : i ≤ n) : SrcN w size (.slice (if vc = i then va else va.map (·.add (i * size))) (n - i) (vc - i)) (n - i) (xs.drop (i * size)) := by
  have hxl := h.1
  refine ⟨by rw [List.length_drop, hxl, Nat.sub_mul], ?_⟩
  rcases h.2 with ⟨h2, h0⟩ | ⟨g, c, cur, h2, _, h3, h4, _⟩
  · cases h2
    have : i = 0 := by omega
    subst this
    exact .inl ⟨by simp [h0], by omega⟩
  · cases h2
    refine .inr ⟨if vc = i then ⟨g, 0, none⟩ else ⟨g, i * size, none⟩, vc - i, ?_, fun j u hj => ?_, fun u hu => h1 u (List.mem_of_mem_drop hu)⟩
    · by_cases he : vc = i
      · simp [he]
      · simp [he, addr_lit]
    · have hj' : i * size + j < n * size := by
        have := (List.getElem?_eq_some_iff.1 hj).1
        rw [List.length_drop, hxl] at this; omega
      by_cases he : vc = i
      · exfalso
        have h5 : n = i := by omega
        subst h5
        omega
      · rw [if_neg he, addr_lit, h.cellAt _ hj', ← List.getElem?_drop]
        exact hj
theorem rcC_set : ∀ (l : List RC) (i : Nat) (x : RC) (v : Value) (l' : List Pt), l[i]? = some x → (rcC l).set (i * 3 + 2) v = rcC (l.set i ⟨x.se, x.fi, v, l'⟩)
  | [], i, x, v, l', h => by simp at h
  | y :: r, 0, x, v, l', h => by
    simp at h
    subst h
    rfl
  | y :: r, i + 1, x, v, l', h => by
    have ih := rcC_set r i x v l' (by simpa using h)
    have e1 : (i + 1) * 3 + 2 = i * 3 + 2 + 1 + 1 + 1 := by omega
    rw [e1]
    simp only [rcC, List.set_cons_succ, ih]
/-- A column of the document's table has new points. -/
theorem RefAt.setcol {wa wB : World} {T : Nat → Prop} {r g nn cc at_ base : Nat} {R : List RC} {most : Int} {x : RC} {v' : Value} {l' : List Pt} (h : RefAt wa T r R most) (hr : wa.heap[r]? = some (.cells #[.slice (some ⟨g, 0, none⟩) nn cc, .int .i64 most] 50 (0, 0))) (hx : R[at_]? = some x) (hb : Below wa.heap.size wa wB)
    (hrow : wB.ownsRow base 33 4 v' l'.length (ptC l')) (hbase : wa.heap.size ≤ base) :
    RefAt (wB.setCell ⟨g, at_ * 3 + 2, none⟩ v') (With T wa (wB.setCell ⟨g, at_ * 3 + 2, none⟩ v')) r (R.set at_ ⟨x.se, x.fi, v', l'⟩) most ∧ Turns T wa (wB.setCell ⟨g, at_ * 3 + 2, none⟩ v') := by
  obtain ⟨v, h1, h2, h3⟩ := h.blk
  have hv : v = .slice (some ⟨g, 0, none⟩) nn cc := by
    rw [h1] at hr
    injection hr with hr
    injection hr with hr _ _
    have := congrArg (fun a : Array Value => a[0]?) hr
    simpa using this
  subst hv
  have hgT : T g := h3 g rfl
  have hgl : g < wa.heap.size := (h2.lt g rfl).2
  have hnn : R.length = nn := by
    obtain ⟨va, vc, hf⟩ := row55_form h2
    injection hf with _ e _
    exact e.symm
  have h2B := ownsRow_same (w' := wB) h2 fun k hk => hb.block k (h2.lt k hk).2
  rw [hnn] at h2B
  have h2S := ownsRow_set (i := at_ * 3 + 2) (u := v') h2B
  rw [rcC_set R at_ x v' l' hx] at h2S
  have hne : r ≠ g := fun e => by
    rcases h2.2 with ⟨hh, _⟩ | ⟨g', c, cur, hh, _, hg', _⟩
    · cases hh
    · cases hh
      rw [← e, hr] at hg'
      simp at hg'
  have hset : ∀ k, k ≠ g → (wB.setCell ⟨g, at_ * 3 + 2, none⟩ v').heap[k]? = wB.heap[k]? := fun k hk => RowKit.Below.heap_setCell _ _ _ _ hk
  have hsize : (wB.setCell ⟨g, at_ * 3 + 2, none⟩ v').heap.size = wB.heap.size := by simp
  have hT : Turns T wa (wB.setCell ⟨g, at_ * 3 + 2, none⟩ v') := ⟨hb.os, hb.tape, hb.output, by rw [hsize]; exact hb.size, fun k hk hn => (hset k fun e => hn (e ▸ hgT)).trans (hb.block k hk)⟩
  have row33 : ∀ {b n : Nat} {u : Value} {xs : List Value}, wB.ownsRow b 33 4 u n xs → (wB.setCell ⟨g, at_ * 3 + 2, none⟩ v').ownsRow b 33 4 u n xs := fun hu => ownsRow_same hu fun k hk => hset k fun e => by
    obtain ⟨cur, hcur⟩ := row_block hu hk
    rcases h2B.2 with ⟨hh, _⟩ | ⟨g', c, cur', hh, _, hg', _⟩
    · cases hh
    · cases hh
      rw [e, hg'] at hcur
      simp at hcur
  refine ⟨⟨⟨.slice (some ⟨g, 0, none⟩) nn cc, (hset r hne).trans ((hb.block r (heap_lt hr)).trans hr), by rw [List.length_set, hnn]; exact h2S, fun k hk => .inl (h3 k hk)⟩, fun y hy => ?_, .inl h.here, fun y hy k hk => ?_⟩, hT⟩
  · rcases List.mem_or_eq_of_mem_set hy with hy | rfl
    · exact row33 (ownsRow_same (h.col y hy) fun k hk => hb.block k ((h.col y hy).lt k hk).2)
    · have h0 : (wB.setCell ⟨g, at_ * 3 + 2, none⟩ v').ownsRow base 33 4 v' l'.length (ptC l') := row33 hrow
      refine ⟨h0.1, ?_⟩
      rcases h0.2 with hh | ⟨g', c, cur, hh, _, hrest⟩
      · exact .inl hh
      · exact .inr ⟨g', c, cur, hh, Nat.zero_le _, hrest⟩
  · rcases List.mem_or_eq_of_mem_set hy with hy | rfl
    · exact .inl (h.mine y hy k hk)
    · have := hrow.lt k hk
      exact .inr ⟨by omega, by rw [hsize]; exact this.2⟩
/-- The document's table has a new row of columns. -/
theorem RefAt.newrow {wa wB : World} {T : Nat → Prop} {r base : Nat} {R RA : List RC} {most : Int} {v' : Value} (h : RefAt wa T r R most) (hb : Below wa.heap.size wa wB) (hrow : wB.ownsRow base 55 3 v' RA.length (rcC RA)) (hbase : wa.heap.size ≤ base)
    (hcol : ∀ y ∈ RA, y ∈ R ∨ ∃ b, wa.heap.size ≤ b ∧ wB.ownsRow b 33 4 y.v y.l.length (ptC y.l)) :
    RefAt (wB.setCell ⟨r, 0, none⟩ v') (With T wa (wB.setCell ⟨r, 0, none⟩ v')) r RA most ∧ Turns T wa (wB.setCell ⟨r, 0, none⟩ v') := by
  obtain ⟨v, h1, h2, h3⟩ := h.blk
  have hrl := heap_lt h1
  have hset : ∀ k, k ≠ r → (wB.setCell ⟨r, 0, none⟩ v').heap[k]? = wB.heap[k]? := fun k hk => RowKit.Below.heap_setCell _ _ _ _ hk
  have hsize : (wB.setCell ⟨r, 0, none⟩ v').heap.size = wB.heap.size := by simp
  have hT : Turns T wa (wB.setCell ⟨r, 0, none⟩ v') := ⟨hb.os, hb.tape, hb.output, by rw [hsize]; exact hb.size, fun k hk hn => (hset k fun e => hn (e ▸ h.here)).trans (hb.block k hk)⟩
  have hr0 := (hb.block r hrl).trans h1
  have row33 : ∀ {b n : Nat} {u : Value} {xs : List Value}, wB.ownsRow b 33 4 u n xs → (wB.setCell ⟨r, 0, none⟩ v').ownsRow b 33 4 u n xs := fun hu => ownsRow_same hu fun k hk => hset k fun e => by
    obtain ⟨cur, hcur⟩ := row_block hu hk
    rw [e, hr0] at hcur
    simp at hcur
  have hsetr : (wB.setCell ⟨r, 0, none⟩ v').heap[r]? = some (.cells #[v', .int .i64 most] 50 (0, 0)) := by
    rw [heap_setCell_same wB r 0 _ 50 v' hr0]; rfl
  have h0 : ∀ {b t n size : Nat} {u : Value} {xs : List Value}, (wB.setCell ⟨r, 0, none⟩ v').ownsRow b t size u n xs → (wB.setCell ⟨r, 0, none⟩ v').ownsRow 0 t size u n xs := fun hu => by
    refine ⟨hu.1, ?_⟩
    rcases hu.2 with hh | ⟨g', c, cur, hh, _, hrest⟩
    · exact .inl hh
    · exact .inr ⟨g', c, cur, hh, Nat.zero_le _, hrest⟩
  refine ⟨⟨⟨v', hsetr, h0 (ownsRow_same hrow fun k hk => hset k fun e => ?_), fun k hk => .inr ?_⟩, fun y hy => ?_, .inl h.here, fun y hy k hk => ?_⟩, hT⟩
  · have := (hrow.lt k hk).1
    omega
  · have := hrow.lt k hk
    exact ⟨by omega, by rw [hsize]; exact this.2⟩
  · rcases hcol y hy with hy | ⟨b, hbb, hu⟩
    · exact row33 (ownsRow_same (h.col y hy) fun k hk => hb.block k ((h.col y hy).lt k hk).2)
    · exact h0 (row33 hu)
  · rcases hcol y hy with hy | ⟨b, hbb, hu⟩
    · exact .inl (h.mine y hy k hk)
    · have := hu.lt k hk
      exact .inr ⟨by omega, by rw [hsize]; exact this.2⟩
theorem row55_later {w w' : World} {base n : Nat} {v : Value} {xs : List Value} (h : w.ownsRow base 55 3 v n xs) (hb : Below w.heap.size w w') : w'.ownsRow base 55 3 v n xs := ownsRow_same h fun g hg => hb.block g (h.lt g hg).2
/-- A row with one more point, as the document lays it. -/
def putK (l : List Pt) (p : Pt) : List Pt := l.take (loI l p.t) ++ p :: (if (match l[loI l p.t]? with | some q => decide (q.t = p.t) | none => false) then l.drop (loI l p.t + 1) else l.drop (loI l p.t))
theorem putK_there {l : List Pt} {p q : Pt} {k : Nat} (hk : loI l p.t = k) (hq : l[k]? = some q) (h : q.t = p.t) : putK l p = l.take k ++ p :: l.drop (k + 1) := by
  unfold putK
  rw [hk, hq]
  simp [h]
theorem putK_new {l : List Pt} {p : Pt} {k : Nat} (hk : loI l p.t = k) (h : ∀ q, l[k]? = some q → q.t = p.t → False) : putK l p = l.take k ++ p :: l.drop k := by
  unfold putK
  rw [hk]
  cases hq : l[k]? with
  | none => rfl
  | some q =>
    have : ¬ q.t = p.t := fun e => h q hq e
    simp [this]
theorem ptV_one (p : Pt) : ∀ u ∈ (ptV p).toArray.toList, u.oneCell' = true := by simp [ptV, Value.oneCell']
theorem beq_t {a b : Int} (h : a = b) : (a == b) = true := by simp [h]
theorem bne_t {a b : Int} (h : ¬ a = b) : (a == b) = false := by simp [h]
theorem with_grow {T TA : Nat → Prop} {w wa wf : World} (h1 : w.heap.size ≤ wa.heap.size) (h2 : wa.heap.size ≤ wf.heap.size) (h : ∀ k, TA k → With T w wa k) {k : Nat} (hk : With TA wa wf k) : With T w wf k := by
  rcases hk with hk | hk
  · rcases h k hk with h3 | h3
    · exact .inl h3
    · exact .inr ⟨h3.1, by omega⟩
  · exact .inr ⟨by omega, hk.2⟩
def LayPost (w : World) (T : Nat → Prop) (r : Nat) (R : List RC) (most : Int) (s f : ByteArray) (p : Pt) (e : Ending) (w' : World) : Prop :=
  ∃ R' b, e = .returned (.bool b) ∧ Turns T w w' ∧ RefAt w' (With T w w') r R' most ∧ (hereB R s f = true → ∃ x v', R[atI R s f]? = some x ∧ R' = R.set (atI R s f) ⟨x.se, x.fi, v', putK x.l p⟩) ∧ (hereB R s f = false → ∃ v', R' = R.take (atI R s f) ++ ⟨s, f, v', [p]⟩ :: R.drop (atI R s f))
def InPut (wa : World) (l : List Pt) (t : Int) (n : Nat) (i : Value) (wr : World) : Prop := ∃ k : Nat, k ≤ n ∧ i = .int .i64 k ∧ (∀ j, (hj : j < l.length) → j < k → l[j].t < t) ∧ Below wa.heap.size wa wr
theorem lo_next {l : List Pt} {k : Nat} {q : Pt} {t : Int} (hx : l[k]? = some q) (hlo : ∀ j, (hj : j < l.length) → j < k → l[j].t < t) (h : q.t < t) : ∀ j, (hj : j < l.length) → j < k + 1 → l[j].t < t := fun j hj h1 => by
  by_cases e : j = k
  · subst e
    rw [List.getElem?_eq_getElem hj] at hx
    rw [Option.some.inj hx]; exact h
  · exact hlo j hj (by omega)
theorem lo_stop {l : List Pt} {k : Nat} {q : Pt} {t : Int} (hx : l[k]? = some q) (hlo : ∀ j, (hj : j < l.length) → j < k → l[j].t < t) (h : ¬ q.t < t) : loI l t = k := by
  obtain ⟨hk, he⟩ := List.getElem?_eq_some_iff.1 hx
  exact takeWhile_len _ l k (by omega) (fun j hj h1 => decide_eq_true (hlo j hj h1)) (fun _ => by rw [he]; exact decide_eq_false h)
theorem lo_end {l : List Pt} {t : Int} (hlo : ∀ j, (hj : j < l.length) → j < l.length → l[j].t < t) : loI l t = l.length :=
  takeWhile_len _ l _ (Nat.le_refl _) (fun j hj h1 => decide_eq_true (hlo j hj h1)) (fun h => absurd h (Nat.lt_irrefl _))
set_option maxHeartbeats 4000000 in
set_option maxRecDepth 100000 in
theorem refLay (w : World) (T : Nat → Prop) (r : Nat) (R : List RC) (most : Int) (s f : ByteArray) (p : Pt) (h : RefAt w T r R most) (hl : R.length ≤ 1000000000000) (hn : rtot R ≤ 1000000000000) :
    Calls Try.prog 46 #[.pointer (some ⟨r, 0, none⟩), .string s, .string f, .agg #[.int .i64 p.t, .int .i64 p.k, .int .u64 p.b, .string p.s]] w (LayPost w T r R most s f p) := by
  have h0 := h.later ((Below.refl w.heap.size w).alloc (Nat.le_refl _) (.cells (ptV p).toArray 33))
  obtain ⟨w0, hw0⟩ : ∃ w0, w.alloc (.cells (ptV p).toArray 33) = w0 := ⟨_, rfl⟩
  have hp0 : w0.heap[w.heap.size]? = some (.cells (ptV p).toArray 33 (0, 0)) := by rw [← hw0]; exact heap_alloc_new w _
  have hs0 : w0.heap.size = w.heap.size + 1 := by rw [← hw0]; simp
  have hb0 : Below w.heap.size w w0 := by rw [← hw0]; exact (Below.refl _ _).alloc (Nat.le_refl _) _
  obtain ⟨pb, hpb⟩ : ∃ pb, w.heap.size = pb := ⟨_, rfl⟩
  rw [hpb] at hp0 hs0
  rw [hw0] at h0
  have HH := Lib.hid h
  have HH0 := Lib.hid h0
  have HP0 := Lib.hid hp0
  have HS0 := Lib.hid hs0
  have HB0 := Lib.hid hb0
  have HPB := Lib.hid hpb
  obtain ⟨i0, z0', hi, hz0, hz1, hz2, hz3⟩ := zparts33
  have HI := Lib.hid hi
  have HI0 := Lib.hid hz0
  have HI1 := Lib.hid hz1
  have HI2 := Lib.hid hz2
  have HI3 := Lib.hid hz3
  obtain ⟨j0, y0', hi', hz0', hz1', hz2', hz3'⟩ := zparts55
  have HJ := Lib.hid hi'
  have HJ0 := Lib.hid hz0'
  have HJ1 := Lib.hid hz1'
  have HJ2 := Lib.hid hz2'
  have HJ3 := Lib.hid hz3'
  have HN := Lib.hid hn
  simp only [ptV] at hw0
  clear hi hz0 hz1 hz2 hz3 hi' hz0' hz1' hz2' hz3' h h0 hp0 hs0 hb0 hn
  cases hh : hereB R s f with
  | true =>
    have HHB := Lib.hid hh
    obtain ⟨x, hx, heq⟩ := here_at hh
    obtain ⟨at_, hat⟩ : ∃ n, atI R s f = n := ⟨_, rfl⟩
    have HFIN := Lib.hid (fun v' => (show (hereB R s f = true → ∃ x' v'', R[atI R s f]? = some x' ∧ R.set at_ ⟨x.se, x.fi, v', putK x.l p⟩ = R.set (atI R s f) ⟨x'.se, x'.fi, v'', putK x'.l p⟩) ∧ (hereB R s f = false → ∃ v'', R.set at_ ⟨x.se, x.fi, v', putK x.l p⟩ = R.take (atI R s f) ++ ⟨s, f, v'', [p]⟩ :: R.drop (atI R s f)) from ⟨fun _ => ⟨x, v', hx, by rw [hat]⟩, fun h => by rw [hh] at h; cases h⟩))
    rw [hat] at hx
    have HX := Lib.hid hx
    have HAT := Lib.hid hat
    have HLX := Lib.hid (show x.l.length ≤ 1000000000000 by
      have h1 := rtot_take R at_ x hx
      have h2 := rtot_le R (at_ + 1)
      have h3 := HN.out
      omega)
    clear hh hx heq hat
    go_enter Try.func46, Try.ntmps46
    go_wp2_with fail
    refine (refAt w0 T r R most s f HH0.out hl).mono ?_
    rw [HHB.out, HAT.out]
    rintro e wa ⟨rfl, hb1⟩
    have HBA := Lib.hid hb1
    have HRA := Lib.hid (HH0.out.later hb1)
    have HPA := Lib.hid ((hb1.block pb (heap_lt HP0.out)).trans HP0.out)
    have HTA := Lib.hid (show Turns T w wa from Turns.of_below (HB0.out.trans (hb1.mono HB0.out.size)))
    have HTA2 := Lib.hid (show ∀ k, T k → With T w wa k from fun k hk => .inl hk)
    clear hb1
    obtain ⟨v9, hblk, hrowC, hmine⟩ := HRA.out.blk
    obtain ⟨nn, hnn⟩ : ∃ n, R.length = n := ⟨_, rfl⟩
    rw [hnn] at hrowC
    have hatn : at_ < nn := by rw [← hnn]; exact (List.getElem?_eq_some_iff.1 HX.out).1
    obtain ⟨va9, cc, rfl⟩ := row55_form hrowC
    obtain ⟨g, rfl, hc⟩ := row55_cells hrowC hnn at_ x HX.out
    have HBLK := Lib.hid hblk
    have hrow := HRA.out.col x (List.mem_of_getElem? HX.out)
    obtain ⟨l, hL⟩ : ∃ l, x.l = l := ⟨_, rfl⟩
    obtain ⟨n, hN⟩ : ∃ n, l.length = n := ⟨_, rfl⟩
    have hn9 : n ≤ 1000000000000 := by rw [← hN, ← hL]; exact HLX.out
    rw [hL, hN] at hrow
    obtain ⟨xa, xc, hxv⟩ := row_form hrow
    rw [hxv] at hrow
    have hnc : n ≤ xc := by
      rcases hrow.2 with ⟨h1, h2⟩ | ⟨g', c', cur, h1, _, h2, h3, _⟩
      · omega
      · cases h1; exact h3
    have HROW := Lib.hid hrow
    have HCEL := Lib.hid (row_cells hrow hN)
    have HN' := Lib.hid hN
    have HL' := Lib.hid hL
    have hread : ∀ w', Below wa.heap.size wa w' → w'.cell? ⟨g, at_ * 3 + 2, none⟩ = some (.slice xa n xc) ∧ w'.cell? ⟨pb, 0, none⟩ = some (.int .i64 p.t) ∧ w'.cell? ⟨pb, 1, none⟩ = some (.int .i64 p.k) ∧ w'.cell? ⟨pb, 2, none⟩ = some (.int .u64 p.b) ∧ w'.cell? ⟨pb, 3, none⟩ = some (.string p.s) := fun w' hb => by
      have h1 := (hc w' hb).2.2
      have h2 := (hb.block pb (heap_lt HPA.out)).trans HPA.out
      rw [hxv] at h1
      exact ⟨h1, by simp [World.cell?, h2, ptV], by simp [World.cell?, h2, ptV], by simp [World.cell?, h2, ptV], by simp [World.cell?, h2, ptV]⟩
    have HREAD := Lib.hid hread
    have c0 : wa.cell? ⟨r, 0, none⟩ = some (.slice (some ⟨g, 0, none⟩) nn cc) := by simp [World.cell?, hblk]
    have hfroz : ∀ w', Below wa.heap.size wa w' → w'.frozen? ⟨g, at_ * 3 + 2, none⟩ = false ∧ (w'.cell? ⟨g, at_ * 3 + 2, none⟩).isSome = true := fun w' hb => by
      have h1 := (hc w' hb).2.2
      rcases hrowC.2 with ⟨h2, _⟩ | ⟨g', c', cur, h2, _, h3, _⟩
      · cases h2
      · cases h2
        have h4 := (hb.block _ (heap_lt h3)).trans h3
        exact ⟨by simp [World.frozen?, h4], by rw [h1]; rfl⟩
    have HFROZ := Lib.hid hfroz
    clear hblk hrowC hmine hnn hc hrow hL hN hxv hread hfroz
    go_wp2_with fail
    clear c0
    go_loopw [13] (fun i wr => InPut wa l p.t n i wr) (fun i _ => n - (intOf i).toNat)
    case atStart => exact ⟨0, Nat.zero_le _, rfl, fun j _ hj => by omega, Below.refl _ _⟩
    case round =>
      obtain ⟨k, hkn, rfl, hlo, hbk⟩ := hrel
      have HLO := Lib.hid hlo
      have HBK := Lib.hid hbk
      obtain ⟨y0, y1, y2, y3, y4⟩ := HREAD.out _ hbk
      clear hlo hbk
      by_cases hlt : k < n
      · obtain ⟨q, hq⟩ : ∃ q, l[k]? = some q := ⟨_, List.getElem?_eq_getElem (by rw [HN'.out]; exact hlt)⟩
        obtain ⟨g', rfl, hcel⟩ := HCEL.out k q hq
        have HQC := Lib.hid hcel
        have HQ := Lib.hid hq
        obtain ⟨z0, z1, z2, z3⟩ := hcel _ HBK.out
        clear hcel hq
        by_cases ht : q.t < p.t
        · clear z1 z2 z3
          go_wp2_with fail
          go_quiet (fail)
          go_wp2_with fail
          go_roundw
          case rel => exact ⟨k + 1, by omega, by go_num, lo_next HQ.out HLO.out ht, below_drewN HBK.out _⟩
          case measure => simp [intOf]; omega
        · have HK := Lib.hid (lo_stop HQ.out HLO.out ht)
          have hd : decide (q.t < p.t) = false := decide_eq_false ht
          clear z1 z2 z3
          go_wp2_with fail
          go_quiet (fail)
          have HB5 := Lib.hid (below_drewN HBK.out nq)
          obtain ⟨y0, y1, y2, y3, y4⟩ := HREAD.out _ HB5.out
          obtain ⟨w5, hw5⟩ : ∃ w5, wr.drewN nq = w5 := ⟨_, rfl⟩
          rw [hw5] at HB5 y0 y1 y2 y3 y4 ⊢
          clear hw5 z0 hd
          have HLK := HK
          by_cases hte : q.t = p.t
          · have HTE := Lib.hid hte
            clear ht hte
            have HM5 := Lib.hid (World.ownsRow_made (w := w5) (base := w5.heap.size) (e := 33) (size := 4) #[] 0 (Nat.le_refl _) (by unfold maxLen; omega) rfl)
            have HROW5 := Lib.hid (row_later HROW.out HB5.out)
            have HSRC1 := Lib.hid ((takeN_src HROW5.out (ptC_one l) hkn).later ((Below.refl w5.heap.size w5).alloc (Nat.le_refl _) (.cells #[] 33)))
            have hs1 := slice_upto (some ⟨g', 0, none⟩) n xc k k rfl (by omega)
            have hs2 := slice_fromI (some ⟨g', 0, none⟩) n xc (k + 1) (by omega)
            rw [Int.natCast_succ] at hs2
            obtain ⟨sv, hsv⟩ : ∃ sv, Value.slice (if xc = k + 1 then (some ⟨g', 0, none⟩) else (some (⟨g', 0, none⟩ : Addr)).map (·.add ((k + 1) * 4))) (n - (k + 1)) (xc - (k + 1)) = sv := ⟨_, rfl⟩
            rw [hsv] at hs2
            have HSV := Lib.hid hsv
            have hgl : g < w5.heap.size := World.block_lt_of_cell? w5 _ y0
            clear hsv
            go_wp2_with (first | (at_builtin; refine wpList_append_srcN rfl _ _ 23 rfl w5.heap.size 33 i0 z0' 4 40 Try.underlying23 HI.out HI0.out HI1.out HI2.out HI3.out (by omega) (.slice (some ⟨w5.heap.size, 0, none⟩) 0 0) 0 [] rfl HM5.out (.slice (some ⟨g', 0, none⟩) k xc) k _ rfl HSRC1.out (by unfold maxLen; omega) (by omega) (by simp) ?_; intro v6 w6 hr6 hg6 hat6; have HB6 := Lib.hid (((Below.refl w5.heap.size w5).alloc (Nat.le_refl _) (.cells #[] 33)).grown hg6 (by simp) (fun b hb => by cases hb; exact Nat.le_refl _)); have HB6a := Lib.hid (HB5.out.trans (HB6.out.mono HB5.out.size)); obtain ⟨y0, y1, y2, y3, y4⟩ := HREAD.out _ HB6a.out; have HR6 := Lib.hid (row_later hr6 ((Below.refl w6.heap.size w6).alloc (Nat.le_refl _) (.cells (ptV p).toArray 33))); have HSRC2 := Lib.hid (SrcN.of_block (size := 4) (m := 1) (heap_alloc_new w6 (.cells (ptV p).toArray 33)) rfl (ptV_one p) 1); simp only [ptV] at HR6 HSRC2; clear hr6 hg6 hat6) | (at_builtin; go_must (refine wpList_append_srcN rfl _ _ 23 rfl w5.heap.size 33 i0 z0' 4 40 Try.underlying23 HI.out HI0.out HI1.out HI2.out HI3.out (by omega) v6 (0 + k) _ rfl HR6.out (.slice (some ⟨w6.heap.size, 0, none⟩) 1 1) 1 _ rfl HSRC2.out (by unfold maxLen; omega) (by omega) (by have := HB6.out.size; simp; omega) ?_); intro v7 w7 hr7 hg7 hat7; have HB7 := Lib.hid (((HB6.out).alloc HB6.out.size (.cells #[.int .i64 p.t, .int .i64 p.k, .int .u64 p.b, .string p.s] 33)).grown hg7 (by have := HB6.out.size; simp; omega) (fun b hb => by have := (HR6.out.lt b hb).1; omega)); have HB7a := Lib.hid (HB5.out.trans (HB7.out.mono HB5.out.size)); obtain ⟨y0, y1, y2, y3, y4⟩ := HREAD.out _ HB7a.out; obtain ⟨z0, _, _, _⟩ := HQC.out _ HB7a.out; have HR7 := Lib.hid hr7; clear hr7 hg7 hat7))
            have hb := beq_t HTE.out
            go_quiet (fail)
            clear hb hgl z0
            have HB8 := Lib.hid (below_drewN HB7.out nq)
            have HB8a := Lib.hid (below_drewN HB7a.out nq)
            have HR8 := Lib.hid (row_later HR7.out (below_drewN (Below.refl _ _) nq))
            obtain ⟨y0, y1, y2, y3, y4⟩ := HREAD.out _ HB8a.out
            obtain ⟨w8, hw8⟩ : ∃ w8, w7.drewN nq = w8 := ⟨_, rfl⟩
            rw [hw8] at HB8 HB8a HR8 y0 y1 y2 y3 y4 ⊢
            clear hw8 HB7 HB7a HR7 HB6 HB6a
            have HSRC3 := Lib.hid (dropN_src (i := k + 1) (row_later HROW.out HB8a.out) (ptC_one l) (by omega))
            rw [HSV.out] at HSRC3
            obtain ⟨tl, htl⟩ : ∃ tl, 0 + k + 1 + (n - (k + 1)) = tl := ⟨_, rfl⟩
            have HCNT := Lib.hid htl
            clear htl
            go_wp2_with (first | (at_builtin; go_must (refine wpList_append_srcN rfl _ _ 23 rfl w5.heap.size 33 i0 z0' 4 40 Try.underlying23 HI.out HI0.out HI1.out HI2.out HI3.out (by omega) v7 (0 + k + 1) _ rfl HR8.out sv _ _ rfl HSRC3.out (by unfold maxLen; omega) (by omega) (by have := HB8.out.size; omega) ?_); intro v9 w9 hr9 hg9 hat9; have HB9 := Lib.hid (HB8a.out.grown hg9 HB8a.out.size (fun b hb => by have := HB5.out.size; have := (HR8.out.lt b hb).1; omega)); rw [HCNT.out] at hr9; obtain ⟨a9, c9, rfl⟩ := row_form hr9; have HR9 := Lib.hid hr9; have x9 := (HREAD.out _ HB9.out).1; have f9 := (HFROZ.out _ HB9.out).1; clear hr9 hg9 hat9))
            go_ret
            have hrow9 := HR9.out
            have hpk := putK_there HLK.out HQ.out HTE.out
            have hcs : ([] ++ List.take (k * 4) (ptC l) ++ [.int .i64 p.t, .int .i64 p.k, .int .u64 p.b, .string p.s]) ++ List.drop ((k + 1) * 4) (ptC l) = ptC (putK l p) := by
              rw [hpk, ptC_take, ptC_drop, ptC_append]; simp [ptC]
            have hlen : 0 + k + 1 + (n - (k + 1)) = (putK l p).length := by
              rw [hpk, List.length_append, List.length_cons, List.length_take, List.length_drop, HN'.out, Nat.min_eq_left hkn]; omega
            rw [HCNT.out] at hlen
            have hrow9' : w9.ownsRow w5.heap.size 33 4 (.slice a9 tl c9) (putK l p).length (ptC (putK l p)) := by rw [← hcs, ← hlen]; simpa using hrow9
            obtain ⟨hR, hT⟩ := HRA.out.setcol HBLK.out HX.out HB9.out hrow9' (by have := HB5.out.size; omega)
            obtain ⟨hF1, hF2⟩ := HFIN.out (.slice a9 tl c9)
            rw [HL'.out] at hF1 hF2
            exact ⟨_, _, rfl, HTA.out.trans hT (fun k hk => (HTA2.out k hk).elim .inl (fun h => .inr h.1)), hR.grow (fun k hk => with_grow HTA.out.size hT.size HTA2.out hk), hF1, hF2⟩
          · have HTE := Lib.hid hte
            clear ht hte
            have HM5 := Lib.hid (World.ownsRow_made (w := w5) (base := w5.heap.size) (e := 33) (size := 4) #[] 0 (Nat.le_refl _) (by unfold maxLen; omega) rfl)
            have HROW5 := Lib.hid (row_later HROW.out HB5.out)
            have HSRC1 := Lib.hid ((takeN_src HROW5.out (ptC_one l) hkn).later ((Below.refl w5.heap.size w5).alloc (Nat.le_refl _) (.cells #[] 33)))
            have hs1 := slice_upto (some ⟨g', 0, none⟩) n xc k k rfl (by omega)
            have hs2 := slice_fromI (some ⟨g', 0, none⟩) n xc k (by omega)
            obtain ⟨sv, hsv⟩ : ∃ sv, Value.slice (if xc = k then (some ⟨g', 0, none⟩) else (some (⟨g', 0, none⟩ : Addr)).map (·.add ((k) * 4))) (n - (k)) (xc - (k)) = sv := ⟨_, rfl⟩
            rw [hsv] at hs2
            have HSV := Lib.hid hsv
            have hgl : g < w5.heap.size := World.block_lt_of_cell? w5 _ y0
            clear hsv
            go_wp2_with (first | (at_builtin; refine wpList_append_srcN rfl _ _ 23 rfl w5.heap.size 33 i0 z0' 4 40 Try.underlying23 HI.out HI0.out HI1.out HI2.out HI3.out (by omega) (.slice (some ⟨w5.heap.size, 0, none⟩) 0 0) 0 [] rfl HM5.out (.slice (some ⟨g', 0, none⟩) k xc) k _ rfl HSRC1.out (by unfold maxLen; omega) (by omega) (by simp) ?_; intro v6 w6 hr6 hg6 hat6; have HB6 := Lib.hid (((Below.refl w5.heap.size w5).alloc (Nat.le_refl _) (.cells #[] 33)).grown hg6 (by simp) (fun b hb => by cases hb; exact Nat.le_refl _)); have HB6a := Lib.hid (HB5.out.trans (HB6.out.mono HB5.out.size)); obtain ⟨y0, y1, y2, y3, y4⟩ := HREAD.out _ HB6a.out; have HR6 := Lib.hid (row_later hr6 ((Below.refl w6.heap.size w6).alloc (Nat.le_refl _) (.cells (ptV p).toArray 33))); have HSRC2 := Lib.hid (SrcN.of_block (size := 4) (m := 1) (heap_alloc_new w6 (.cells (ptV p).toArray 33)) rfl (ptV_one p) 1); simp only [ptV] at HR6 HSRC2; clear hr6 hg6 hat6) | (at_builtin; go_must (refine wpList_append_srcN rfl _ _ 23 rfl w5.heap.size 33 i0 z0' 4 40 Try.underlying23 HI.out HI0.out HI1.out HI2.out HI3.out (by omega) v6 (0 + k) _ rfl HR6.out (.slice (some ⟨w6.heap.size, 0, none⟩) 1 1) 1 _ rfl HSRC2.out (by unfold maxLen; omega) (by omega) (by have := HB6.out.size; simp; omega) ?_); intro v7 w7 hr7 hg7 hat7; have HB7 := Lib.hid (((HB6.out).alloc HB6.out.size (.cells #[.int .i64 p.t, .int .i64 p.k, .int .u64 p.b, .string p.s] 33)).grown hg7 (by have := HB6.out.size; simp; omega) (fun b hb => by have := (HR6.out.lt b hb).1; omega)); have HB7a := Lib.hid (HB5.out.trans (HB7.out.mono HB5.out.size)); obtain ⟨y0, y1, y2, y3, y4⟩ := HREAD.out _ HB7a.out; obtain ⟨z0, _, _, _⟩ := HQC.out _ HB7a.out; have HR7 := Lib.hid hr7; clear hr7 hg7 hat7))
            have hb := bne_t HTE.out
            go_quiet (fail)
            clear hb hgl z0
            have HB8 := Lib.hid (below_drewN HB7.out nq)
            have HB8a := Lib.hid (below_drewN HB7a.out nq)
            have HR8 := Lib.hid (row_later HR7.out (below_drewN (Below.refl _ _) nq))
            obtain ⟨y0, y1, y2, y3, y4⟩ := HREAD.out _ HB8a.out
            obtain ⟨w8, hw8⟩ : ∃ w8, w7.drewN nq = w8 := ⟨_, rfl⟩
            rw [hw8] at HB8 HB8a HR8 y0 y1 y2 y3 y4 ⊢
            clear hw8 HB7 HB7a HR7 HB6 HB6a
            have HSRC3 := Lib.hid (dropN_src (i := k) (row_later HROW.out HB8a.out) (ptC_one l) (by omega))
            rw [HSV.out] at HSRC3
            obtain ⟨tl, htl⟩ : ∃ tl, 0 + k + 1 + (n - (k)) = tl := ⟨_, rfl⟩
            have HCNT := Lib.hid htl
            clear htl
            go_wp2_with (first | (at_builtin; go_must (refine wpList_append_srcN rfl _ _ 23 rfl w5.heap.size 33 i0 z0' 4 40 Try.underlying23 HI.out HI0.out HI1.out HI2.out HI3.out (by omega) v7 (0 + k + 1) _ rfl HR8.out sv _ _ rfl HSRC3.out (by unfold maxLen; omega) (by omega) (by have := HB8.out.size; omega) ?_); intro v9 w9 hr9 hg9 hat9; have HB9 := Lib.hid (HB8a.out.grown hg9 HB8a.out.size (fun b hb => by have := HB5.out.size; have := (HR8.out.lt b hb).1; omega)); rw [HCNT.out] at hr9; obtain ⟨a9, c9, rfl⟩ := row_form hr9; have HR9 := Lib.hid hr9; have x9 := (HREAD.out _ HB9.out).1; have f9 := (HFROZ.out _ HB9.out).1; clear hr9 hg9 hat9))
            go_ret
            have hrow9 := HR9.out
            have hpk := putK_new HLK.out (fun q9 h9 e9 => HTE.out (by rw [HQ.out] at h9; cases h9; exact e9))
            have hcs : ([] ++ List.take (k * 4) (ptC l) ++ [.int .i64 p.t, .int .i64 p.k, .int .u64 p.b, .string p.s]) ++ List.drop ((k) * 4) (ptC l) = ptC (putK l p) := by
              rw [hpk, ptC_take, ptC_drop, ptC_append]; simp [ptC]
            have hlen : 0 + k + 1 + (n - (k)) = (putK l p).length := by
              rw [hpk, List.length_append, List.length_cons, List.length_take, List.length_drop, HN'.out, Nat.min_eq_left hkn]; omega
            rw [HCNT.out] at hlen
            have hrow9' : w9.ownsRow w5.heap.size 33 4 (.slice a9 tl c9) (putK l p).length (ptC (putK l p)) := by rw [← hcs, ← hlen]; simpa using hrow9
            obtain ⟨hR, hT⟩ := HRA.out.setcol HBLK.out HX.out HB9.out hrow9' (by have := HB5.out.size; omega)
            obtain ⟨hF1, hF2⟩ := HFIN.out (.slice a9 tl c9)
            rw [HL'.out] at hF1 hF2
            exact ⟨_, _, rfl, HTA.out.trans hT (fun k hk => (HTA2.out k hk).elim .inl (fun h => .inr h.1)), hR.grow (fun k hk => with_grow HTA.out.size hT.size HTA2.out hk), hF1, hF2⟩
      · have hk : k = n := by omega
        have HLK := Lib.hid (show loI l p.t = k by
          have h1 := lo_end (l := l) (t := p.t) (fun j hj _ => HLO.out j hj (by rw [HN'.out] at hj; omega))
          rw [h1, HN'.out, hk])
        have hd : decide ((k : Int) < (n : Int)) = false := by simp; omega
        go_wp2_with fail
        go_quiet (fail)
        clear hd
        have HB5 := Lib.hid (below_drewN HBK.out nq)
        obtain ⟨y0, y1, y2, y3, y4⟩ := HREAD.out _ HB5.out
        obtain ⟨w5, hw5⟩ : ∃ w5, wr.drewN nq = w5 := ⟨_, rfl⟩
        rw [hw5] at HB5 y0 y1 y2 y3 y4 ⊢
        clear hw5
        clear hk
        have HM5 := Lib.hid (World.ownsRow_made (w := w5) (base := w5.heap.size) (e := 33) (size := 4) #[] 0 (Nat.le_refl _) (by unfold maxLen; omega) rfl)
        have HROW5 := Lib.hid (row_later HROW.out HB5.out)
        have HSRC1 := Lib.hid ((takeN_src HROW5.out (ptC_one l) hkn).later ((Below.refl w5.heap.size w5).alloc (Nat.le_refl _) (.cells #[] 33)))
        have hs1 := slice_upto xa n xc k k rfl (by omega)
        have hs2 := slice_fromI xa n xc k (by omega)
        obtain ⟨sv, hsv⟩ : ∃ sv, Value.slice (if xc = k then xa else xa.map (·.add ((k) * 4))) (n - (k)) (xc - (k)) = sv := ⟨_, rfl⟩
        rw [hsv] at hs2
        have HSV := Lib.hid hsv
        have hgl : g < w5.heap.size := World.block_lt_of_cell? w5 _ y0
        clear hsv
        go_wp2_with (first | (at_builtin; refine wpList_append_srcN rfl _ _ 23 rfl w5.heap.size 33 i0 z0' 4 40 Try.underlying23 HI.out HI0.out HI1.out HI2.out HI3.out (by omega) (.slice (some ⟨w5.heap.size, 0, none⟩) 0 0) 0 [] rfl HM5.out (.slice xa k xc) k _ rfl HSRC1.out (by unfold maxLen; omega) (by omega) (by simp) ?_; intro v6 w6 hr6 hg6 hat6; have HB6 := Lib.hid (((Below.refl w5.heap.size w5).alloc (Nat.le_refl _) (.cells #[] 33)).grown hg6 (by simp) (fun b hb => by cases hb; exact Nat.le_refl _)); have HB6a := Lib.hid (HB5.out.trans (HB6.out.mono HB5.out.size)); obtain ⟨y0, y1, y2, y3, y4⟩ := HREAD.out _ HB6a.out; have HR6 := Lib.hid (row_later hr6 ((Below.refl w6.heap.size w6).alloc (Nat.le_refl _) (.cells (ptV p).toArray 33))); have HSRC2 := Lib.hid (SrcN.of_block (size := 4) (m := 1) (heap_alloc_new w6 (.cells (ptV p).toArray 33)) rfl (ptV_one p) 1); simp only [ptV] at HR6 HSRC2; clear hr6 hg6 hat6) | (at_builtin; go_must (refine wpList_append_srcN rfl _ _ 23 rfl w5.heap.size 33 i0 z0' 4 40 Try.underlying23 HI.out HI0.out HI1.out HI2.out HI3.out (by omega) v6 (0 + k) _ rfl HR6.out (.slice (some ⟨w6.heap.size, 0, none⟩) 1 1) 1 _ rfl HSRC2.out (by unfold maxLen; omega) (by omega) (by have := HB6.out.size; simp; omega) ?_); intro v7 w7 hr7 hg7 hat7; have HB7 := Lib.hid (((HB6.out).alloc HB6.out.size (.cells #[.int .i64 p.t, .int .i64 p.k, .int .u64 p.b, .string p.s] 33)).grown hg7 (by have := HB6.out.size; simp; omega) (fun b hb => by have := (HR6.out.lt b hb).1; omega)); have HB7a := Lib.hid (HB5.out.trans (HB7.out.mono HB5.out.size)); obtain ⟨y0, y1, y2, y3, y4⟩ := HREAD.out _ HB7a.out; have HR7 := Lib.hid hr7; clear hr7 hg7 hat7))
        have hb : decide ((k : Int) < (n : Int)) = false := by simp; omega
        go_quiet (fail)
        clear hb hgl
        have HB8 := Lib.hid (below_drewN HB7.out nq)
        have HB8a := Lib.hid (below_drewN HB7a.out nq)
        have HR8 := Lib.hid (row_later HR7.out (below_drewN (Below.refl _ _) nq))
        obtain ⟨y0, y1, y2, y3, y4⟩ := HREAD.out _ HB8a.out
        obtain ⟨w8, hw8⟩ : ∃ w8, w7.drewN nq = w8 := ⟨_, rfl⟩
        rw [hw8] at HB8 HB8a HR8 y0 y1 y2 y3 y4 ⊢
        clear hw8 HB7 HB7a HR7 HB6 HB6a
        have HSRC3 := Lib.hid (dropN_src (i := k) (row_later HROW.out HB8a.out) (ptC_one l) (by omega))
        rw [HSV.out] at HSRC3
        obtain ⟨tl, htl⟩ : ∃ tl, 0 + k + 1 + (n - (k)) = tl := ⟨_, rfl⟩
        have HCNT := Lib.hid htl
        clear htl
        go_wp2_with (first | (at_builtin; go_must (refine wpList_append_srcN rfl _ _ 23 rfl w5.heap.size 33 i0 z0' 4 40 Try.underlying23 HI.out HI0.out HI1.out HI2.out HI3.out (by omega) v7 (0 + k + 1) _ rfl HR8.out sv _ _ rfl HSRC3.out (by unfold maxLen; omega) (by omega) (by have := HB8.out.size; omega) ?_); intro v9 w9 hr9 hg9 hat9; have HB9 := Lib.hid (HB8a.out.grown hg9 HB8a.out.size (fun b hb => by have := HB5.out.size; have := (HR8.out.lt b hb).1; omega)); rw [HCNT.out] at hr9; obtain ⟨a9, c9, rfl⟩ := row_form hr9; have HR9 := Lib.hid hr9; have x9 := (HREAD.out _ HB9.out).1; have f9 := (HFROZ.out _ HB9.out).1; clear hr9 hg9 hat9))
        go_ret
        have hrow9 := HR9.out
        have hpk := putK_new HLK.out (fun q9 h9 => by have h8 := (List.getElem?_eq_some_iff.1 h9).1; rw [HN'.out] at h8; omega)
        have hcs : ([] ++ List.take (k * 4) (ptC l) ++ [.int .i64 p.t, .int .i64 p.k, .int .u64 p.b, .string p.s]) ++ List.drop ((k) * 4) (ptC l) = ptC (putK l p) := by
          rw [hpk, ptC_take, ptC_drop, ptC_append]; simp [ptC]
        have hlen : 0 + k + 1 + (n - (k)) = (putK l p).length := by
          rw [hpk, List.length_append, List.length_cons, List.length_take, List.length_drop, HN'.out, Nat.min_eq_left hkn]; omega
        rw [HCNT.out] at hlen
        have hrow9' : w9.ownsRow w5.heap.size 33 4 (.slice a9 tl c9) (putK l p).length (ptC (putK l p)) := by rw [← hcs, ← hlen]; simpa using hrow9
        obtain ⟨hR, hT⟩ := HRA.out.setcol HBLK.out HX.out HB9.out hrow9' (by have := HB5.out.size; omega)
        obtain ⟨hF1, hF2⟩ := HFIN.out (.slice a9 tl c9)
        rw [HL'.out] at hF1 hF2
        exact ⟨_, _, rfl, HTA.out.trans hT (fun k hk => (HTA2.out k hk).elim .inl (fun h => .inr h.1)), hR.grow (fun k hk => with_grow HTA.out.size hT.size HTA2.out hk), hF1, hF2⟩
  | false =>
    have HHB := Lib.hid hh
    obtain ⟨at_, hat⟩ : ∃ n, atI R s f = n := ⟨_, rfl⟩
    have hatl : at_ ≤ R.length := by rw [← hat]; exact (List.takeWhile_prefix _).length_le
    have HAT := Lib.hid hat
    obtain ⟨nR, hnR⟩ : ∃ n, R.length = n := ⟨_, rfl⟩
    rw [hnR] at hatl hl
    have HNR := Lib.hid hnR
    clear hh hat hnR
    go_enter Try.func46, Try.ntmps46
    go_wp2_with fail
    refine (refAt w0 T r R most s f HH0.out (by rw [HNR.out]; exact hl)).mono ?_
    rw [HHB.out, HAT.out]
    rintro e w1 ⟨rfl, hb1⟩
    have HB1 := Lib.hid hb1
    have HH1 := Lib.hid (HH0.out.later hb1)
    obtain ⟨v1, hblk1, hrow1, _⟩ := HH1.out.blk
    rw [HNR.out] at hrow1
    obtain ⟨va, cR, rfl⟩ := row55_form hrow1
    have hnc : nR ≤ cR := by
      rcases hrow1.2 with ⟨h1, h2⟩ | ⟨g', c', cur, h1, _, h2, h3, _⟩
      · omega
      · cases h1; exact h3
    have hc0 : ∀ w', Below w1.heap.size w1 w' → w'.cell? ⟨r, 0, none⟩ = some (.slice va nR cR) := fun w' hb => by simp [World.cell?, (hb.block r (heap_lt hblk1)).trans hblk1]
    have hf0 : ∀ w', Below w1.heap.size w1 w' → w'.frozen? ⟨r, 0, none⟩ = false := fun w' hb => by simp [World.frozen?, (hb.block r (heap_lt hblk1)).trans hblk1]
    have HC0 := Lib.hid hc0
    have HF0 := Lib.hid hf0
    have c0 := hc0 _ (Below.refl _ _)
    have hrl : r < w1.heap.size := heap_lt hblk1
    have hone := rcC_one (w := w1) HH1.out.col
    have HM1 := Lib.hid (World.ownsRow_made (w := w1) (base := w1.heap.size) (e := 55) (size := 3) #[] 0 (Nat.le_refl _) (by unfold maxLen; omega) rfl)
    have HSRC1 := Lib.hid ((takeN_src hrow1 hone hatl).later ((Below.refl w1.heap.size w1).alloc (Nat.le_refl _) (.cells #[] 55)))
    have HDROP := Lib.hid (dropN_src hrow1 hone hatl)
    have hs1 := slice46_upto va nR cR at_ (by omega)
    have hs2 := slice46_from va nR cR at_ hatl
    obtain ⟨sv, hsv⟩ : ∃ sv, Value.slice (if cR = at_ then va else va.map (·.add (at_ * 3))) (nR - at_) (cR - at_) = sv := ⟨_, rfl⟩
    rw [hsv] at hs2 HDROP
    obtain ⟨tl, htl⟩ : ∃ tl, 0 + at_ + 1 + (nR - at_) = tl := ⟨_, rfl⟩
    have HCNT := Lib.hid htl
    clear hb1 hblk1 hrow1 hc0 hf0 hone hsv htl
    go_upto_region 6 with (first | (at_builtin; refine wpList_append_srcN rfl _ _ 46 rfl w1.heap.size 55 j0 y0' 3 56 Try.underlying46 HJ.out HJ0.out HJ1.out HJ2.out HJ3.out (by omega) (.slice (some ⟨w1.heap.size, 0, none⟩) 0 0) 0 [] rfl HM1.out (.slice va at_ cR) at_ _ rfl HSRC1.out (by unfold maxLen; omega) (by omega) (by simp) ?_; intro v6 w6 hr6 hg6 hat6; have HB6 := Lib.hid (((Below.refl w1.heap.size w1).alloc (Nat.le_refl _) (.cells #[] 55)).grown hg6 (by simp) (fun b hb => by cases hb; exact Nat.le_refl _)); have c0 := HC0.out _ HB6.out; have HR6 := Lib.hid (row55_later hr6 ((Below.refl w6.heap.size w6).alloc (Nat.le_refl _) (.cells #[.string s, .string f, .slice none 0 0] 55))); have HSRC2 := Lib.hid (SrcN.of_block (size := 3) (m := 1) (heap_alloc_new w6 (.cells #[.string s, .string f, .slice none 0 0] 55)) rfl (by simp [Value.oneCell']) 1); clear hr6 hg6 hat6) | (at_builtin; refine wpList_append_srcN rfl _ _ 46 rfl w1.heap.size 55 j0 y0' 3 56 Try.underlying46 HJ.out HJ0.out HJ1.out HJ2.out HJ3.out (by omega) v6 (0 + at_) _ rfl HR6.out (.slice (some ⟨w6.heap.size, 0, none⟩) 1 1) 1 _ rfl HSRC2.out (by unfold maxLen; omega) (by omega) (by have := HB6.out.size; simp; omega) ?_; intro v7 w7 hr7 hg7 hat7; have HB7 := Lib.hid ((HB6.out.alloc HB6.out.size (.cells #[.string s, .string f, .slice none 0 0] 55)).grown hg7 (by have := HB6.out.size; simp; omega) (fun b hb => (HR6.out.lt b hb).1)); have c0 := HC0.out _ HB7.out; have HR7 := Lib.hid hr7; have HSRC3 := Lib.hid (HDROP.out.later HB7.out); clear hr7 hg7 hat7) | (at_builtin; go_must (refine wpList_append_srcN rfl _ _ 46 rfl w1.heap.size 55 j0 y0' 3 56 Try.underlying46 HJ.out HJ0.out HJ1.out HJ2.out HJ3.out (by omega) v7 (0 + at_ + 1) _ rfl HR7.out sv _ _ rfl HSRC3.out (by unfold maxLen; omega) (by omega) (by have := HB7.out.size; omega) ?_); intro v9 w9 hr9 hg9 hat9; have HB9 := Lib.hid (HB7.out.grown hg9 HB7.out.size (fun b hb => (HR7.out.lt b hb).1)); rw [HCNT.out] at hr9; obtain ⟨a9, c9, rfl⟩ := row55_form hr9; have HR9 := Lib.hid hr9; have c0 := HC0.out _ HB9.out; have f0 := HF0.out _ HB9.out; clear hr9 hg9 hat9))
    obtain ⟨x, hxe⟩ : ∃ x : RC, x = ⟨s, f, .slice none 0 0, []⟩ := ⟨_, rfl⟩
    obtain ⟨RA, hRA⟩ : ∃ RA, RA = R.take at_ ++ x :: R.drop at_ := ⟨_, rfl⟩
    have htk : (R.take at_).length = at_ := by rw [List.length_take, HNR.out]; exact Nat.min_eq_left hatl
    have hlenRA : RA.length = tl := by rw [hRA, List.length_append, List.length_cons, htk, List.length_drop, HNR.out, ← HCNT.out]; omega
    have hcells : rcC RA = ([] ++ List.take (at_ * 3) (rcC R) ++ [.string s, .string f, .slice none 0 0]) ++ List.drop (at_ * 3) (rcC R) := by
      rw [hRA, hxe, rcC_take, rcC_drop, rcC_append]; simp [rcC]
    have hrowN : w9.ownsRow w1.heap.size 55 3 (.slice a9 tl c9) RA.length (rcC RA) := by rw [hlenRA, hcells]; exact HR9.out
    obtain ⟨hRN, hTN⟩ := HH1.out.newrow HB9.out hrowN (Nat.le_refl _) (fun y hy => by
      rw [hRA] at hy
      rcases List.mem_append.1 hy with hy | hy
      · exact .inl (List.mem_of_mem_take hy)
      · rcases List.mem_cons.1 hy with hy | hy
        · refine .inr ⟨w1.heap.size, Nat.le_refl _, ?_⟩
          rw [hy, hxe]
          exact World.ownsRow_nil _ _ _ _
        · exact .inl (List.mem_of_mem_drop hy))
    have hpa9 : (w9.setCell ⟨r, 0, none⟩ (.slice a9 tl c9)).heap[pb]? = some (.cells (ptV p).toArray 33 (0, 0)) := by
      have h1 : r < pb := by have h2 := HH.out.blk; obtain ⟨v, h3, _⟩ := h2; have := heap_lt h3; have := HPB.out; omega
      rw [RowKit.Below.heap_setCell _ _ _ _ (show pb ≠ r by omega)]
      have h2 := HB1.out.size
      have h3 := heap_lt HP0.out
      exact (HB9.out.block pb (by omega)).trans ((HB1.out.block pb h3).trans HP0.out)
    obtain ⟨wa, hwa⟩ : ∃ wa, w9.setCell ⟨r, 0, none⟩ (.slice a9 tl c9) = wa := ⟨_, rfl⟩
    rw [hwa] at hRN hTN hpa9 ⊢
    have HPA := Lib.hid hpa9
    clear hs1 hs2
    have hs1 := HB0.out.size
    have hs2 := HB1.out.size
    have HTA := Lib.hid (show Turns T w wa from (Turns.of_below (HB0.out.trans (HB1.out.mono hs1))).trans hTN (fun _ h => .inl h))
    have HRA := Lib.hid (hRN.grow (T' := With T w wa) (fun k hk => by
      rcases hk with hk | hk
      · exact .inl hk
      · exact .inr ⟨by omega, hk.2⟩))
    have HTA2 := Lib.hid (show ∀ k, With T w wa k → With T w wa k from fun k hk => hk)
    have hXA : RA[at_]? = some x := by rw [hRA, List.getElem?_append_right (by omega), htk, Nat.sub_self]; rfl
    have HX := Lib.hid hXA
    have HLX := Lib.hid (show x.l.length ≤ 1000000000000 by rw [hxe]; exact Nat.zero_le _)
    have HFIN := Lib.hid (fun v' => (show (hereB R s f = true → ∃ x' v'', R[atI R s f]? = some x' ∧ RA.set at_ ⟨x.se, x.fi, v', putK x.l p⟩ = R.set (atI R s f) ⟨x'.se, x'.fi, v'', putK x'.l p⟩) ∧ (hereB R s f = false → ∃ v'', RA.set at_ ⟨x.se, x.fi, v', putK x.l p⟩ = R.take (atI R s f) ++ ⟨s, f, v'', [p]⟩ :: R.drop (atI R s f)) from ⟨fun h => (by rw [HHB.out] at h; cases h), fun _ => ⟨v', by
      rw [HAT.out, hRA, hxe, List.set_append_right _ _ (by omega), htk, Nat.sub_self]; rfl⟩⟩))
    clear hw0 hpb
    clear hxe hRA htk hlenRA hcells hrowN hRN hTN hpa9 hwa hs1 hs2 hXA c0 f0 hrl hnc hl
    obtain ⟨v9, hblk, hrowC, hmine⟩ := HRA.out.blk
    obtain ⟨nn, hnn⟩ : ∃ n, RA.length = n := ⟨_, rfl⟩
    rw [hnn] at hrowC
    have hatn : at_ < nn := by rw [← hnn]; exact (List.getElem?_eq_some_iff.1 HX.out).1
    obtain ⟨va9, cc, rfl⟩ := row55_form hrowC
    obtain ⟨g, rfl, hc⟩ := row55_cells hrowC hnn at_ x HX.out
    have HBLK := Lib.hid hblk
    have hrow := HRA.out.col x (List.mem_of_getElem? HX.out)
    obtain ⟨l, hL⟩ : ∃ l, x.l = l := ⟨_, rfl⟩
    obtain ⟨n, hN⟩ : ∃ n, l.length = n := ⟨_, rfl⟩
    have hn9 : n ≤ 1000000000000 := by rw [← hN, ← hL]; exact HLX.out
    rw [hL, hN] at hrow
    obtain ⟨xa, xc, hxv⟩ := row_form hrow
    rw [hxv] at hrow
    have hnc : n ≤ xc := by
      rcases hrow.2 with ⟨h1, h2⟩ | ⟨g', c', cur, h1, _, h2, h3, _⟩
      · omega
      · cases h1; exact h3
    have HROW := Lib.hid hrow
    have HCEL := Lib.hid (row_cells hrow hN)
    have HN' := Lib.hid hN
    have HL' := Lib.hid hL
    have hread : ∀ w', Below wa.heap.size wa w' → w'.cell? ⟨g, at_ * 3 + 2, none⟩ = some (.slice xa n xc) ∧ w'.cell? ⟨pb, 0, none⟩ = some (.int .i64 p.t) ∧ w'.cell? ⟨pb, 1, none⟩ = some (.int .i64 p.k) ∧ w'.cell? ⟨pb, 2, none⟩ = some (.int .u64 p.b) ∧ w'.cell? ⟨pb, 3, none⟩ = some (.string p.s) := fun w' hb => by
      have h1 := (hc w' hb).2.2
      have h2 := (hb.block pb (heap_lt HPA.out)).trans HPA.out
      rw [hxv] at h1
      exact ⟨h1, by simp [World.cell?, h2, ptV], by simp [World.cell?, h2, ptV], by simp [World.cell?, h2, ptV], by simp [World.cell?, h2, ptV]⟩
    have HREAD := Lib.hid hread
    have c0 : wa.cell? ⟨r, 0, none⟩ = some (.slice (some ⟨g, 0, none⟩) nn cc) := by simp [World.cell?, hblk]
    have hfroz : ∀ w', Below wa.heap.size wa w' → w'.frozen? ⟨g, at_ * 3 + 2, none⟩ = false ∧ (w'.cell? ⟨g, at_ * 3 + 2, none⟩).isSome = true := fun w' hb => by
      have h1 := (hc w' hb).2.2
      rcases hrowC.2 with ⟨h2, _⟩ | ⟨g', c', cur, h2, _, h3, _⟩
      · cases h2
      · cases h2
        have h4 := (hb.block _ (heap_lt h3)).trans h3
        exact ⟨by simp [World.frozen?, h4], by rw [h1]; rfl⟩
    have HFROZ := Lib.hid hfroz
    clear hblk hrowC hmine hnn hc hrow hL hN hxv hread hfroz
    go_wp2_with fail
    clear c0
    go_loopw [13] (fun i wr => InPut wa l p.t n i wr) (fun i _ => n - (intOf i).toNat)
    case atStart => exact ⟨0, Nat.zero_le _, rfl, fun j _ hj => by omega, Below.refl _ _⟩
    case round =>
      obtain ⟨k, hkn, rfl, hlo, hbk⟩ := hrel
      have HLO := Lib.hid hlo
      have HBK := Lib.hid hbk
      obtain ⟨y0, y1, y2, y3, y4⟩ := HREAD.out _ hbk
      clear hlo hbk
      by_cases hlt : k < n
      · obtain ⟨q, hq⟩ : ∃ q, l[k]? = some q := ⟨_, List.getElem?_eq_getElem (by rw [HN'.out]; exact hlt)⟩
        obtain ⟨g', rfl, hcel⟩ := HCEL.out k q hq
        have HQC := Lib.hid hcel
        have HQ := Lib.hid hq
        obtain ⟨z0, z1, z2, z3⟩ := hcel _ HBK.out
        clear hcel hq
        by_cases ht : q.t < p.t
        · clear z1 z2 z3
          go_wp2_with fail
          go_quiet (fail)
          go_wp2_with fail
          go_roundw
          case rel => exact ⟨k + 1, by omega, by go_num, lo_next HQ.out HLO.out ht, below_drewN HBK.out _⟩
          case measure => simp [intOf]; omega
        · have HK := Lib.hid (lo_stop HQ.out HLO.out ht)
          have hd : decide (q.t < p.t) = false := decide_eq_false ht
          clear z1 z2 z3
          go_wp2_with fail
          go_quiet (fail)
          have HB5 := Lib.hid (below_drewN HBK.out nq)
          obtain ⟨y0, y1, y2, y3, y4⟩ := HREAD.out _ HB5.out
          obtain ⟨w5, hw5⟩ : ∃ w5, wr.drewN nq = w5 := ⟨_, rfl⟩
          rw [hw5] at HB5 y0 y1 y2 y3 y4 ⊢
          clear hw5 z0 hd
          have HLK := HK
          by_cases hte : q.t = p.t
          · have HTE := Lib.hid hte
            clear ht hte
            have HM5 := Lib.hid (World.ownsRow_made (w := w5) (base := w5.heap.size) (e := 33) (size := 4) #[] 0 (Nat.le_refl _) (by unfold maxLen; omega) rfl)
            have HROW5 := Lib.hid (row_later HROW.out HB5.out)
            have HSRC1 := Lib.hid ((takeN_src HROW5.out (ptC_one l) hkn).later ((Below.refl w5.heap.size w5).alloc (Nat.le_refl _) (.cells #[] 33)))
            have hs1 := slice_upto (some ⟨g', 0, none⟩) n xc k k rfl (by omega)
            have hs2 := slice_fromI (some ⟨g', 0, none⟩) n xc (k + 1) (by omega)
            rw [Int.natCast_succ] at hs2
            obtain ⟨sv, hsv⟩ : ∃ sv, Value.slice (if xc = k + 1 then (some ⟨g', 0, none⟩) else (some (⟨g', 0, none⟩ : Addr)).map (·.add ((k + 1) * 4))) (n - (k + 1)) (xc - (k + 1)) = sv := ⟨_, rfl⟩
            rw [hsv] at hs2
            have HSV := Lib.hid hsv
            have hgl : g < w5.heap.size := World.block_lt_of_cell? w5 _ y0
            clear hsv
            go_wp2_with (first | (at_builtin; refine wpList_append_srcN rfl _ _ 23 rfl w5.heap.size 33 i0 z0' 4 40 Try.underlying23 HI.out HI0.out HI1.out HI2.out HI3.out (by omega) (.slice (some ⟨w5.heap.size, 0, none⟩) 0 0) 0 [] rfl HM5.out (.slice (some ⟨g', 0, none⟩) k xc) k _ rfl HSRC1.out (by unfold maxLen; omega) (by omega) (by simp) ?_; intro v6 w6 hr6 hg6 hat6; have HB6 := Lib.hid (((Below.refl w5.heap.size w5).alloc (Nat.le_refl _) (.cells #[] 33)).grown hg6 (by simp) (fun b hb => by cases hb; exact Nat.le_refl _)); have HB6a := Lib.hid (HB5.out.trans (HB6.out.mono HB5.out.size)); obtain ⟨y0, y1, y2, y3, y4⟩ := HREAD.out _ HB6a.out; have HR6 := Lib.hid (row_later hr6 ((Below.refl w6.heap.size w6).alloc (Nat.le_refl _) (.cells (ptV p).toArray 33))); have HSRC2 := Lib.hid (SrcN.of_block (size := 4) (m := 1) (heap_alloc_new w6 (.cells (ptV p).toArray 33)) rfl (ptV_one p) 1); simp only [ptV] at HR6 HSRC2; clear hr6 hg6 hat6) | (at_builtin; go_must (refine wpList_append_srcN rfl _ _ 23 rfl w5.heap.size 33 i0 z0' 4 40 Try.underlying23 HI.out HI0.out HI1.out HI2.out HI3.out (by omega) v6 (0 + k) _ rfl HR6.out (.slice (some ⟨w6.heap.size, 0, none⟩) 1 1) 1 _ rfl HSRC2.out (by unfold maxLen; omega) (by omega) (by have := HB6.out.size; simp; omega) ?_); intro v7 w7 hr7 hg7 hat7; have HB7 := Lib.hid (((HB6.out).alloc HB6.out.size (.cells #[.int .i64 p.t, .int .i64 p.k, .int .u64 p.b, .string p.s] 33)).grown hg7 (by have := HB6.out.size; simp; omega) (fun b hb => by have := (HR6.out.lt b hb).1; omega)); have HB7a := Lib.hid (HB5.out.trans (HB7.out.mono HB5.out.size)); obtain ⟨y0, y1, y2, y3, y4⟩ := HREAD.out _ HB7a.out; obtain ⟨z0, _, _, _⟩ := HQC.out _ HB7a.out; have HR7 := Lib.hid hr7; clear hr7 hg7 hat7))
            have hb := beq_t HTE.out
            go_quiet (fail)
            clear hb hgl z0
            have HB8 := Lib.hid (below_drewN HB7.out nq)
            have HB8a := Lib.hid (below_drewN HB7a.out nq)
            have HR8 := Lib.hid (row_later HR7.out (below_drewN (Below.refl _ _) nq))
            obtain ⟨y0, y1, y2, y3, y4⟩ := HREAD.out _ HB8a.out
            obtain ⟨w8, hw8⟩ : ∃ w8, w7.drewN nq = w8 := ⟨_, rfl⟩
            rw [hw8] at HB8 HB8a HR8 y0 y1 y2 y3 y4 ⊢
            clear hw8 HB7 HB7a HR7 HB6 HB6a
            have HSRC3 := Lib.hid (dropN_src (i := k + 1) (row_later HROW.out HB8a.out) (ptC_one l) (by omega))
            rw [HSV.out] at HSRC3
            obtain ⟨tl, htl⟩ : ∃ tl, 0 + k + 1 + (n - (k + 1)) = tl := ⟨_, rfl⟩
            have HCNT := Lib.hid htl
            clear htl
            go_wp2_with (first | (at_builtin; go_must (refine wpList_append_srcN rfl _ _ 23 rfl w5.heap.size 33 i0 z0' 4 40 Try.underlying23 HI.out HI0.out HI1.out HI2.out HI3.out (by omega) v7 (0 + k + 1) _ rfl HR8.out sv _ _ rfl HSRC3.out (by unfold maxLen; omega) (by omega) (by have := HB8.out.size; omega) ?_); intro v9 w9 hr9 hg9 hat9; have HB9 := Lib.hid (HB8a.out.grown hg9 HB8a.out.size (fun b hb => by have := HB5.out.size; have := (HR8.out.lt b hb).1; omega)); rw [HCNT.out] at hr9; obtain ⟨a9, c9, rfl⟩ := row_form hr9; have HR9 := Lib.hid hr9; have x9 := (HREAD.out _ HB9.out).1; have f9 := (HFROZ.out _ HB9.out).1; clear hr9 hg9 hat9))
            go_ret
            have hrow9 := HR9.out
            have hpk := putK_there HLK.out HQ.out HTE.out
            have hcs : ([] ++ List.take (k * 4) (ptC l) ++ [.int .i64 p.t, .int .i64 p.k, .int .u64 p.b, .string p.s]) ++ List.drop ((k + 1) * 4) (ptC l) = ptC (putK l p) := by
              rw [hpk, ptC_take, ptC_drop, ptC_append]; simp [ptC]
            have hlen : 0 + k + 1 + (n - (k + 1)) = (putK l p).length := by
              rw [hpk, List.length_append, List.length_cons, List.length_take, List.length_drop, HN'.out, Nat.min_eq_left hkn]; omega
            rw [HCNT.out] at hlen
            have hrow9' : w9.ownsRow w5.heap.size 33 4 (.slice a9 tl c9) (putK l p).length (ptC (putK l p)) := by rw [← hcs, ← hlen]; simpa using hrow9
            obtain ⟨hR, hT⟩ := HRA.out.setcol HBLK.out HX.out HB9.out hrow9' (by have := HB5.out.size; omega)
            obtain ⟨hF1, hF2⟩ := HFIN.out (.slice a9 tl c9)
            rw [HL'.out] at hF1 hF2
            exact ⟨_, _, rfl, HTA.out.trans hT (fun k hk => (HTA2.out k hk).elim .inl (fun h => .inr h.1)), hR.grow (fun k hk => with_grow HTA.out.size hT.size HTA2.out hk), hF1, hF2⟩
          · have HTE := Lib.hid hte
            clear ht hte
            have HM5 := Lib.hid (World.ownsRow_made (w := w5) (base := w5.heap.size) (e := 33) (size := 4) #[] 0 (Nat.le_refl _) (by unfold maxLen; omega) rfl)
            have HROW5 := Lib.hid (row_later HROW.out HB5.out)
            have HSRC1 := Lib.hid ((takeN_src HROW5.out (ptC_one l) hkn).later ((Below.refl w5.heap.size w5).alloc (Nat.le_refl _) (.cells #[] 33)))
            have hs1 := slice_upto (some ⟨g', 0, none⟩) n xc k k rfl (by omega)
            have hs2 := slice_fromI (some ⟨g', 0, none⟩) n xc k (by omega)
            obtain ⟨sv, hsv⟩ : ∃ sv, Value.slice (if xc = k then (some ⟨g', 0, none⟩) else (some (⟨g', 0, none⟩ : Addr)).map (·.add ((k) * 4))) (n - (k)) (xc - (k)) = sv := ⟨_, rfl⟩
            rw [hsv] at hs2
            have HSV := Lib.hid hsv
            have hgl : g < w5.heap.size := World.block_lt_of_cell? w5 _ y0
            clear hsv
            go_wp2_with (first | (at_builtin; refine wpList_append_srcN rfl _ _ 23 rfl w5.heap.size 33 i0 z0' 4 40 Try.underlying23 HI.out HI0.out HI1.out HI2.out HI3.out (by omega) (.slice (some ⟨w5.heap.size, 0, none⟩) 0 0) 0 [] rfl HM5.out (.slice (some ⟨g', 0, none⟩) k xc) k _ rfl HSRC1.out (by unfold maxLen; omega) (by omega) (by simp) ?_; intro v6 w6 hr6 hg6 hat6; have HB6 := Lib.hid (((Below.refl w5.heap.size w5).alloc (Nat.le_refl _) (.cells #[] 33)).grown hg6 (by simp) (fun b hb => by cases hb; exact Nat.le_refl _)); have HB6a := Lib.hid (HB5.out.trans (HB6.out.mono HB5.out.size)); obtain ⟨y0, y1, y2, y3, y4⟩ := HREAD.out _ HB6a.out; have HR6 := Lib.hid (row_later hr6 ((Below.refl w6.heap.size w6).alloc (Nat.le_refl _) (.cells (ptV p).toArray 33))); have HSRC2 := Lib.hid (SrcN.of_block (size := 4) (m := 1) (heap_alloc_new w6 (.cells (ptV p).toArray 33)) rfl (ptV_one p) 1); simp only [ptV] at HR6 HSRC2; clear hr6 hg6 hat6) | (at_builtin; go_must (refine wpList_append_srcN rfl _ _ 23 rfl w5.heap.size 33 i0 z0' 4 40 Try.underlying23 HI.out HI0.out HI1.out HI2.out HI3.out (by omega) v6 (0 + k) _ rfl HR6.out (.slice (some ⟨w6.heap.size, 0, none⟩) 1 1) 1 _ rfl HSRC2.out (by unfold maxLen; omega) (by omega) (by have := HB6.out.size; simp; omega) ?_); intro v7 w7 hr7 hg7 hat7; have HB7 := Lib.hid (((HB6.out).alloc HB6.out.size (.cells #[.int .i64 p.t, .int .i64 p.k, .int .u64 p.b, .string p.s] 33)).grown hg7 (by have := HB6.out.size; simp; omega) (fun b hb => by have := (HR6.out.lt b hb).1; omega)); have HB7a := Lib.hid (HB5.out.trans (HB7.out.mono HB5.out.size)); obtain ⟨y0, y1, y2, y3, y4⟩ := HREAD.out _ HB7a.out; obtain ⟨z0, _, _, _⟩ := HQC.out _ HB7a.out; have HR7 := Lib.hid hr7; clear hr7 hg7 hat7))
            have hb := bne_t HTE.out
            go_quiet (fail)
            clear hb hgl z0
            have HB8 := Lib.hid (below_drewN HB7.out nq)
            have HB8a := Lib.hid (below_drewN HB7a.out nq)
            have HR8 := Lib.hid (row_later HR7.out (below_drewN (Below.refl _ _) nq))
            obtain ⟨y0, y1, y2, y3, y4⟩ := HREAD.out _ HB8a.out
            obtain ⟨w8, hw8⟩ : ∃ w8, w7.drewN nq = w8 := ⟨_, rfl⟩
            rw [hw8] at HB8 HB8a HR8 y0 y1 y2 y3 y4 ⊢
            clear hw8 HB7 HB7a HR7 HB6 HB6a
            have HSRC3 := Lib.hid (dropN_src (i := k) (row_later HROW.out HB8a.out) (ptC_one l) (by omega))
            rw [HSV.out] at HSRC3
            obtain ⟨tl, htl⟩ : ∃ tl, 0 + k + 1 + (n - (k)) = tl := ⟨_, rfl⟩
            have HCNT := Lib.hid htl
            clear htl
            go_wp2_with (first | (at_builtin; go_must (refine wpList_append_srcN rfl _ _ 23 rfl w5.heap.size 33 i0 z0' 4 40 Try.underlying23 HI.out HI0.out HI1.out HI2.out HI3.out (by omega) v7 (0 + k + 1) _ rfl HR8.out sv _ _ rfl HSRC3.out (by unfold maxLen; omega) (by omega) (by have := HB8.out.size; omega) ?_); intro v9 w9 hr9 hg9 hat9; have HB9 := Lib.hid (HB8a.out.grown hg9 HB8a.out.size (fun b hb => by have := HB5.out.size; have := (HR8.out.lt b hb).1; omega)); rw [HCNT.out] at hr9; obtain ⟨a9, c9, rfl⟩ := row_form hr9; have HR9 := Lib.hid hr9; have x9 := (HREAD.out _ HB9.out).1; have f9 := (HFROZ.out _ HB9.out).1; clear hr9 hg9 hat9))
            go_ret
            have hrow9 := HR9.out
            have hpk := putK_new HLK.out (fun q9 h9 e9 => HTE.out (by rw [HQ.out] at h9; cases h9; exact e9))
            have hcs : ([] ++ List.take (k * 4) (ptC l) ++ [.int .i64 p.t, .int .i64 p.k, .int .u64 p.b, .string p.s]) ++ List.drop ((k) * 4) (ptC l) = ptC (putK l p) := by
              rw [hpk, ptC_take, ptC_drop, ptC_append]; simp [ptC]
            have hlen : 0 + k + 1 + (n - (k)) = (putK l p).length := by
              rw [hpk, List.length_append, List.length_cons, List.length_take, List.length_drop, HN'.out, Nat.min_eq_left hkn]; omega
            rw [HCNT.out] at hlen
            have hrow9' : w9.ownsRow w5.heap.size 33 4 (.slice a9 tl c9) (putK l p).length (ptC (putK l p)) := by rw [← hcs, ← hlen]; simpa using hrow9
            obtain ⟨hR, hT⟩ := HRA.out.setcol HBLK.out HX.out HB9.out hrow9' (by have := HB5.out.size; omega)
            obtain ⟨hF1, hF2⟩ := HFIN.out (.slice a9 tl c9)
            rw [HL'.out] at hF1 hF2
            exact ⟨_, _, rfl, HTA.out.trans hT (fun k hk => (HTA2.out k hk).elim .inl (fun h => .inr h.1)), hR.grow (fun k hk => with_grow HTA.out.size hT.size HTA2.out hk), hF1, hF2⟩
      · have hk : k = n := by omega
        have HLK := Lib.hid (show loI l p.t = k by
          have h1 := lo_end (l := l) (t := p.t) (fun j hj _ => HLO.out j hj (by rw [HN'.out] at hj; omega))
          rw [h1, HN'.out, hk])
        have hd : decide ((k : Int) < (n : Int)) = false := by simp; omega
        go_wp2_with fail
        go_quiet (fail)
        clear hd
        have HB5 := Lib.hid (below_drewN HBK.out nq)
        obtain ⟨y0, y1, y2, y3, y4⟩ := HREAD.out _ HB5.out
        obtain ⟨w5, hw5⟩ : ∃ w5, wr.drewN nq = w5 := ⟨_, rfl⟩
        rw [hw5] at HB5 y0 y1 y2 y3 y4 ⊢
        clear hw5
        clear hk
        have HM5 := Lib.hid (World.ownsRow_made (w := w5) (base := w5.heap.size) (e := 33) (size := 4) #[] 0 (Nat.le_refl _) (by unfold maxLen; omega) rfl)
        have HROW5 := Lib.hid (row_later HROW.out HB5.out)
        have HSRC1 := Lib.hid ((takeN_src HROW5.out (ptC_one l) hkn).later ((Below.refl w5.heap.size w5).alloc (Nat.le_refl _) (.cells #[] 33)))
        have hs1 := slice_upto xa n xc k k rfl (by omega)
        have hs2 := slice_fromI xa n xc k (by omega)
        obtain ⟨sv, hsv⟩ : ∃ sv, Value.slice (if xc = k then xa else xa.map (·.add ((k) * 4))) (n - (k)) (xc - (k)) = sv := ⟨_, rfl⟩
        rw [hsv] at hs2
        have HSV := Lib.hid hsv
        have hgl : g < w5.heap.size := World.block_lt_of_cell? w5 _ y0
        clear hsv
        go_wp2_with (first | (at_builtin; refine wpList_append_srcN rfl _ _ 23 rfl w5.heap.size 33 i0 z0' 4 40 Try.underlying23 HI.out HI0.out HI1.out HI2.out HI3.out (by omega) (.slice (some ⟨w5.heap.size, 0, none⟩) 0 0) 0 [] rfl HM5.out (.slice xa k xc) k _ rfl HSRC1.out (by unfold maxLen; omega) (by omega) (by simp) ?_; intro v6 w6 hr6 hg6 hat6; have HB6 := Lib.hid (((Below.refl w5.heap.size w5).alloc (Nat.le_refl _) (.cells #[] 33)).grown hg6 (by simp) (fun b hb => by cases hb; exact Nat.le_refl _)); have HB6a := Lib.hid (HB5.out.trans (HB6.out.mono HB5.out.size)); obtain ⟨y0, y1, y2, y3, y4⟩ := HREAD.out _ HB6a.out; have HR6 := Lib.hid (row_later hr6 ((Below.refl w6.heap.size w6).alloc (Nat.le_refl _) (.cells (ptV p).toArray 33))); have HSRC2 := Lib.hid (SrcN.of_block (size := 4) (m := 1) (heap_alloc_new w6 (.cells (ptV p).toArray 33)) rfl (ptV_one p) 1); simp only [ptV] at HR6 HSRC2; clear hr6 hg6 hat6) | (at_builtin; go_must (refine wpList_append_srcN rfl _ _ 23 rfl w5.heap.size 33 i0 z0' 4 40 Try.underlying23 HI.out HI0.out HI1.out HI2.out HI3.out (by omega) v6 (0 + k) _ rfl HR6.out (.slice (some ⟨w6.heap.size, 0, none⟩) 1 1) 1 _ rfl HSRC2.out (by unfold maxLen; omega) (by omega) (by have := HB6.out.size; simp; omega) ?_); intro v7 w7 hr7 hg7 hat7; have HB7 := Lib.hid (((HB6.out).alloc HB6.out.size (.cells #[.int .i64 p.t, .int .i64 p.k, .int .u64 p.b, .string p.s] 33)).grown hg7 (by have := HB6.out.size; simp; omega) (fun b hb => by have := (HR6.out.lt b hb).1; omega)); have HB7a := Lib.hid (HB5.out.trans (HB7.out.mono HB5.out.size)); obtain ⟨y0, y1, y2, y3, y4⟩ := HREAD.out _ HB7a.out; have HR7 := Lib.hid hr7; clear hr7 hg7 hat7))
        have hb : decide ((k : Int) < (n : Int)) = false := by simp; omega
        go_quiet (fail)
        clear hb hgl
        have HB8 := Lib.hid (below_drewN HB7.out nq)
        have HB8a := Lib.hid (below_drewN HB7a.out nq)
        have HR8 := Lib.hid (row_later HR7.out (below_drewN (Below.refl _ _) nq))
        obtain ⟨y0, y1, y2, y3, y4⟩ := HREAD.out _ HB8a.out
        obtain ⟨w8, hw8⟩ : ∃ w8, w7.drewN nq = w8 := ⟨_, rfl⟩
        rw [hw8] at HB8 HB8a HR8 y0 y1 y2 y3 y4 ⊢
        clear hw8 HB7 HB7a HR7 HB6 HB6a
        have HSRC3 := Lib.hid (dropN_src (i := k) (row_later HROW.out HB8a.out) (ptC_one l) (by omega))
        rw [HSV.out] at HSRC3
        obtain ⟨tl, htl⟩ : ∃ tl, 0 + k + 1 + (n - (k)) = tl := ⟨_, rfl⟩
        have HCNT := Lib.hid htl
        clear htl
        go_wp2_with (first | (at_builtin; go_must (refine wpList_append_srcN rfl _ _ 23 rfl w5.heap.size 33 i0 z0' 4 40 Try.underlying23 HI.out HI0.out HI1.out HI2.out HI3.out (by omega) v7 (0 + k + 1) _ rfl HR8.out sv _ _ rfl HSRC3.out (by unfold maxLen; omega) (by omega) (by have := HB8.out.size; omega) ?_); intro v9 w9 hr9 hg9 hat9; have HB9 := Lib.hid (HB8a.out.grown hg9 HB8a.out.size (fun b hb => by have := HB5.out.size; have := (HR8.out.lt b hb).1; omega)); rw [HCNT.out] at hr9; obtain ⟨a9, c9, rfl⟩ := row_form hr9; have HR9 := Lib.hid hr9; have x9 := (HREAD.out _ HB9.out).1; have f9 := (HFROZ.out _ HB9.out).1; clear hr9 hg9 hat9))
        go_ret
        have hrow9 := HR9.out
        have hpk := putK_new HLK.out (fun q9 h9 => by have h8 := (List.getElem?_eq_some_iff.1 h9).1; rw [HN'.out] at h8; omega)
        have hcs : ([] ++ List.take (k * 4) (ptC l) ++ [.int .i64 p.t, .int .i64 p.k, .int .u64 p.b, .string p.s]) ++ List.drop ((k) * 4) (ptC l) = ptC (putK l p) := by
          rw [hpk, ptC_take, ptC_drop, ptC_append]; simp [ptC]
        have hlen : 0 + k + 1 + (n - (k)) = (putK l p).length := by
          rw [hpk, List.length_append, List.length_cons, List.length_take, List.length_drop, HN'.out, Nat.min_eq_left hkn]; omega
        rw [HCNT.out] at hlen
        have hrow9' : w9.ownsRow w5.heap.size 33 4 (.slice a9 tl c9) (putK l p).length (ptC (putK l p)) := by rw [← hcs, ← hlen]; simpa using hrow9
        obtain ⟨hR, hT⟩ := HRA.out.setcol HBLK.out HX.out HB9.out hrow9' (by have := HB5.out.size; omega)
        obtain ⟨hF1, hF2⟩ := HFIN.out (.slice a9 tl c9)
        rw [HL'.out] at hF1 hF2
        exact ⟨_, _, rfl, HTA.out.trans hT (fun k hk => (HTA2.out k hk).elim .inl (fun h => .inr h.1)), hR.grow (fun k hk => with_grow HTA.out.size hT.size HTA2.out hk), hF1, hF2⟩
end Go.Proofs.Ytfhdaihladgchaa
