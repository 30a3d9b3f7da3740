/- A point is put into the cache. Conditions: what the cache holds is in its bounds. -/
import Derived.Test.YtfhdaihladgchaaL
import Derived.Laws.NewBlocks
import Derived.Deep.MidRow
import Derived.Deep.RegionHeld3
import Derived.Outline
namespace Go.Proofs.Ytfhdaihladgchaa
open Go.RowKit Go.WideMaps
def thereB (l : List Pt) (t : Int) : Bool := decide (loI l t < hiI l t)
def otherK (l : List Pt) (k : Int) : Bool := match l with | [] => false | q :: _ => decide (q.k ≠ k)
/-- What a put answers. -/
def putE (l : List Pt) (size most : Int) (p : Pt) : Int :=
  if formedB p.k p.b p.s = false then 1 else if otherK l p.k then 5 else if thereB l p.t then 0 else if size ≥ most then 7 else 0
/-- A row with one more point, or another one at its time. -/
def putL (l : List Pt) (p : Pt) : List Pt := if thereB l p.t then l.set (loI l p.t) p else l.take (loI l p.t) ++ p :: l.drop (loI l p.t)
def putN (l : List Pt) (size most : Int) (p : Pt) : List Pt := if putE l size most p = 0 then putL l p else l
def putD (l : List Pt) (size most : Int) (p : Pt) : Nat := if putE l size most p = 0 then (if thereB l p.t then 0 else 1) else 0
def PutPost (w : World) (S : Nat → Prop) (c m : Nat) (L : List Col) (most : Int) (s f : ByteArray) (p : Pt) (e : Ending) (w' : World) : Prop :=
  ∃ L', e = .returned (.int .i64 (putE (ptsOf (look L s f)) (total L) most p)) ∧ Turns S w w' ∧ CacheAt w' (With S w w') c m L' most (total L') ∧ (∀ s' f', ptsOf (look L' s' f') = if s' = s ∧ f' = f then putN (ptsOf (look L s f)) (total L) most p else ptsOf (look L s' f')) ∧ total L' = total L + putD (ptsOf (look L s f)) (total L) most p
theorem put_stays {w w' : World} {S : Nat → Prop} {c m : Nat} {L : List Col} {most : Int} {s f : ByteArray} {p : Pt} (h : CacheAt w S c m L most (total L)) (hb : Below w.heap.size w w') (n : Int) (hn : putE (ptsOf (look L s f)) (total L) most p = n) (h0 : n ≠ 0) : PutPost w S c m L most s f p (.returned (.int .i64 n)) w' := by
  refine ⟨L, by rw [hn], Turns.of_below hb, (h.later hb).more fun _ => .inl, fun s' f' => ?_, by rw [putD, hn, if_neg h0]; rfl⟩
  have : putN (ptsOf (look L s f)) (total L) most p = ptsOf (look L s f) := by unfold putN; rw [hn, if_neg h0]
  rw [this]
  split
  · next hk => rw [hk.1, hk.2]
  · rfl
theorem len_le {w : World} {S : Nat → Prop} {c m : Nat} {L : List Col} {most size : Int} (h : CacheAt w S c m L most size) (s f : ByteArray) : (ptsOf (look L s f)).length ≤ total L := by
  rw [total_dropC (s := s) (f := f) h.uniq]; omega
theorem count_le {w : World} {S : Nat → Prop} {c m : Nat} {L : List Col} {most size : Int} (h : CacheAt w S c m L most size) : L.length ≤ total L := by
  have hne : ∀ x ∈ L, x.l ≠ [] := fun x hx => (h.col x hx).2.2.1
  clear h
  induction L with
  | nil => simp
  | cons x r ih =>
    have h1 := ih fun y hy => hne y (by simp [hy])
    have h2 : 0 < x.l.length := List.length_pos_iff.2 (hne x (by simp))
    simp only [total, List.map_cons, List.sum_cons, List.length_cons] at h1 ⊢
    omega
theorem at_there {l : List Pt} {t : Int} {i : Nat} {f : Bool} (hr : Rises l) (h : At l t i f) : thereB l t = f ∧ loI l t = i := by
  have h1 := at_lo h
  have h2 := at_hi hr h
  refine ⟨?_, h1⟩
  unfold thereB
  rw [h1, h2]
  cases f <;> simp
theorem row_block {w : World} {base n : Nat} {v : Value} {xs : List Value} (h : w.ownsRow base 33 4 v n xs) {g : Nat} (hg : v.ownBlock = some g) : ∃ cur, w.heap[g]? = some (.cells cur 33 (0, 0)) := by
  rcases h.2 with ⟨rfl, _⟩ | ⟨g', c, cur, rfl, _, h2, _⟩
  · cases hg
  · cases hg; exact ⟨cur, h2⟩
/-- What a map's store behind an insertion leaves. -/
structure Laid (w4 w6 : World) (v v' : Value) (m : Nat) (L : List Col) (s f : ByteArray) (l' : List Pt) : Prop where
  map : w6.ownsMap Try.prog 63 rowE m (L.length + 1) ((DataW.map (L.map ent)).put (kL s f) (rowD v'))
  row : w6.ownsRow 0 33 4 v' l'.length (ptC l')
  os : w6.os = w4.os
  tape : w6.tape = w4.tape
  output : w6.output = w4.output
  size : w4.heap.size ≤ w6.heap.size
  block : ∀ k, k < w4.heap.size → v.ownBlock ≠ some k → k ≠ m → w6.heap[k]? = w4.heap[k]?
  own : v'.ownBlock = v.ownBlock ∨ ∃ k, v'.ownBlock = some k ∧ w4.heap.size ≤ k ∧ k < w6.heap.size
theorem insert_in (w4 : World) (S : Nat → Prop) (c m : Nat) (L : List Col) (most size : Int) (s f : ByteArray) (v : Value) (l : List Pt) (i : Nat) (p : Pt) (h : CacheAt w4 S c m L most size) (hrow : w4.ownsRow 0 33 4 v l.length (ptC l))
    (hgl : ∀ g, v.ownBlock = some g → g < w4.heap.size ∧ g ≠ m) (hi : i ≤ l.length) (hn : l.length ≤ 1000000000000) (hs : s.size ≤ maxLen) (hf : f.size ≤ maxLen) (hcn : L.length ≤ 1000000000000) :
    Calls Try.prog 24 #[v, .int .i64 i, .slice (some ⟨w4.heap.size, 0, none⟩) 1 1] (w4.alloc (.cells #[.int .i64 p.t, .int .i64 p.k, .int .u64 p.b, .string p.s] 33)).drew
      fun e w5 => ∃ v' w6, e = .returned v' ∧ (Instr.mapUpdate 58 (.map (some m)) (.agg #[.string s, .string f]) v').run Try.prog w5 = .ok () w6 ∧ (∀ k, k < w4.heap.size → v.ownBlock ≠ some k → w5.heap[k]? = w4.heap[k]?) ∧ Laid w4 w6 v v' m L s f (l.take i ++ p :: l.drop i) := by
  refine (insert _ 0 v i w4.heap.size l p ((World.ownsRow.alloc hrow _).drew) hi (heap_alloc_new w4 _) (fun e => by have := (hgl _ e).1; omega) (Nat.zero_le _) hn).mono ?_
  rintro e w5 ⟨v', rfl, hrow5, hg5, hob⟩
  have hsz5 := hg5.size
  simp only [World.size_drew, World.size_alloc] at hsz5
  have hblk : ∀ k, k < w4.heap.size → v.ownBlock ≠ some k → w5.heap[k]? = w4.heap[k]? := fun k hk hne => by
    rw [hg5.block k (by simp; omega) (Ne.symm hne)]
    exact heap_alloc_old w4 _ hk
  obtain ⟨es, cl, hm, hrest⟩ := h.map
  have hml := heap_lt hm
  have hmv : v.ownBlock ≠ some m := fun e => (hgl m e).2 rfl
  have hown5 : w5.ownsMap Try.prog 63 rowE m L.length (.map (L.map ent)) := ⟨es, cl, (hblk m hml hmv).trans hm, hrest⟩
  obtain ⟨w6, hrun, hown6, ht⟩ := hown5.store keyed63 Try.underlying58 (by unfold maxLen; omega) (key63 s f hs hf) (rowD_of hrow5)
  have hg6 := ht.grown
  have hmv' : v'.ownBlock ≠ some m := by
    rcases hob with h1 | h1
    · rw [h1]; exact hmv
    · rw [h1]
      intro e
      simp at e
      omega
  refine ⟨v', w6, rfl, hrun, hblk, hown6, ?_, hg6.os.trans hg5.os, hg6.tape.trans hg5.tape, hg6.output.trans hg5.output, Nat.le_trans (by omega) hg6.size, fun k hk hne hkm => ?_, ?_⟩
  · have hl2 : (l.take i ++ p :: l.drop i).length = l.length + 1 := by simp; omega
    rw [hl2]
    refine ownsRow_same hrow5 fun g hg => hg6.block g (hrow5.lt g hg).2 fun e => ?_
    cases e
    exact hmv' hg
  · rw [hg6.block k (by omega) (fun e => hkm (by cases e; rfl))]
    exact hblk k hk hne
  · rcases hob with h1 | h1
    · exact .inl h1
    · exact .inr ⟨w4.heap.size + 1, by simpa using h1, by omega, Nat.lt_of_lt_of_le (hrow5.lt _ (by simpa using h1)).2 hg6.size⟩
theorem apart_look {w : World} {S : Nat → Prop} {c m : Nat} {L : List Col} {most size : Int} (h : CacheAt w S c m L most size) {s f : ByteArray} {x : Col} (hx : x ∈ L) (hk : isCol s f x = false) {g : Nat} (hg : x.v.ownBlock = some g) : (valOf (look L s f)).ownBlock ≠ some g := by
  cases he : look L s f with
  | none => simp [valOf, Value.ownBlock]
  | some e =>
    intro hc
    have hc' : e.v.ownBlock = some g := hc
    have hne' : x ≠ e := fun h0 => by
      have := (look_mem he).2
      rw [← h0] at this
      have h5 : isCol s f x = true := decide_eq_true this
      rw [hk] at h5; cases h5
    rcases List.mem_iff_getElem.1 hx with ⟨i, hi, rfl⟩
    rcases List.mem_iff_getElem.1 (look_mem he).1 with ⟨j, hj, hej⟩
    rcases Nat.lt_trichotomy i j with hij | rfl | hij
    · exact ((List.pairwise_iff_getElem.1 h.apart) i j hi hj hij).1 g hg (by rw [hej]; exact hc')
    · exact hne' hej
    · exact ((List.pairwise_iff_getElem.1 h.apart) j i hj hi hij).1 g (by rw [hej]; exact hc') hg
theorem CacheAt.laid {w4 w6 : World} {S : Nat → Prop} {c m : Nat} {L : List Col} {most size : Int} (h : CacheAt w4 S c m L most size) {s f : ByteArray} {v' : Value} {l' : List Pt} (hs : s.size ≤ maxLen) (hf : f.size ≤ maxLen) (hld : Laid w4 w6 (valOf (look L s f)) v' m L s f l') (hr : Rises l') (hne : l' ≠ []) (sz' : Int) :
    CacheAt (w6.setCell ⟨c, 1, none⟩ (.int .i64 sz')) (With S w4 (w6.setCell ⟨c, 1, none⟩ (.int .i64 sz'))) c m (putC L s f v' l') most sz' ∧ Turns S w4 (w6.setCell ⟨c, 1, none⟩ (.int .i64 sz')) := by
  have hcl := heap_lt h.blk
  have hrow := (valOf_row h s f).1
  obtain ⟨es, cl, hm, _⟩ := h.map
  have hml := heap_lt hm
  have hcm : c ≠ m := fun e => by have h1 := h.blk; rw [e, hm] at h1; cases h1
  have hvc : ∀ {n : Nat} {v : Value} {xs : List Value}, w4.ownsRow 0 33 4 v n xs → v.ownBlock ≠ some c := fun hw e => by
    obtain ⟨cur, hcur⟩ := row_block hw e
    rw [h.blk] at hcur
    simp at hcur
  have hvm : ∀ {n : Nat} {v : Value} {xs : List Value}, w4.ownsRow 0 33 4 v n xs → v.ownBlock ≠ some m := fun hw e => by
    obtain ⟨cur, hcur⟩ := row_block hw e
    rw [hm] at hcur
    cases hcur
  have hc6 : w6.heap[c]? = some (.cells #[.int .i64 most, .int .i64 size, .map (some m)] 60 (0, 0)) := (hld.block c hcl (hvc hrow) hcm).trans h.blk
  have hv'c : v'.ownBlock ≠ some c := by
    rcases hld.own with h1 | ⟨k, h1, h2, _⟩
    · rw [h1]; exact hvc hrow
    · rw [h1]; intro e; cases e; omega
  have hset : ∀ k, k ≠ c → (w6.setCell ⟨c, 1, none⟩ (.int .i64 sz')).heap[k]? = w6.heap[k]? := fun k hk => RowKit.Below.heap_setCell _ _ _ _ hk
  have hsize : (w6.setCell ⟨c, 1, none⟩ (.int .i64 sz')).heap.size = w6.heap.size := by simp
  have hT : Turns S w4 (w6.setCell ⟨c, 1, none⟩ (.int .i64 sz')) := by
    refine ⟨hld.os, hld.tape, hld.output, by rw [hsize]; exact hld.size, fun k hk hn => ?_⟩
    have h1 : k ≠ c := fun e => hn (e ▸ h.here.1)
    have h2 : k ≠ m := fun e => hn (e ▸ h.here.2)
    rw [hset k h1]
    refine hld.block k hk (fun e => hn ?_) h2
    cases he : look L s f with
    | none => rw [he] at e; cases e
    | some x => rw [he] at e; exact h.mine x (look_mem he).1 k e
  refine ⟨h.put s f v' l' (L.length + 1) hs hf ?_ (hld.map.setCell (Ne.symm hcm) _) (ownsRow_same hld.row fun g hg => hset g fun e => hv'c (e ▸ hg)) hr hne (fun x hx hk g hg => ?_) (fun _ => .inl) (fun g hg => ?_), hT⟩
  · have := heap_setCell_same w6 c 1 _ 60 (.int .i64 sz') hc6
    rw [this]; rfl
  · have hx' := (h.col x hx).1
    have hgv : (valOf (look L s f)).ownBlock ≠ some g := apart_look h hx hk hg
    have hgl := (hx'.lt g hg).2
    refine ⟨(hset g fun e => hvc hx' (e ▸ hg)).trans (hld.block g hgl hgv fun e => hvm hx' (e ▸ hg)), ?_⟩
    rcases hld.own with h1 | ⟨k, h1, h2, _⟩
    · rw [h1]; exact hgv
    · rw [h1]; intro e; cases e; omega
  · rcases hld.own with h1 | ⟨k, h1, h2, h3⟩
    · rw [h1] at hg
      cases he : look L s f with
      | none => rw [he] at hg; cases hg
      | some x => rw [he] at hg; exact .inl (h.mine x (look_mem he).1 g hg)
    · rw [h1] at hg; cases hg
      exact .inr ⟨h2, by rw [hsize]; exact h3⟩
theorem rises_put {l : List Pt} {p : Pt} {i : Nat} (hr : Rises l) (h : At l p.t i false) : Rises (l.take i ++ p :: l.drop i) := by
  have hlt : ∀ x ∈ l.take i, x.t < p.t := fun x hx => by
    obtain ⟨j, hj, rfl⟩ := List.mem_iff_getElem.1 hx
    rw [List.length_take] at hj
    rw [List.getElem_take]
    exact h.2.1 j (by omega) (by omega)
  have hgt : ∀ x ∈ l.drop i, p.t < x.t := fun x hx => by
    obtain ⟨j, hj, rfl⟩ := List.mem_iff_getElem.1 hx
    rw [List.length_drop] at hj
    rw [List.getElem_drop]
    have h1 := h.2.2.1 (i + j) (by omega) (by omega)
    have h2 : l[i + j].t ≠ p.t := fun e => by
      by_cases hj0 : j = 0
      · subst hj0
        have := h.2.2.2.2 ⟨by omega, by simpa using e⟩
        cases this
      · have h3 := (List.pairwise_iff_getElem.1 hr) i (i + j) (by omega) (by omega) (by omega)
        have h4 := h.2.2.1 i (by omega) (Nat.le_refl _)
        omega
    omega
  have hsp : (l.take i ++ l.drop i).Pairwise fun a b => a.t < b.t := by rw [List.take_append_drop]; exact hr
  obtain ⟨a1, a2, a3⟩ := List.pairwise_append.1 hsp
  refine List.pairwise_append.2 ⟨a1, List.pairwise_cons.2 ⟨hgt, a2⟩, fun x hx y hy => ?_⟩
  rcases List.mem_cons.1 hy with rfl | hy
  · exact hlt x hx
  · exact a3 x hx y hy
theorem there_row {w : World} {base g n c i : Nat} {l : List Pt} (h : w.ownsRow base 33 4 (.slice (some ⟨g, 0, none⟩) n c) l.length (ptC l)) (hl : l.length = n) (hi : i < n) : w.drew.there g (i * 4) 4 := by
  rcases h.2 with ⟨h1, _⟩ | ⟨g', c', cur, h1, _, h2, h3, h4, h5, h6⟩
  · cases h1
  · cases h1
    intro j hj
    have h2' : w.drew.heap[g]? = some (.cells cur 33 (0, 0)) := h2
    have hlt : i * 4 + j < cur.size := by omega
    constructor
    · simp [World.cell?, h2', hlt]
    · simp [World.frozen?, h2']
theorem ptC_set : ∀ (l : List Pt) (i : Nat) (p : Pt), i < l.length → ((((ptC l).set (i * 4) (.int .i64 p.t)).set (i * 4 + 1) (.int .i64 p.k)).set (i * 4 + 2) (.int .u64 p.b)).set (i * 4 + 3) (.string p.s) = ptC (l.set i p)
  | [], _, _, h => by simp at h
  | q :: r, 0, p, _ => by simp [ptC, ptV]
  | q :: r, i + 1, p, h => by
    have ih := ptC_set r i p (by simpa using h)
    have e : (i + 1) * 4 = i * 4 + 4 := by omega
    simp only [List.set_cons_succ, ptC]
    rw [← ih, e]
    simp [ptV]
theorem rises_set : ∀ {l : List Pt} {i : Nat} {p : Pt}, Rises l → (∃ h : i < l.length, l[i].t = p.t) → Rises (l.set i p) := fun {l i p} hr ⟨hi, he⟩ => by
  refine List.pairwise_iff_getElem.2 fun a b ha hb hab => ?_
  simp only [List.length_set] at ha hb
  have h0 := (List.pairwise_iff_getElem.1 hr) a b ha hb hab
  rw [List.getElem_set, List.getElem_set]
  split
  · split
    · omega
    · next h1 _ => subst h1; omega
  · split
    · next h1 => subst h1; omega
    · exact h0
theorem put_there {w W : World} {S : Nat → Prop} {c m : Nat} {L : List Col} {most : Int} {s f : ByteArray} {p : Pt} {g ln vc : Nat} {l : List Pt} {i : Nat} (hb4 : Below w.heap.size w W) (h4 : CacheAt W S c m L most (total L)) (hv : valOf (look L s f) = .slice (some ⟨g, 0, none⟩) ln vc) (hl : ptsOf (look L s f) = l)
    (hrow : W.ownsRow 0 33 4 (.slice (some ⟨g, 0, none⟩) ln vc) l.length (ptC l)) (hln : l.length = ln) (hr : Rises l) (hat : At l p.t i true) (hpe : putE l (total L) most p = 0) : PutPost w S c m L most s f p (.returned (.int .i64 0)) (W.setCells g (i * 4) [.int .i64 p.t, .int .i64 p.k, .int .u64 p.b, .string p.s]) := by
  obtain ⟨hth, hlo⟩ := at_there hr hat
  obtain ⟨hi, he⟩ := hat.2.2.2.1 rfl
  have hpl : putL l p = l.set i p := by simp [putL, hth, hlo]
  cases hlk : look L s f with
  | none => rw [hlk] at hv; cases hv
  | some e =>
    have hev : e.v = .slice (some ⟨g, 0, none⟩) ln vc := by rw [hlk] at hv; exact hv
    have hel : e.l = l := by rw [hlk] at hl; exact hl
    have hgS : S g := h4.mine e (look_mem hlk).1 g (by rw [hev]; rfl)
    obtain ⟨cur, hgw⟩ := row_block hrow (g := g) rfl
    have hblk : ∀ k, k ≠ g → (W.setCells g (i * 4) [.int .i64 p.t, .int .i64 p.k, .int .u64 p.b, .string p.s]).heap[k]? = W.heap[k]? := fun k hk => by
      simp only [World.setCells]
      rw [RowKit.Below.heap_setCell _ _ _ _ hk, RowKit.Below.heap_setCell _ _ _ _ hk, RowKit.Below.heap_setCell _ _ _ _ hk, RowKit.Below.heap_setCell _ _ _ _ hk]
    have hsize : (W.setCells g (i * 4) [.int .i64 p.t, .int .i64 p.k, .int .u64 p.b, .string p.s]).heap.size = W.heap.size := by simp [World.setCells]
    have hrow' : (W.setCells g (i * 4) [.int .i64 p.t, .int .i64 p.k, .int .u64 p.b, .string p.s]).ownsRow 0 33 4 (.slice (some ⟨g, 0, none⟩) ln vc) ln (ptC (l.set i p)) := by
      rw [hln] at hrow
      have h1 := ownsRow_set (i := i * 4) (u := .int .i64 p.t) hrow
      have h2 := ownsRow_set (i := i * 4 + 1) (u := .int .i64 p.k) h1
      have h3 := ownsRow_set (i := i * 4 + 2) (u := .int .u64 p.b) h2
      have h5 := ownsRow_set (i := i * 4 + 3) (u := .string p.s) h3
      rw [ptC_set l i p hi] at h5
      exact h5
    have hgc : g ≠ c := fun e' => by rw [e', h4.blk] at hgw; simp at hgw
    have hgm : g ≠ m := fun e' => by
      obtain ⟨es, cl, hm, _⟩ := h4.map
      rw [e', hm] at hgw; cases hgw
    have hset := h4.set (w' := W.setCells g (i * 4) [.int .i64 p.t, .int .i64 p.k, .int .u64 p.b, .string p.s]) s f e (l.set i p) hlk (by rw [hev, List.length_set, hln]; exact hrow') (rises_set hr ⟨hi, he⟩) (by intro h0; have := congrArg List.length h0; simp at this; rw [this] at hi; simp at hi) ⟨hblk c (Ne.symm hgc), hblk m (Ne.symm hgm)⟩ (fun k hk _ _ => hblk k fun e' => hk (by rw [hev, e']; rfl))
    have hT : Turns S W (W.setCells g (i * 4) [.int .i64 p.t, .int .i64 p.k, .int .u64 p.b, .string p.s]) := ⟨rfl, rfl, rfl, by rw [hsize]; exact Nat.le_refl _, fun k _ hn => hblk k fun e' => hn (e' ▸ hgS)⟩
    refine ⟨setC L s f (l.set i p), by rw [hl, hpe], (Turns.of_below hb4).trans hT (fun _ h => .inl h), ?_, fun s' f' => ?_, by rw [hl, putD, hpe, if_pos rfl, hth, total_setC h4.uniq hlk (l.set i p) (by rw [List.length_set, hel])]; rfl⟩
    · rw [total_setC h4.uniq hlk (l.set i p) (by rw [List.length_set, hel])]
      exact hset.more fun _ => .inl
    · rw [look_setC hlk]
      have : putN (ptsOf (look L s f)) (total L) most p = l.set i p := by rw [hl]; unfold putN; rw [hpe, if_pos rfl, hpl]
      rw [this]
theorem put_new {w w4 w6 : World} {S : Nat → Prop} {c m : Nat} {L : List Col} {most : Int} {s f : ByteArray} {p : Pt} {v v' : Value} {l : List Pt} {i : Nat} (hb4 : Below w.heap.size w w4) (h4 : CacheAt w4 S c m L most (total L)) (hs : s.size ≤ maxLen) (hf : f.size ≤ maxLen) (hv : valOf (look L s f) = v) (hl : ptsOf (look L s f) = l)
    (hld : Laid w4 w6 v v' m L s f (l.take i ++ p :: l.drop i)) (hr : Rises l) (hat : At l p.t i false) (hpe : putE l (total L) most p = 0) (n : Int) (hn : n = total L + 1) : PutPost w S c m L most s f p (.returned (.int .i64 0)) (w6.setCell ⟨c, 1, none⟩ (.int .i64 n)) := by
  subst hv
  obtain ⟨hth, hlo⟩ := at_there hr hat
  have hpl : putL l p = l.take i ++ p :: l.drop i := by simp [putL, hth, hlo]
  obtain ⟨hc, ht⟩ := h4.laid hs hf hld (rises_put hr hat) (by simp) n
  have htot : ((total (putC L s f v' (l.take i ++ p :: l.drop i)) : Nat) : Int) = n := by
    have h1 := total_putC (s := s) (f := f) h4.uniq v' (l.take i ++ p :: l.drop i)
    have h2 : (l.take i ++ p :: l.drop i).length = l.length + 1 := by have := hat.1; simp; omega
    rw [hl, h2] at h1
    omega
  refine ⟨putC L s f v' (l.take i ++ p :: l.drop i), by rw [hl, hpe], (Turns.of_below hb4).trans ht (fun _ h => .inl h), ?_, fun s' f' => ?_, by rw [hl, putD, hpe, if_pos rfl, hth]; simp; omega⟩
  · rw [htot]
    refine hc.more fun k hk => ?_
    rcases hk with hk | hk
    · exact .inl hk
    · exact .inr ⟨Nat.le_trans hb4.size hk.1, hk.2⟩
  · rw [look_putC]
    have : putN (ptsOf (look L s f)) (total L) most p = l.take i ++ p :: l.drop i := by rw [hl]; unfold putN; rw [hpe, if_pos rfl, hpl]
    rw [this]
set_option maxRecDepth 100000 in
theorem putC10 (w : World) (S : Nat → Prop) (c m : Nat) (L : List Col) (most : Int) (s f : ByteArray) (p : Pt) (h : CacheAt w S c m L most (total L)) (hs : s.size ≤ maxLen) (hf : f.size ≤ maxLen) (hpb : 0 ≤ p.b ∧ p.b < 2 ^ 64) (hps : p.s.size ≤ maxLen) (hn : total L ≤ 1000000000000) :
    Calls Try.prog 10 #[.pointer (some ⟨c, 0, none⟩), .string s, .string f, .agg #[.int .i64 p.t, .int .i64 p.k, .int .u64 p.b, .string p.s]] w (PutPost w S c m L most s f p) := by
  have HH := Lib.hid h
  have HPB := Lib.hid hpb
  have hb := h.blk
  obtain ⟨sz, hsz⟩ : ∃ n : Int, (total L : Int) = n := ⟨_, rfl⟩
  rw [hsz] at hb
  have c0 : w.cell? ⟨c, 0, none⟩ = some (.int .i64 most) := by simp [World.cell?, hb]
  have c1 : w.cell? ⟨c, 1, none⟩ = some (.int .i64 sz) := by simp [World.cell?, hb]
  have c2 : w.cell? ⟨c, 2, none⟩ = some (.map (some m)) := by simp [World.cell?, hb]
  have hcl : c < w.heap.size := heap_lt hb
  have hlk := h.lookup s f hs hf
  have HSZ := Lib.hid hsz
  clear h hpb hb hsz
  cases hfm : formedB p.k p.b p.s with
  | false =>
    have HFM := Lib.hid hfm
    clear hlk c0 c1 c2 hfm
    go_enter Try.func10, Try.ntmps10
    go_wp2_with fail
    refine (formed p.k p.b p.s _ HPB.out hps).mono ?_
    rintro e w1 ⟨rfl, hb1⟩
    have HB1 := Lib.hid hb1
    clear hb1
    simp only [HFM.out]
    go_wp2_with fail
    go_ret
    exact put_stays HH.out (((Below.refl _ _).alloc (Nat.le_refl _) _).trans (HB1.out.mono (by simp))) 1 (by simp [putE, HFM.out]) (by decide)
  | true =>
    have HFM := Lib.hid hfm
    clear hfm
    go_enter Try.func10, Try.ntmps10
    go_wp2_with fail
    refine (formed p.k p.b p.s _ HPB.out hps).mono ?_
    rintro e w1 ⟨rfl, hb1⟩
    have HB1 := Lib.hid hb1
    clear hb1
    simp only [HFM.out]
    go_wp2_with fail
    have hb2 : Below w.heap.size w (w1.alloc (Obj.cells #[Value.string s, Value.string f] 63)) := (((Below.refl _ _).alloc (Nat.le_refl _) _).trans (HB1.out.mono (by simp))).alloc (by have := HB1.out.size; simp at this; omega) _
    have hle1 := HB1.out.size
    rw [World.size_alloc] at hle1
    have hp2 : (w1.alloc (Obj.cells #[Value.string s, Value.string f] 63)).heap[w.heap.size]? = some (.cells (ptV p).toArray 33 (0, 0)) := by
      rw [heap_alloc_old _ _ (by omega), HB1.out.block _ (by simp)]
      exact heap_alloc_new w _
    have hk2 : (w1.alloc (Obj.cells #[Value.string s, Value.string f] 63)).heap[w1.heap.size]? = some (.cells #[.string s, .string f] 63 (0, 0)) := heap_alloc_new w1 _
    have hsz2 : (w1.alloc (Obj.cells #[Value.string s, Value.string f] 63)).heap.size = w1.heap.size + 1 := by simp
    generalize w1.alloc (Obj.cells #[Value.string s, Value.string f] 63) = w2 at hb2 hp2 hk2 hsz2 ⊢
    obtain ⟨kb, hkb⟩ : ∃ kb, w1.heap.size = kb := ⟨_, rfl⟩
    obtain ⟨pb, hpb⟩ : ∃ pb, w.heap.size = pb := ⟨_, rfl⟩
    rw [hkb] at hk2 hsz2 hle1 ⊢
    rw [hpb] at hp2 hle1 ⊢
    have HH2 := Lib.hid (HH.out.later hb2)
    have HB2 := Lib.hid hb2
    have hlk2 := (HH2.out.same2 (w' := w2.drew) (fun _ _ _ => rfl)).lookup s f hs hf
    obtain ⟨hrow, hris⟩ := valOf_row HH2.out s f
    have hbl := HH2.out.blk
    rw [HSZ.out] at hbl
    have d0 : w2.cell? ⟨c, 0, none⟩ = some (.int .i64 most) := by simp [World.cell?, hbl]
    have d1 : w2.cell? ⟨c, 1, none⟩ = some (.int .i64 sz) := by simp [World.cell?, hbl]
    have d2 : w2.cell? ⟨c, 2, none⟩ = some (.map (some m)) := by simp [World.cell?, hbl]
    have k0 : w2.cell? ⟨kb, 0, none⟩ = some (.string s) := by simp [World.cell?, hk2]
    have k1 : w2.cell? ⟨kb, 1, none⟩ = some (.string f) := by simp [World.cell?, hk2]
    have p0 : w2.cell? ⟨pb, 0, none⟩ = some (.int .i64 p.t) := by simp [World.cell?, hp2, ptV]
    have p1 : w2.cell? ⟨pb, 1, none⟩ = some (.int .i64 p.k) := by simp [World.cell?, hp2, ptV]
    have p2 : w2.cell? ⟨pb, 2, none⟩ = some (.int .u64 p.b) := by simp [World.cell?, hp2, ptV]
    have p3 : w2.cell? ⟨pb, 3, none⟩ = some (.string p.s) := by simp [World.cell?, hp2, ptV]
    have HP2 := Lib.hid hp2
    have HK2 := Lib.hid hk2
    have HSZ2 := Lib.hid hsz2
    have HKB := Lib.hid hkb
    have HPB' := Lib.hid hpb
    have HLE := Lib.hid hle1
    have HCL := Lib.hid hcl
    obtain ⟨v, hv⟩ : ∃ v, valOf (look L s f) = v := ⟨_, rfl⟩
    obtain ⟨l, hl⟩ : ∃ l, ptsOf (look L s f) = l := ⟨_, rfl⟩
    rw [hv] at hlk2 hrow
    rw [hl] at hrow hris
    have HV := Lib.hid hv
    have HL := Lib.hid hl
    have hgl : ∀ g, v.ownBlock = some g → g < pb ∧ g ≠ c ∧ g ≠ m := fun g hg => by
      have hr0 := (valOf_row HH.out s f).1
      rw [hv] at hr0
      refine ⟨HPB'.out ▸ (hr0.lt g hg).2, fun e => ?_, fun e => ?_⟩
      · obtain ⟨cur, hcur⟩ := row_block hr0 hg
        rw [e, HH.out.blk] at hcur
        simp at hcur
      · obtain ⟨cur, hcur⟩ := row_block hr0 hg
        obtain ⟨es, cl, hm, _⟩ := HH.out.map
        rw [e, hm] at hcur
        cases hcur
    have HGL := Lib.hid hgl
    have HROW := Lib.hid hrow
    have HRIS := Lib.hid hris
    unfold kV at hlk2
    have hln : l.length ≤ 1000000000000 := by rw [← hl]; exact Nat.le_trans (len_le HH.out s f) hn
    have HLN := Lib.hid hln
    have HCN := Lib.hid (Nat.le_trans (count_le HH.out) hn)
    have HNN := Lib.hid hn
    clear hgl hlk c0 c1 c2 hn hln hb2 hp2 hk2 hsz2 hkb hpb hle1 hcl hbl hv hl hrow hris hps
    go_region
    go_wp2_with fail
    refine (place w2.drew 0 v l p.t HROW.out HRIS.out HLN.out).mono ?_
    rintro e w3 ⟨i, fl, rfl, hat, hb3⟩
    obtain ⟨hth, hlo⟩ := at_there HRIS.out hat
    have hil := hat.1
    have hb3' : Below w2.heap.size w2 w3 := ((Below.refl _ _).drew).trans hb3
    have HB3 := Lib.hid hb3'
    have HTH := Lib.hid hth
    have HLO := Lib.hid hlo
    have HAT := Lib.hid hat
    have HIL := Lib.hid hil
    have HB03 := Lib.hid (HB2.out.trans (hb3'.mono HB2.out.size))
    have hrow3 := row_later HROW.out hb3'
    have HROW3 := Lib.hid hrow3
    obtain ⟨ln, hlnn⟩ : ∃ n, l.length = n := ⟨_, rfl⟩
    have HLNN := Lib.hid hlnn
    obtain ⟨va, vc, rfl⟩ : ∃ a c, v = .slice a ln c := by
      rcases hrow3.2 with ⟨h1, h2⟩ | ⟨g, c, cur, h1, _⟩
      · exact ⟨none, 0, by rw [h1, ← hlnn, h2]⟩
      · exact ⟨_, c, by rw [h1, hlnn]⟩
    have HSIZE := Lib.hid hb3'.size
    have hkeep : ∀ (a : Addr) (u : Value), w2.cell? a = some u → w3.cell? a = some u := fun a u h => by
      rw [hb3'.cell (World.block_lt_of_cell? w2 _ h)]; exact h
    replace d0 := hkeep _ _ d0
    replace d1 := hkeep _ _ d1
    replace d2 := hkeep _ _ d2
    replace k0 := hkeep _ _ k0
    replace k1 := hkeep _ _ k1
    replace p0 := hkeep _ _ p0
    replace p1 := hkeep _ _ p1
    replace p2 := hkeep _ _ p2
    replace p3 := hkeep _ _ p3
    have HP3 := Lib.hid ((hb3'.block _ (by rw [HSZ2.out]; have := HLE.out; omega)).trans HP2.out)
    clear hlk2 hat hb3 hb3' hth hlo hil hrow3 hkeep
    clear hlnn
    rcases (show l = [] ∨ ∃ q r, l = q :: r by cases l <;> simp) with hlc | ⟨q, r, hlc⟩
    · have hln0 : ln = 0 := by rw [← HLNN.out, hlc]; rfl
      have HLC := Lib.hid hlc
      clear hlc
      subst hln0
      have hfl : fl = false := by
        have := HAT.out.2.2.2
        rw [HLC.out] at this
        cases fl with
        | false => rfl
        | true => obtain ⟨hi, _⟩ := this.1 rfl; simp at hi
      have HFL := Lib.hid hfl
      subst hfl
      go_wp2_with fail
      go_region
      go_wp2_with fail
      by_cases hfull : sz ≥ most
      · have HFULL := Lib.hid hfull
        go_region
        go_wp2_with fail
        go_ret
        refine put_stays HH.out (HB03.out.drew.drew) 7 ?_ (by decide)
        rw [HL.out, HSZ.out]
        simp [putE, HFM.out, HLC.out, otherK, thereB, loI, hiI, HFULL.out]
      · have HFULL := Lib.hid hfull
        go_region
        go_wp2_with fail
        have hc4 : CacheAt w3.drew.drew S c m L most (total L) := HH2.out.same2 fun k _ hk => HB3.out.block k hk
        have hr4 : w3.drew.drew.ownsRow 0 33 4 (.slice va 0 vc) l.length (ptC l) := ownsRow_same HROW3.out fun _ _ => rfl
        have hp4 : w3.drew.drew.heap[pb]? = some (.cells (ptV p).toArray 33 (0, 0)) := HP3.out
        have hs4 : kb + 1 ≤ w3.drew.drew.heap.size := by have := HSIZE.out; rw [HSZ2.out] at this; exact this
        have hb4 : Below w.heap.size w w3.drew.drew := HB03.out.drew.drew
        replace d0 : w3.drew.drew.cell? ⟨c, 0, none⟩ = some (.int .i64 most) := d0
        replace d1 : w3.drew.drew.cell? ⟨c, 1, none⟩ = some (.int .i64 sz) := d1
        replace d2 : w3.drew.drew.cell? ⟨c, 2, none⟩ = some (.map (some m)) := d2
        replace k0 : w3.drew.drew.cell? ⟨kb, 0, none⟩ = some (.string s) := k0
        replace k1 : w3.drew.drew.cell? ⟨kb, 1, none⟩ = some (.string f) := k1
        replace p0 : w3.drew.drew.cell? ⟨pb, 0, none⟩ = some (.int .i64 p.t) := p0
        replace p1 : w3.drew.drew.cell? ⟨pb, 1, none⟩ = some (.int .i64 p.k) := p1
        replace p2 : w3.drew.drew.cell? ⟨pb, 2, none⟩ = some (.int .u64 p.b) := p2
        replace p3 : w3.drew.drew.cell? ⟨pb, 3, none⟩ = some (.string p.s) := p3
        clear HROW3 HP3 HB03 HB3 HSIZE
        generalize w3.drew.drew = w4 at *
        have HC4 := Lib.hid hc4
        have HR4 := Lib.hid hr4
        have HS4 := Lib.hid hs4
        have HB4 := Lib.hid hb4
        have HG4 := Lib.hid (show ∀ g, (Value.slice va 0 vc).ownBlock = some g → g < w4.heap.size ∧ g ≠ m from fun g hg => ⟨by have h1 := (HGL.out g hg).1; have h2 := HLE.out; omega, (HGL.out g hg).2.2⟩)
        have hml : m < w.heap.size := by obtain ⟨es, cl, hm, _⟩ := HH.out.map; exact heap_lt hm
        have hcm : c ≠ m := fun e => by
          obtain ⟨es, cl, hm, _⟩ := HH.out.map
          have h1 := HH.out.blk
          rw [e, hm] at h1
          cases h1
        have HKc := Lib.hid (show c < w4.heap.size ∧ (Value.slice va 0 vc).ownBlock ≠ some c ∧ c ≠ m from ⟨by have := HCL.out; have := HPB'.out; have := HLE.out; omega, fun e => (HGL.out c e).2.1 rfl, hcm⟩)
        have HKk := Lib.hid (show kb < w4.heap.size ∧ (Value.slice va 0 vc).ownBlock ≠ some kb ∧ kb ≠ m from ⟨by omega, fun e => by have := (HGL.out kb e).1; have := HLE.out; omega, by have := HPB'.out; have := HLE.out; omega⟩)
        have HKp := Lib.hid (show pb < w4.heap.size ∧ (Value.slice va 0 vc).ownBlock ≠ some pb ∧ pb ≠ m from ⟨by have := HLE.out; omega, fun e => by have := (HGL.out pb e).1; omega, by have := HPB'.out; omega⟩)
        clear hc4 hr4 hp4 hs4 hb4 hml hcm
        go_region_held3 (fun w' => w'.cell? ⟨c, 2, none⟩ = some (.map (some m)) ∧ w'.cell? ⟨kb, 0, none⟩ = some (.string s) ∧ w'.cell? ⟨kb, 1, none⟩ = some (.string f) ∧ w'.cell? ⟨pb, 0, none⟩ = some (.int .i64 p.t) ∧ w'.cell? ⟨pb, 1, none⟩ = some (.int .i64 p.k) ∧ w'.cell? ⟨pb, 2, none⟩ = some (.int .u64 p.b) ∧ w'.cell? ⟨pb, 3, none⟩ = some (.string p.s)) (first
          | go_keep
          | (go_split_ands
             refine ⟨?_, ?_, ?_, ?_, ?_, ?_, ?_⟩
             · (rw [World.cell?_of_block (HLD.out.block _ HKc.out.1 HKc.out.2.1 HKc.out.2.2)]; assumption)
             · (rw [World.cell?_of_block (HLD.out.block _ HKk.out.1 HKk.out.2.1 HKk.out.2.2)]; assumption)
             · (rw [World.cell?_of_block (HLD.out.block _ HKk.out.1 HKk.out.2.1 HKk.out.2.2)]; assumption)
             · (rw [World.cell?_of_block (HLD.out.block _ HKp.out.1 HKp.out.2.1 HKp.out.2.2)]; assumption)
             · (rw [World.cell?_of_block (HLD.out.block _ HKp.out.1 HKp.out.2.1 HKp.out.2.2)]; assumption)
             · (rw [World.cell?_of_block (HLD.out.block _ HKp.out.1 HKp.out.2.1 HKp.out.2.2)]; assumption)
             · (rw [World.cell?_of_block (HLD.out.block _ HKp.out.1 HKp.out.2.1 HKp.out.2.2)]; assumption))
          | (go_split_ands
             refine ⟨?_, ?_, ?_, ?_, ?_, ?_, ?_⟩
             · (rw [World.cell?_of_block (HK5.out _ HKc.out.1 HKc.out.2.1)]; assumption)
             · (rw [World.cell?_of_block (HK5.out _ HKk.out.1 HKk.out.2.1)]; assumption)
             · (rw [World.cell?_of_block (HK5.out _ HKk.out.1 HKk.out.2.1)]; assumption)
             · (rw [World.cell?_of_block (HK5.out _ HKp.out.1 HKp.out.2.1)]; assumption)
             · (rw [World.cell?_of_block (HK5.out _ HKp.out.1 HKp.out.2.1)]; assumption)
             · (rw [World.cell?_of_block (HK5.out _ HKp.out.1 HKp.out.2.1)]; assumption)
             · (rw [World.cell?_of_block (HK5.out _ HKp.out.1 HKp.out.2.1)]; assumption)))
          ((go_at_call 24; refine (insert_in w4 S c m L most (total L) s f (.slice va 0 vc) l i p HC4.out HR4.out HG4.out HIL.out HLN.out hs hf HCN.out).mono ?_; rintro e w5 ⟨v', w6, rfl, hrun6, hk5, hld⟩; have HK5 := Lib.hid hk5; have HLD := Lib.hid hld; clear hk5 hld))
        all_goals
          have e1 : w6.cell? ⟨c, 1, none⟩ = some (.int .i64 sz) := by rw [World.cell?_of_block (HLD.out.block _ HKc.out.1 HKc.out.2.1 HKc.out.2.2)]; exact d1
          have ef : w6.frozen? ⟨c, 1, none⟩ = false := by
            have h1 := HC4.out.blk
            rw [← HLD.out.block _ HKc.out.1 HKc.out.2.1 HKc.out.2.2] at h1
            simp [World.frozen?, h1]
          have hsb : 0 ≤ sz ∧ sz ≤ 1000000000000 := by have := HSZ.out; have := HNN.out; omega
          clear d0 d1 d2 k0 k1 p0 p1 p2 p3 hrun6
          go_wp2_with fail
          go_ret
          refine put_new HB4.out HC4.out hs hf HV.out HL.out HLD.out HRIS.out HAT.out ?_ _ (by rw [HSZ.out])
          rw [HSZ.out]
          simp [putE, HFM.out, HLC.out, otherK, thereB, loI, hiI, HFULL.out]
          try (have := HFULL.out; omega)
    · have HLC := Lib.hid hlc
      obtain ⟨g, cur, hva, hgw, hcz, htk⟩ : ∃ g cur, va = some ⟨g, 0, none⟩ ∧ w3.heap[g]? = some (.cells cur 33 (0, 0)) ∧ l.length ≤ vc ∧ cur.toList.take (l.length * 4) = ptC l := by
        rcases HROW3.out.2 with ⟨h1, h2⟩ | ⟨g, cp, cur, h1, _, h2, h3, h4, h5, h6⟩
        · rw [hlc] at h2; simp at h2
        · cases h1
          exact ⟨g, cur, rfl, h2, h3, h6⟩
      subst hva
      have hln1 : ln = r.length + 1 := by rw [← HLNN.out, hlc]; rfl
      have hcells : ∀ k u, (ptC l)[k]? = some u → w3.cell? ⟨g, k, none⟩ = some u := fun k u hk => by
        have hkl : k < l.length * 4 := by
          have := (List.getElem?_eq_some_iff.1 hk).1
          rw [ptC_len] at this
          exact this
        rw [← htk, List.getElem?_take_of_lt hkl] at hk
        simp [World.cell?, hgw]
        simpa using hk
      have q1 : w3.cell? ⟨g, 1, none⟩ = some (.int .i64 q.k) := hcells 1 _ (by rw [hlc]; rfl)
      have HGW := Lib.hid hgw
      have HCZ := Lib.hid hcz
      have HTK := Lib.hid htk
      have HLN1 := Lib.hid hln1
      have hpos : 0 < ln := by omega
      clear hlc hgw hcz htk hcells hln1
      by_cases hkk : q.k = p.k
      · have HOK := Lib.hid (show otherK l p.k = false by rw [HLC.out]; simp [otherK, hkk])
        have hkb : (p.k != p.k) = false := by simp
        rw [hkk] at q1
        clear hkk
        cases fl with
        | true =>
          have hilt : i < ln := by
            obtain ⟨h1, _⟩ := HAT.out.2.2.2.1 rfl
            rw [HLNN.out] at h1
            exact h1
          have hthere : w3.drew.there g (i * 4) 4 := there_row HROW3.out HLNN.out hilt
          have HTR := Lib.hid hthere
          clear hthere
          go_wp2_with fail
          go_region
          go_wp2_with (first
            | (refine wpList_store_mid rfl 33 _ _ rfl g (i * 4) #[.int .i64 p.t, .int .i64 p.k, .int .u64 p.b, .string p.s] rfl rfl HTR.out (by kernel_rfl) (by kernel_rfl) ?_))
          go_ret
          refine put_there HB03.out.drew (HH2.out.same2 fun k _ hk => HB3.out.block k hk) HV.out HL.out (ownsRow_same HROW3.out fun _ _ => rfl) HLNN.out HRIS.out HAT.out ?_
          rw [HSZ.out]
          simp [putE, HFM.out, HOK.out, HTH.out]
        | false =>
          go_wp2_with fail
          go_region
          go_wp2_with fail
          by_cases hfull : sz ≥ most
          · have HFULL := Lib.hid hfull
            go_region
            go_wp2_with fail
            go_ret
            refine put_stays HH.out (HB03.out.drew.drew) 7 ?_ (by decide)
            rw [HL.out, HSZ.out]
            simp [putE, HFM.out, HOK.out, HTH.out, HFULL.out]
          · have HFULL := Lib.hid hfull
            go_region
            go_wp2_with fail
            have hc4 : CacheAt w3.drew.drew S c m L most (total L) := HH2.out.same2 fun k _ hk => HB3.out.block k hk
            have hr4 : w3.drew.drew.ownsRow 0 33 4 (.slice (some ⟨g, 0, none⟩) ln vc) l.length (ptC l) := ownsRow_same HROW3.out fun _ _ => rfl
            have hp4 : w3.drew.drew.heap[pb]? = some (.cells (ptV p).toArray 33 (0, 0)) := HP3.out
            have hs4 : kb + 1 ≤ w3.drew.drew.heap.size := by have := HSIZE.out; rw [HSZ2.out] at this; exact this
            have hb4 : Below w.heap.size w w3.drew.drew := HB03.out.drew.drew
            replace d0 : w3.drew.drew.cell? ⟨c, 0, none⟩ = some (.int .i64 most) := d0
            replace d1 : w3.drew.drew.cell? ⟨c, 1, none⟩ = some (.int .i64 sz) := d1
            replace d2 : w3.drew.drew.cell? ⟨c, 2, none⟩ = some (.map (some m)) := d2
            replace k0 : w3.drew.drew.cell? ⟨kb, 0, none⟩ = some (.string s) := k0
            replace k1 : w3.drew.drew.cell? ⟨kb, 1, none⟩ = some (.string f) := k1
            replace p0 : w3.drew.drew.cell? ⟨pb, 0, none⟩ = some (.int .i64 p.t) := p0
            replace p1 : w3.drew.drew.cell? ⟨pb, 1, none⟩ = some (.int .i64 p.k) := p1
            replace p2 : w3.drew.drew.cell? ⟨pb, 2, none⟩ = some (.int .u64 p.b) := p2
            replace p3 : w3.drew.drew.cell? ⟨pb, 3, none⟩ = some (.string p.s) := p3
            clear HROW3 HP3 HB03 HB3 HSIZE
            generalize w3.drew.drew = w4 at *
            have HC4 := Lib.hid hc4
            have HR4 := Lib.hid hr4
            have HS4 := Lib.hid hs4
            have HB4 := Lib.hid hb4
            have HG4 := Lib.hid (show ∀ g', (Value.slice (some ⟨g, 0, none⟩) ln vc).ownBlock = some g' → g' < w4.heap.size ∧ g' ≠ m from fun g' hg => ⟨by have h1 := (HGL.out g' hg).1; have h2 := HLE.out; omega, (HGL.out g' hg).2.2⟩)
            have hml : m < w.heap.size := by obtain ⟨es, cl, hm, _⟩ := HH.out.map; exact heap_lt hm
            have hcm : c ≠ m := fun e => by
              obtain ⟨es, cl, hm, _⟩ := HH.out.map
              have h1 := HH.out.blk
              rw [e, hm] at h1
              cases h1
            have HKc := Lib.hid (show c < w4.heap.size ∧ (Value.slice (some ⟨g, 0, none⟩) ln vc).ownBlock ≠ some c ∧ c ≠ m from ⟨by have := HCL.out; have := HPB'.out; have := HLE.out; omega, fun e => (HGL.out c e).2.1 rfl, hcm⟩)
            have HKk := Lib.hid (show kb < w4.heap.size ∧ (Value.slice (some ⟨g, 0, none⟩) ln vc).ownBlock ≠ some kb ∧ kb ≠ m from ⟨by omega, fun e => by have := (HGL.out kb e).1; have := HLE.out; omega, by have := HPB'.out; have := HLE.out; omega⟩)
            have HKp := Lib.hid (show pb < w4.heap.size ∧ (Value.slice (some ⟨g, 0, none⟩) ln vc).ownBlock ≠ some pb ∧ pb ≠ m from ⟨by have := HLE.out; omega, fun e => by have := (HGL.out pb e).1; omega, by have := HPB'.out; omega⟩)
            clear hc4 hr4 hp4 hs4 hb4 hml hcm
            go_region_held3 (fun w' => w'.cell? ⟨c, 2, none⟩ = some (.map (some m)) ∧ w'.cell? ⟨kb, 0, none⟩ = some (.string s) ∧ w'.cell? ⟨kb, 1, none⟩ = some (.string f) ∧ w'.cell? ⟨pb, 0, none⟩ = some (.int .i64 p.t) ∧ w'.cell? ⟨pb, 1, none⟩ = some (.int .i64 p.k) ∧ w'.cell? ⟨pb, 2, none⟩ = some (.int .u64 p.b) ∧ w'.cell? ⟨pb, 3, none⟩ = some (.string p.s)) (first
              | go_keep
              | (go_split_ands
                 refine ⟨?_, ?_, ?_, ?_, ?_, ?_, ?_⟩
                 · (rw [World.cell?_of_block (HLD.out.block _ HKc.out.1 HKc.out.2.1 HKc.out.2.2)]; assumption)
                 · (rw [World.cell?_of_block (HLD.out.block _ HKk.out.1 HKk.out.2.1 HKk.out.2.2)]; assumption)
                 · (rw [World.cell?_of_block (HLD.out.block _ HKk.out.1 HKk.out.2.1 HKk.out.2.2)]; assumption)
                 · (rw [World.cell?_of_block (HLD.out.block _ HKp.out.1 HKp.out.2.1 HKp.out.2.2)]; assumption)
                 · (rw [World.cell?_of_block (HLD.out.block _ HKp.out.1 HKp.out.2.1 HKp.out.2.2)]; assumption)
                 · (rw [World.cell?_of_block (HLD.out.block _ HKp.out.1 HKp.out.2.1 HKp.out.2.2)]; assumption)
                 · (rw [World.cell?_of_block (HLD.out.block _ HKp.out.1 HKp.out.2.1 HKp.out.2.2)]; assumption))
              | (go_split_ands
                 refine ⟨?_, ?_, ?_, ?_, ?_, ?_, ?_⟩
                 · (rw [World.cell?_of_block (HK5.out _ HKc.out.1 HKc.out.2.1)]; assumption)
                 · (rw [World.cell?_of_block (HK5.out _ HKk.out.1 HKk.out.2.1)]; assumption)
                 · (rw [World.cell?_of_block (HK5.out _ HKk.out.1 HKk.out.2.1)]; assumption)
                 · (rw [World.cell?_of_block (HK5.out _ HKp.out.1 HKp.out.2.1)]; assumption)
                 · (rw [World.cell?_of_block (HK5.out _ HKp.out.1 HKp.out.2.1)]; assumption)
                 · (rw [World.cell?_of_block (HK5.out _ HKp.out.1 HKp.out.2.1)]; assumption)
                 · (rw [World.cell?_of_block (HK5.out _ HKp.out.1 HKp.out.2.1)]; assumption)))
              ((go_at_call 24; refine (insert_in w4 S c m L most (total L) s f (.slice (some ⟨g, 0, none⟩) ln vc) l i p HC4.out HR4.out HG4.out HIL.out HLN.out hs hf HCN.out).mono ?_; rintro e w5 ⟨v', w6, rfl, hrun6, hk5, hld⟩; have HK5 := Lib.hid hk5; have HLD := Lib.hid hld; clear hk5 hld))
            all_goals
              have e1 : w6.cell? ⟨c, 1, none⟩ = some (.int .i64 sz) := by rw [World.cell?_of_block (HLD.out.block _ HKc.out.1 HKc.out.2.1 HKc.out.2.2)]; exact d1
              have ef : w6.frozen? ⟨c, 1, none⟩ = false := by
                have h1 := HC4.out.blk
                rw [← HLD.out.block _ HKc.out.1 HKc.out.2.1 HKc.out.2.2] at h1
                simp [World.frozen?, h1]
              have hsb : 0 ≤ sz ∧ sz ≤ 1000000000000 := by have := HSZ.out; have := HNN.out; omega
              clear d0 d1 d2 k0 k1 p0 p1 p2 p3 hrun6
              go_wp2_with fail
              go_ret
              refine put_new HB4.out HC4.out hs hf HV.out HL.out HLD.out HRIS.out HAT.out ?_ _ (by rw [HSZ.out])
              rw [HSZ.out]
              simp [putE, HFM.out, HOK.out, HTH.out, HFULL.out]
              try (have := HFULL.out; omega)
      · have HOK := Lib.hid (show otherK l p.k = true by rw [HLC.out]; simp [otherK, hkk])
        have hkb : (q.k != p.k) = true := by simp [hkk]
        clear hkk
        go_wp2_with fail
        go_region
        go_wp2_with fail
        go_ret
        refine put_stays HH.out (HB03.out.drew) 5 ?_ (by decide)
        rw [HL.out, HSZ.out]
        simp [putE, HFM.out, HOK.out]
end Go.Proofs.Ytfhdaihladgchaa
