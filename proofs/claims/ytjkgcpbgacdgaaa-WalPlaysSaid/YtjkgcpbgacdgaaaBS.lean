/- The document's log: where it lies, and what its methods answer. Conditions: sizes. -/
import Derived.Test.YtjkgcpbgacdgaaaBR
namespace Go.Proofs.Ytjkgcpbgacdgaaa
open Go.RowKit
def docO (first : Int) (v : Value) (over : Bool) : Obj := .cells #[.int .i64 first, v, .bool over] 64 (0, 0)
structure DocAt (w : World) (U : Nat → Prop) (p : Nat) (first : Int) (v : Value) (X : List (Value × List Value)) (over : Bool) : Prop where
  blk : w.heap[p]? = some (docO first v over)
  list : ListAt w v X
  one : ∀ x ∈ X, ∀ u ∈ x.2, u.oneCell' = true
  cap : ∀ a n c, v = .slice a n c → n ≤ c
  here : U p
  mine : ∀ g, (v.ownBlock = some g ∨ ∃ x ∈ X, x.1.ownBlock = some g) → U g ∧ g < w.heap.size
theorem doc_cells {w : World} {p : Nat} {first : Int} {v : Value} {over : Bool} (h : w.heap[p]? = some (docO first v over)) : w.cell? ⟨p, 0, none⟩ = some (.int .i64 first) ∧ w.cell? ⟨p, 1, none⟩ = some v ∧ w.cell? ⟨p, 2, none⟩ = some (.bool over) := by
  unfold docO at h
  exact ⟨by simp [World.cell?, h], by simp [World.cell?, h], by simp [World.cell?, h]⟩
theorem ListAt.same {w w' : World} {v : Value} {X : List (Value × List Value)} (h : ListAt w v X) (hk : ∀ g, (v.ownBlock = some g ∨ ∃ x ∈ X, x.1.ownBlock = some g) → w'.heap[g]? = w.heap[g]?) : ListAt w' v X := by
  refine ⟨?_, fun x hx => (h.2 x hx).same fun g hg => hk g (.inr ⟨x, hx, hg⟩)⟩
  rcases h.1 with h1 | ⟨lb, off, c, rfl, hc⟩
  · exact .inl h1
  · refine .inr ⟨lb, off, c, rfl, fun k x hx => ?_⟩
    exact (World.cell?_of_block (hk lb (.inl rfl))).trans (hc k x hx)
theorem DocAt.same {w w' : World} {U U' : Nat → Prop} {p : Nat} {first : Int} {v : Value} {X : List (Value × List Value)} {over : Bool} (h : DocAt w U p first v X over) (hs : w.heap.size ≤ w'.heap.size) (hk : ∀ k, U k → k < w.heap.size → w'.heap[k]? = w.heap[k]?) (hU : ∀ k, U k → U' k) : DocAt w' U' p first v X over :=
  ⟨(hk p h.here (blk_lt h.blk)).trans h.blk, h.list.same fun g hg => hk g (h.mine g hg).1 (h.mine g hg).2, h.one, h.cap, hU p h.here, fun g hg => ⟨hU g (h.mine g hg).1, Nat.lt_of_lt_of_le (h.mine g hg).2 hs⟩⟩
theorem next67 (w : World) (U : Nat → Prop) (p : Nat) (first : Int) (v : Value) (X : List (Value × List Value)) (over : Bool) (h : DocAt w U p first v X over) (hn : -(2 ^ 62) ≤ first ∧ first ≤ 2 ^ 62) (hX : X.length ≤ 1000000000000) :
    Calls Try.prog 67 #[.pointer (some ⟨p, 0, none⟩)] w fun e w' => e = .returned (.int .i64 (first + X.length)) ∧ ∃ q, w' = w.drewN q := by
  obtain ⟨c0, c1, c2⟩ := doc_cells h.blk
  obtain ⟨a, c, rfl⟩ := h.list.form
  clear h
  go_enter Try.func67, Try.ntmps67
  go_wp2_with fail
  go_quiet (fail)
  go_wp2_with fail
  go_ret
  exact ⟨rfl, _, rfl⟩
def checkE (over : Bool) (n : Nat) : Int := if over = true then 8 else if n < 1 ∨ 1048576 < n then 1 else 0
theorem check63 (w : World) (U : Nat → Prop) (p : Nat) (first : Int) (v : Value) (X : List (Value × List Value)) (over : Bool) (a : Option Addr) (n c : Nat) (h : DocAt w U p first v X over) :
    Calls Try.prog 63 #[.pointer (some ⟨p, 0, none⟩), .slice a n c] w fun e w' => e = .returned (.int .i64 (checkE over n)) ∧ w = w' := by
  obtain ⟨c0, c1, c2⟩ := doc_cells h.blk
  clear h
  go_enter Try.func63, Try.ntmps63
  cases over with
  | true =>
    go_wp2_with fail
    go_ret
    exact ⟨rfl, rfl⟩
  | false =>
    by_cases h1 : n < 1
    · have h1' : decide ((n : Int) < 1) = true := decide_eq_true (by omega)
      go_wp2_with fail
      go_ret
      exact ⟨by simp [checkE, h1], rfl⟩
    · have h1' : decide ((n : Int) < 1) = false := decide_eq_false (by omega)
      by_cases h2 : 1048576 < n
      · have h2' : decide ((1048576 : Int) < n) = true := decide_eq_true (by omega)
        go_wp2_with fail
        go_ret
        exact ⟨by simp [checkE, h2], rfl⟩
      · have h2' : decide ((1048576 : Int) < n) = false := decide_eq_false (by omega)
        go_wp2_with fail
        go_ret
        exact ⟨by simp [checkE, h1, h2], rfl⟩
def fitsE (over : Bool) (first : Int) (m : Nat) (n : Int) : Int := if over = true then 8 else if n < first ∨ first + m < n then 3 else 0
theorem fits65 (w : World) (U : Nat → Prop) (p : Nat) (first : Int) (v : Value) (X : List (Value × List Value)) (over : Bool) (n : Int) (h : DocAt w U p first v X over) (hn : -(2 ^ 62) ≤ first ∧ first ≤ 2 ^ 62) (hX : X.length ≤ 1000000000000) :
    Calls Try.prog 65 #[.pointer (some ⟨p, 0, none⟩), .int .i64 n] w fun e w' => e = .returned (.int .i64 (fitsE over first X.length n)) ∧ ∃ q, w' = w.drewN q := by
  obtain ⟨c0, c1, c2⟩ := doc_cells h.blk
  have HH := Lib.hid h
  obtain ⟨M, hM⟩ : ∃ M, X.length = M := ⟨_, rfl⟩
  have HM := Lib.hid hM
  clear h hM
  go_enter Try.func65, Try.ntmps65
  cases over with
  | true =>
    go_wp2_with fail
    go_ret
    exact ⟨rfl, 0, rfl⟩
  | false =>
    by_cases h1 : n < first
    · have h1' : decide (n < first) = true := decide_eq_true h1
      go_wp2_with fail
      go_ret
      exact ⟨by simp [fitsE, h1], 0, rfl⟩
    · have h1' : decide (n < first) = false := decide_eq_false h1
      by_cases h2 : first + M < n
      · have h2' : decide (first + (M : Int) < n) = true := decide_eq_true h2
        go_wp2_with fail
        refine (next67 w U p first v X false HH.out hn hX).mono ?_
        rw [HM.out]
        rintro e w1 ⟨rfl, q, rfl⟩
        go_wp2_with fail
        go_ret
        exact ⟨by have := HM.out; unfold fitsE; rw [if_neg (by decide), if_pos (by omega)]; rfl, q, rfl⟩
      · have h2' : decide (first + (M : Int) < n) = false := decide_eq_false h2
        go_wp2_with fail
        refine (next67 w U p first v X false HH.out hn hX).mono ?_
        rw [HM.out]
        rintro e w1 ⟨rfl, q, rfl⟩
        go_wp2_with fail
        go_ret
        exact ⟨by have := HM.out; unfold fitsE; rw [if_neg (by decide), if_neg (by omega)]; rfl, q, rfl⟩
theorem row_listAt {w : World} {base : Nat} {v : Value} {X : List (Value × List Value)} (h : w.ownsRow base 23 1 v X.length (X.map Prod.fst)) (hx : ∀ x ∈ X, SrcN w 1 x.1 x.2.length x.2) : ListAt w v X ∧ ∀ a n c, v = .slice a n c → n ≤ c := by
  rcases h.2 with ⟨rfl, h0⟩ | ⟨g, c, cur, rfl, hb, hg, hnc, _⟩
  · have hX : X = [] := List.eq_nil_of_length_eq_zero h0
    subst hX
    exact ⟨⟨.inl ⟨rfl, rfl⟩, hx⟩, fun a n c e => by cases e; exact Nat.le_refl _⟩
  · refine ⟨⟨.inr ⟨g, 0, c, rfl, fun k x hk => ?_⟩, hx⟩, fun a n c e => by cases e; exact hnc⟩
    have hkl := (List.getElem?_eq_some_iff.1 hk).1
    have h2 := h.cellAt k (by omega)
    rw [Nat.zero_add, h2, List.getElem?_map, hk]
    rfl
theorem ListAt.drop {w : World} {a : Option Addr} {c : Nat} {X : List (Value × List Value)} (h : ListAt w (.slice a X.length c) X) (hc : X.length ≤ c) (k : Nat) (hk : k ≤ X.length) :
    ListAt w (.slice (if c = k then a else a.map (·.add (k * 1))) (X.length - k) (c - k)) (X.drop k) := by
  refine ⟨?_, fun x hx => h.2 x (List.mem_of_mem_drop hx)⟩
  rcases h.1 with ⟨h1, rfl⟩ | ⟨lb, off, c', h1, hcell⟩
  · cases h1
    have : k = 0 := by simpa using hk
    subst this
    exact .inl ⟨by simp, by simp⟩
  · cases h1
    by_cases hck : c = k
    · rw [if_pos hck]
      refine .inr ⟨lb, off, c - k, by rw [List.length_drop], fun j x hj => ?_⟩
      have := (List.getElem?_eq_some_iff.1 hj).1
      rw [List.length_drop] at this
      omega
    · rw [if_neg hck]
      refine .inr ⟨lb, off + k, c - k, ?_, fun j x hj => ?_⟩
      · rw [List.length_drop]
        unfold Addr.add
        by_cases h0 : k = 0 <;> simp [h0]
      · rw [List.getElem?_drop] at hj
        rw [Nat.add_assoc]
        exact hcell (k + j) x hj
theorem get69 (w : World) (U : Nat → Prop) (p : Nat) (first : Int) (v : Value) (X : List (Value × List Value)) (over : Bool) (n : Int) (h : DocAt w U p first v X over) (hn : -(2 ^ 62) ≤ first ∧ first ≤ 2 ^ 62) (hX : X.length ≤ 1000000000000) :
    Calls Try.prog 69 #[.pointer (some ⟨p, 0, none⟩), .int .i64 n] w fun e w' => (∃ q, w' = w.drewN q) ∧ ((n < first ∨ first + X.length ≤ n) ∧ e = .returned (.tuple #[.slice none 0 0, .int .i64 3]) ∨ ∃ (k : Nat) (x : Value × List Value), n = first + k ∧ X[k]? = some x ∧ e = .returned (.tuple #[x.1, .int .i64 0])) := by
  obtain ⟨c0, c1, c2⟩ := doc_cells h.blk
  obtain ⟨a, c, rfl⟩ := h.list.form
  have HH := Lib.hid h
  obtain ⟨M, hM⟩ : ∃ M, X.length = M := ⟨_, rfl⟩
  rw [hM] at c1
  have HM := Lib.hid hM
  clear h hM
  by_cases h1 : n < first
  · have h1' : decide (n < first) = true := decide_eq_true h1
    go_enter Try.func69, Try.ntmps69
    go_wp2_with fail
    go_ret2
    exact ⟨⟨0, rfl⟩, .inl ⟨.inl h1, rfl⟩⟩
  · have h1' : decide (n < first) = false := decide_eq_false h1
    by_cases h2 : first + M ≤ n
    · have h2' : decide (first + (M : Int) ≤ n) = true := decide_eq_true h2
      go_enter Try.func69, Try.ntmps69
      go_wp2_with fail
      refine (next67 w U p first _ X over HH.out hn hX).mono ?_
      rw [HM.out]
      rintro e w1 ⟨rfl, q, rfl⟩
      go_wp2_with fail
      go_ret2
      exact ⟨⟨q, rfl⟩, .inl ⟨.inr (by rw [HM.out]; exact h2), rfl⟩⟩
    · obtain ⟨k, rfl⟩ : ∃ k : Nat, n = first + k := ⟨(n - first).toNat, by omega⟩
      have h2' : decide (first + (M : Int) ≤ first + (k : Int)) = false := decide_eq_false h2
      have hkM : k < M := by omega
      obtain ⟨x, hx⟩ : ∃ x, X[k]? = some x := ⟨_, List.getElem?_eq_getElem (by rw [HM.out]; exact hkM)⟩
      obtain ⟨lb, off, rfl, hcl⟩ := HH.out.list.cell hx
      have hk9 : first + (k : Int) - first = (k : Int) := by omega
      have hcx := hcl w (Below.refl _ _)
      have hkM' : (k : Int) < (M : Int) := by omega
      have hwk : IntKind.i64.wrap (k : Int) = k := by have := HM.out; simp only [IntKind.wrap, IntKind.bits, IntKind.signed]; simp; omega
      have HX := Lib.hid hx
      clear hcl hx
      go_enter Try.func69, Try.ntmps69
      go_wp2_with fail
      refine (next67 w U p first _ X over HH.out hn hX).mono ?_
      rw [HM.out]
      rintro e w1 ⟨rfl, q, rfl⟩
      go_wp2_with fail
      go_quiet (fail)
      go_wp2_with fail
      go_ret2
      exact ⟨⟨_, World.drewN_drewN _ _ _⟩, .inr ⟨k, x, rfl, HX.out, rfl⟩⟩
theorem box64 (w : World) (n : Int) (v : Value) (o : Bool) : (w.alloc (docO n v o)).heap[w.heap.size]? = some (docO n v o) := heap_alloc_new w _
set_option maxRecDepth 100000 in
theorem trimmed66 (w : World) (U : Nat → Prop) (p : Nat) (first : Int) (v : Value) (X : List (Value × List Value)) (over : Bool) (k : Nat) (h : DocAt w U p first v X over) (hk : k ≤ X.length) (hX : X.length ≤ 1000000000000) :
    Calls Try.prog 66 #[.pointer (some ⟨p, 0, none⟩), .int .i64 (first + k)] w fun e w' => ∃ p' v', e = .returned (.pointer (some ⟨p', 0, none⟩)) ∧ DocAt w' (With U w w') p' (first + k) v' (X.drop k) false ∧ Below w.heap.size w w' := by
  obtain ⟨c0, c1, c2⟩ := doc_cells h.blk
  obtain ⟨a, c, rfl⟩ := h.list.form
  have HH := Lib.hid h
  obtain ⟨M, hM⟩ : ∃ M, X.length = M := ⟨_, rfl⟩
  have hsl := fun w => slice33_from a X.length c k k rfl hk w
  rw [hM] at c1 hsl
  have HM := Lib.hid hM
  have hk9 : first + (k : Int) - first = (k : Int) := by omega
  have hwk : IntKind.i64.wrap (k : Int) = k := by simp only [IntKind.wrap, IntKind.bits, IntKind.signed]; simp; omega
  have HK := Lib.hid hk
  obtain ⟨a', ha'⟩ : ∃ a', (if c = k then a else a.map (·.add (k * 1))) = a' := ⟨_, rfl⟩
  have hld := h.list.drop (h.cap _ _ _ rfl) k hk
  rw [ha'] at hsl hld
  rw [hM] at hld
  have HLD := Lib.hid hld
  have HA := Lib.hid (show ∀ g, (Value.slice a' (M - k) (c - k)).ownBlock = some g → (Value.slice a X.length c).ownBlock = some g from fun g hg => by
    rw [← ha'] at hg
    by_cases hc : c = k
    · rw [if_pos hc] at hg
      cases a with
      | none => simp [Value.ownBlock] at hg
      | some ad => simpa [Value.ownBlock] using hg
    · rw [if_neg hc] at hg
      cases a with
      | none => simp [Value.ownBlock] at hg
      | some ad => simpa [Value.ownBlock, add_block] using hg)
  have HCC := Lib.hid (h.cap _ _ _ rfl)
  clear h hM hk ha' hld
  go_enter Try.func66, Try.ntmps66
  go_wp2_with fail
  go_region
  all_goals
    go_wp2_with fail
    go_ret
    have hbl : Below w.heap.size w (w.drew.alloc (docO (first + k) (.slice a' (M - k) (c - k)) false)) := ((Below.refl _ _).drew).alloc (Nat.le_refl _) _
    refine ⟨w.heap.size, .slice a' (M - k) (c - k), rfl, ⟨heap_alloc_new w.drew _, HLD.out.same fun g hg => ?_, fun x hx => HH.out.one x (List.mem_of_mem_drop hx), fun a2 n2 c2 e => ?_, .inr ⟨Nat.le_refl _, ?_⟩, fun g hg => ?_⟩, hbl⟩
    · refine hbl.block g (HH.out.mine g ?_).2
      rcases hg with hg | ⟨x, hx, hg⟩
      · exact .inl (HA.out g hg)
      · exact .inr ⟨x, List.mem_of_mem_drop hx, hg⟩
    · cases e
      have := HCC.out
      rw [HM.out] at this
      omega
    · exact blk_lt (heap_alloc_new w.drew _)
    · have h1 := HH.out.mine g (by
        rcases hg with hg | ⟨x, hx, hg⟩
        · exact .inl (HA.out g hg)
        · exact .inr ⟨x, List.mem_of_mem_drop hx, hg⟩)
      exact ⟨.inl h1.1, Nat.lt_of_lt_of_le h1.2 hbl.size⟩
end Go.Proofs.Ytjkgcpbgacdgaaa
/- The document's log, with one entry more. Conditions: sizes. -/
namespace Go.Proofs.Ytjkgcpbgacdgaaa
open Go.RowKit
theorem row_empty (w : World) (t : TypeId) : (w.alloc (.cells #[] t)).ownsRow w.heap.size t 1 (.slice (some ⟨w.heap.size, 0, none⟩) 0 0) 0 [] := ⟨rfl, .inr ⟨_, 0, #[], rfl, Nat.le_refl _, heap_alloc_new w _, Nat.le_refl _, Nat.zero_le _, rfl, rfl⟩⟩
theorem doc_pushed {w w2 w3 w4 : World} {U : Nat → Prop} {p M nb : Nat} {first : Int} {v v2 v4 cv : Value} {X : List (Value × List Value)} {over : Bool} {b : List Value} (h : DocAt w U p first v X over) (hM : X.length = M) (hnb : b.length = nb) (hb1 : ∀ u ∈ b, u.oneCell' = true) (hb2 : Below w.heap.size w w2) (hr2 : w2.ownsRow w.heap.size 23 1 v2 M (X.map Prod.fst)) (hb3 : Below w2.heap.size w2 w3) (hr3 : w3.ownsRow w2.heap.size 5 1 cv nb b)
    (hg4 : (w3.alloc (.cells #[cv] 23)).grownBy w4 v2.ownBlock) (hr4 : w4.ownsRow w.heap.size 23 1 v4 (M + 1) (X.map Prod.fst ++ [cv])) :
    DocAt (w4.alloc (docO first v4 false)) (With U w (w4.alloc (docO first v4 false))) w4.heap.size first v4 (X ++ [(cv, b)]) false ∧ Below w.heap.size w (w4.alloc (docO first v4 false)) := by
  have s2 := hb2.size
  have s3 := hb3.size
  have s4 := hg4.size
  rw [World.size_alloc] at s4
  have sf : (w4.alloc (docO first v4 false)).heap.size = w4.heap.size + 1 := by simp
  have hbl : Below w.heap.size w (w4.alloc (docO first v4 false)) := (((hb2.trans (hb3.mono s2)).alloc (by omega) _).grown hg4 (by rw [World.size_alloc]; omega) (fun j hj => (hr2.lt j hj).1)).alloc (by omega) _
  have hcv : ∀ g, cv.ownBlock = some g → w2.heap.size ≤ g ∧ g < w3.heap.size := fun g hg => hr3.lt g hg
  have hent : ∀ x ∈ X ++ [(cv, b)], SrcN (w4.alloc (docO first v4 false)) 1 x.1 x.2.length x.2 ∧ ∀ u ∈ x.2, u.oneCell' = true := by
    intro x hx
    rcases List.mem_append.1 hx with hx | hx
    · exact ⟨(h.list.2 x hx).later hbl, h.one x hx⟩
    · have hx' := List.mem_singleton.1 hx
      subst hx'
      refine ⟨?_, hb1⟩
      have h1 := row_srcN hr3 hb1
      show SrcN _ 1 cv b.length b
      rw [hnb]
      refine h1.same fun g hg => ?_
      have h2 := hcv g hg
      rw [heap_alloc_old w4 _ (by omega), hg4.block g (by rw [World.size_alloc]; omega) (fun e => by have := (hr2.lt g e.symm).2; omega), heap_alloc_old w3 _ h2.2]
  have hr5 : (w4.alloc (docO first v4 false)).ownsRow w.heap.size 23 1 v4 (X ++ [(cv, b)]).length ((X ++ [(cv, b)]).map Prod.fst) := by
    rw [List.length_append, List.map_append, hM]
    exact hr4.alloc _
  obtain ⟨hl, hc⟩ := row_listAt hr5 fun x hx => (hent x hx).1
  refine ⟨⟨heap_alloc_new w4 _, hl, fun x hx => (hent x hx).2, hc, .inr ⟨by omega, by omega⟩, fun g hg => ?_⟩, hbl⟩
  rcases hg with hg | ⟨x, hx, hg⟩
  · have h1 := hr4.lt g hg
    exact ⟨.inr ⟨h1.1, by omega⟩, by omega⟩
  · rcases List.mem_append.1 hx with hx | hx
    · have h1 := h.mine g (.inr ⟨x, hx, hg⟩)
      exact ⟨.inl h1.1, by omega⟩
    · have hx' := List.mem_singleton.1 hx
      subst hx'
      have h1 := hcv g hg
      exact ⟨.inr ⟨by omega, by omega⟩, by omega⟩
set_option maxHeartbeats 4000000 in
set_option maxRecDepth 100000 in
theorem appended64 (w : World) (U : Nat → Prop) (p : Nat) (first : Int) (v : Value) (X : List (Value × List Value)) (over : Bool) (bv : Value) (b : List Value) (h : DocAt w U p first v X over) (hX : X.length ≤ 1000000000000) (hb : SrcN w 1 bv b.length b) (hb1 : ∀ u ∈ b, u.oneCell' = true) (hbn : b.length ≤ 140737488355328) :
    Calls Try.prog 64 #[.pointer (some ⟨p, 0, none⟩), bv] w fun e w' => ∃ p' v' cv, e = .returned (.pointer (some ⟨p', 0, none⟩)) ∧ DocAt w' (With U w w') p' first v' (X ++ [(cv, b)]) false ∧ Below w.heap.size w w' := by
  obtain ⟨i0, hi, hz0, hz1, hz2⟩ := zparts23
  have HI := Lib.hid hi
  have HZ0 := Lib.hid hz0
  have HZ1 := Lib.hid hz1
  have HZ2 := Lib.hid hz2
  obtain ⟨i5, hi5, hy0, hy1, hy2⟩ := zpartsB
  have HI5 := Lib.hid hi5
  have HY0 := Lib.hid hy0
  have HY1 := Lib.hid hy1
  have HY2 := Lib.hid hy2
  obtain ⟨c0, c1, c2⟩ := doc_cells h.blk
  obtain ⟨a, c, rfl⟩ := h.list.form
  obtain ⟨ba, bc, rfl⟩ := hb.form
  have HH := Lib.hid h
  have HBS := Lib.hid hb
  have HB1 := Lib.hid hb1
  have hpl : p < w.heap.size := blk_lt h.blk
  obtain ⟨M, hM⟩ : ∃ M, X.length = M := ⟨_, rfl⟩
  obtain ⟨nb, hnb⟩ : ∃ n, b.length = n := ⟨_, rfl⟩
  have HROW := Lib.hid (row_empty w 23)
  have HBA := Lib.hid ((Below.refl w.heap.size w).alloc (Nat.le_refl _) (.cells #[] 23))
  have HLS := Lib.hid ((list_src h.list).later HBA.out)
  rw [hM] at c1 HLS hX
  rw [hnb] at HBS hbn
  rw [hnb]
  have HM := Lib.hid hM
  have HNB := Lib.hid hnb
  clear h hi hz0 hz1 hz2 hi5 hy0 hy1 hy2 hb hb1 hM hnb
  go_enter Try.func64, Try.ntmps64
  go_wp2_with (at_builtin; go_must (refine wpList_append_srcN rfl _ _ 33 rfl w.heap.size 23 i0 (.slice none 0 0) 1 24 Try.underlying33 HI.out HZ0.out HZ1.out HZ2.out rfl (by omega) _ 0 _ rfl HROW.out _ M _ rfl HLS.out (by unfold maxLen; omega) (by omega) HBA.out.size ?_); intro v2 w2 hr2 hg2 hat2; have HR2 := Lib.hid hr2; have HG2 := Lib.hid hg2; have HAT2 := Lib.hid hat2; clear hr2 hg2 hat2)
  have hb2 := HBA.out.grown HG2.out HBA.out.size (fun b hb => (HROW.out.lt b hb).1)
  have hr2 := HR2.out
  rw [Nat.zero_add, List.nil_append] at hr2
  obtain ⟨a2, c2', rfl⟩ := row_form hr2
  have HRR2 := Lib.hid hr2
  have HB2 := Lib.hid hb2
  have hpl2 : p < w2.heap.size := Nat.lt_of_lt_of_le hpl hb2.size
  have d0 : w2.cell? ⟨p, 0, none⟩ = some (.int .i64 first) := (hb2.cell (p := ⟨p, 0, none⟩) hpl).trans c0
  have HBX := Lib.hid (((Below.refl w2.heap.size w2).drew).alloc (Nat.le_refl w2.heap.size) (.cells #[] 5))
  have HROWX := Lib.hid (row_empty w2.drew 5)
  have HSX := Lib.hid ((HBS.out.later HB2.out).later HBX.out)
  clear c0 c1 c2 hb2 hr2
  go_wp2_with fail
  go_region_law (first | (refine step_append_srcN rfl _ _ 23 rfl w2.heap.size 5 i5 (.int .u8 0) 1 1 Try.underlying23 HI5.out HY0.out HY1.out HY2.out rfl (by omega) _ 0 _ rfl HROWX.out _ nb _ rfl HSX.out (by unfold maxLen; omega) (by omega) HBX.out.size ?_; intro a3 c3 w3 hr3 hg3 hat3; have HR3 := Lib.hid hr3; have HB3 := Lib.hid (HBX.out.grown hg3 HBX.out.size (fun b hb => (HROWX.out.lt b hb).1)); have HA3 := Lib.hid ((Below.refl w3.heap.size w3).alloc (Nat.le_refl _) (.cells #[.slice a3 nb c3] 23)); have HSRC3 := Lib.hid (SrcN.of_block (size := 1) (m := 1) (heap_alloc_new w3 (.cells #[.slice a3 nb c3] 23)) rfl (by simp [Value.oneCell']) 1); have HROW3 := Lib.hid (row_later (row_later HRR2.out HB3.out) HA3.out); have hpl3 : p < w3.heap.size := Nat.lt_of_lt_of_le hpl2 HB3.out.size; have d3 : w3.cell? ⟨p, 0, none⟩ = some (.int .i64 first) := (HB3.out.cell (p := ⟨p, 0, none⟩) hpl2).trans d0; clear hr3 hg3 hat3) | (refine step_append_srcN rfl _ _ 33 rfl w.heap.size 23 i0 (.slice none 0 0) 1 24 Try.underlying33 HI.out HZ0.out HZ1.out HZ2.out rfl (by omega) _ M _ rfl HROW3.out _ 1 _ rfl HSRC3.out (by unfold maxLen; omega) (by omega) (Nat.le_trans HB2.out.size (Nat.le_trans HB3.out.size HA3.out.size)) ?_; intro a4 c4 w4 hr4 hg4 hat4; have HR4 := Lib.hid hr4; have HG4 := Lib.hid hg4; have HAT4 := Lib.hid hat4; have d4 : w4.cell? ⟨p, 0, none⟩ = some (.int .i64 first) := (World.cell?_of_block (hg4.block p (Nat.lt_of_lt_of_le hpl3 HA3.out.size) (fun e => by have := (HRR2.out.lt p e.symm).1; omega))).trans ((HA3.out.cell (p := ⟨p, 0, none⟩) hpl3).trans d3); clear hr4 hg4 hat4))
  all_goals
    go_wp2_with fail
    go_ret
    have hr3 := HR3.out
    rw [Nat.zero_add, List.nil_append] at hr3
    obtain ⟨k1, k2⟩ := doc_pushed HH.out HM.out HNB.out HB1.out HB2.out HRR2.out HB3.out hr3 HG4.out HR4.out
    exact ⟨_, rfl, ⟨_, _, k1⟩, k2⟩
end Go.Proofs.Ytjkgcpbgacdgaaa
