/- Several texts of this proof, laid together. Conditions: as each says. -/
import Derived.Test.YtagiddbfhlokcaaGreatDoorTBE
import Derived.Test.YtagiddbfhlokcaaGreatDoorTAY
/- The reference's way to put rows in order: plain law, and a row's cells turned. No condition. -/
namespace Go.Proofs.YtagiddbfhlokcaaGreatDoor.Ser
open Go.RowKit Go.Sort
set_option maxRecDepth 100000
section
variable {α : Type} {key : α → List UInt8}
/-- The state of an insertion: x moves left through A; C, behind it, is above it. -/
structure Ins (key : α → List UInt8) (L : List α) (i : Nat) (A : List α) (x : α) (C D : List α) : Prop where
  pm : (A ++ x :: (C ++ D)).Perm L
  len : A.length + C.length = i
  wk : Weak key (A ++ C)
  up : ∀ c ∈ C, key x < key c
theorem Ins.start {L ts : List α} {i : Nat} (hp : ts.Perm L) (hi : i < ts.length) (hw : Weak key (ts.take i)) : Ins key L i (ts.take i) ts[i] [] (ts.drop (i + 1)) := by
  refine ⟨?_, by simp; omega, by simpa using hw, fun c hc => nomatch hc⟩
  have : ts.take i ++ ts[i] :: ([] ++ ts.drop (i + 1)) = ts := by
    rw [List.nil_append, ← List.drop_eq_getElem_cons hi, List.take_append_drop]
  rw [this]; exact hp
theorem Ins.swap {L : List α} {i : Nat} {A : List α} {y x : α} {C D : List α} (h : Ins key L i (A ++ [y]) x C D) (hlt : key x < key y) : Ins key L i A x (y :: C) D := by
  refine ⟨?_, ?_, ?_, fun c hc => ?_⟩
  · refine List.Perm.trans ?_ h.pm
    rw [List.append_assoc]
    exact (List.Perm.swap y x (C ++ D)).append_left A
  · have := h.len
    simp at this ⊢
    omega
  · have := h.wk
    simpa [List.append_assoc] using this
  · rcases List.mem_cons.1 hc with rfl | hc
    · exact hlt
    · exact h.up c hc
theorem Ins.stop0 {L : List α} {i : Nat} {x : α} {C D : List α} (h : Ins key L i [] x C D) : Weak key (x :: C) :=
  List.pairwise_cons.2 ⟨fun c hc e => List.lt_irrefl _ (List.lt_trans (h.up c hc) e), by have := h.wk; rw [List.nil_append] at this; exact this⟩
theorem Ins.stop {L : List α} {i : Nat} {A : List α} {y x : α} {C D : List α} (h : Ins key L i (A ++ [y]) x C D) (hn : ¬ key x < key y) : Weak key ((A ++ [y]) ++ x :: C) := by
  have hw := h.wk
  unfold Weak at hw ⊢
  rw [List.pairwise_append] at hw ⊢
  obtain ⟨h1, h2, h3⟩ := hw
  refine ⟨h1, List.pairwise_cons.2 ⟨fun c hc e => List.lt_irrefl _ (List.lt_trans (h.up c hc) e), h2⟩, fun a ha c hc => ?_⟩
  rcases List.mem_cons.1 hc with rfl | hc
  · rcases List.mem_append.1 ha with ha | ha
    · have := (List.pairwise_append.1 h1).2.2 a ha y (by simp)
      exact nlt_trans this hn
    · simp at ha; subst ha; exact hn
  · exact h3 a ha c hc
theorem take_ins {L : List α} {i : Nat} {A : List α} {x : α} {C D : List α} (h : Ins key L i A x C D) : (A ++ x :: (C ++ D)).take (i + 1) = A ++ x :: C := by
  have : A ++ x :: (C ++ D) = (A ++ x :: C) ++ D := by simp
  rw [this, List.take_left' (by have := h.len; simp; omega)]
end
/-- A cell of a row of one's own, turned. -/
theorem own_set {w : World} {base e size n g cap : Nat} {xs : List Value} (h : w.ownsRow base e size (.slice (some ⟨g, 0, none⟩) n cap) n xs) {i : Nat} (u : Value) :
    (w.setCell ⟨g, i, none⟩ u).ownsRow base e size (.slice (some ⟨g, 0, none⟩) n cap) n (xs.set i u) := by
  refine ⟨by rw [List.length_set]; exact h.1, ?_⟩
  rcases h.2 with ⟨h1, _⟩ | ⟨g', cap', cur, h1, h2, h3, h4, h5, h6, h7⟩
  · cases h1
  · injection h1 with h1 h1' h1''
    injection h1 with h1
    injection h1 with h1
    subst h1 h1''
    refine .inr ⟨g, cap, cur.setIfInBounds i u, rfl, h2, heap_setCell_same _ _ _ _ _ _ h3, h4, h5, by simp [h6], ?_⟩
    rw [Array.toList_setIfInBounds, ← h7]
    have hl := h.1
    rw [← List.take_set]
theorem own_cell {w : World} {base e size n g cap : Nat} {xs : List Value} (h : w.ownsRow base e size (.slice (some ⟨g, 0, none⟩) n cap) n xs) {i : Nat} {u : Value} (hi : xs[i]? = some u) (hn : n ≠ 0) : w.cell? ⟨g, i, none⟩ = some u ∧ w.frozen? ⟨g, i, none⟩ = false := by
  obtain ⟨g', cap', hv, _, hlt⟩ := h.form (Nat.pos_of_ne_zero hn)
  injection hv with hv _ _
  injection hv with hv
  injection hv with hv
  subst hv
  have hlen : i < xs.length := by
    rcases Nat.lt_or_ge i xs.length with h1 | h1
    · exact h1
    · rw [List.getElem?_eq_none h1] at hi; cases hi
  refine ⟨(h.cellAt i (by rw [← h.1]; exact hlen)).trans hi, ?_⟩
  rcases h.2 with ⟨h1, _⟩ | ⟨g', cap', cur, h1, h2, h3, h4, h5, h6, h7⟩
  · cases h1
  · injection h1 with h1 _ _
    injection h1 with h1
    injection h1 with h1
    subst h1
    exact Lib.frozen_of_heap h3 i
theorem gt_yes {a b : ByteArray} (h : b.data.toList < a.data.toList) : Op.bytesLess a.toList b.toList = false ∧ (a.toList == b.toList) = false := by
  rw [bytesLess_eq, key_list, key_list]
  refine ⟨decide_eq_false fun e => List.lt_irrefl _ (List.lt_trans h e), ?_⟩
  rw [beq_eq_false_iff_ne]
  intro e
  rw [e] at h
  exact List.lt_irrefl _ h
theorem gt_no {a b : ByteArray} (h : ¬ b.data.toList < a.data.toList) : Op.bytesLess a.toList b.toList = true ∨ (Op.bytesLess a.toList b.toList = false ∧ (a.toList == b.toList) = true) := by
  rw [bytesLess_eq, key_list, key_list]
  by_cases h2 : a.data.toList < b.data.toList
  · exact .inl (decide_eq_true h2)
  · exact .inr ⟨decide_eq_false h2, by rw [beq_iff_eq]; exact lt_tri _ _ h2 h⟩
/-- Two neighbours of a row of tags, changed over. -/
theorem RT.swap {w : World} {base g cap p : Nat} {A B : List Tg} {y x : Tg} (h : RT w base (.slice (some ⟨g, 0, none⟩) (A ++ y :: x :: B).length cap) (A ++ y :: x :: B)) (hp : A.length = p) :
    RT ((((w.setCell ⟨g, p * 2, none⟩ (.string x.1)).setCell ⟨g, p * 2 + 1, none⟩ (.string x.2)).setCell ⟨g, (p + 1) * 2, none⟩ (.string y.1)).setCell ⟨g, (p + 1) * 2 + 1, none⟩ (.string y.2)) base (.slice (some ⟨g, 0, none⟩) (A ++ y :: x :: B).length cap) (A ++ x :: y :: B) := by
  have hfl : (A.flatMap encT).length = p * 2 := by rw [flat_len encT_len, hp]
  have e0 : (A ++ y :: x :: B).flatMap encT = A.flatMap encT ++ (.string y.1 :: .string y.2 :: .string x.1 :: .string x.2 :: B.flatMap encT) := by simp [List.flatMap_append, encT]
  have e1 : (A ++ x :: y :: B).flatMap encT = A.flatMap encT ++ (.string x.1 :: .string x.2 :: .string y.1 :: .string y.2 :: B.flatMap encT) := by simp [List.flatMap_append, encT]
  have hn : (A ++ x :: y :: B).length = (A ++ y :: x :: B).length := by simp
  unfold RT at h ⊢
  rw [hn, e1]
  rw [e0] at h
  have s1 := own_set h (i := p * 2) (.string x.1)
  have s2 := own_set s1 (i := p * 2 + 1) (.string x.2)
  have s3 := own_set s2 (i := (p + 1) * 2) (.string y.1)
  have s4 := own_set s3 (i := (p + 1) * 2 + 1) (.string y.2)
  have e2 : (((((A.flatMap encT ++ (.string y.1 :: .string y.2 :: .string x.1 :: .string x.2 :: B.flatMap encT)).set (p * 2) (.string x.1)).set (p * 2 + 1) (.string x.2)).set ((p + 1) * 2) (.string y.1)).set ((p + 1) * 2 + 1) (.string y.2)) = A.flatMap encT ++ (.string x.1 :: .string x.2 :: .string y.1 :: .string y.2 :: B.flatMap encT) := by
    rw [List.set_append_right _ _ (by omega), List.set_append_right _ _ (by omega), List.set_append_right _ _ (by omega), List.set_append_right _ _ (by omega), hfl]
    rw [show p * 2 - p * 2 = 0 by omega, show p * 2 + 1 - p * 2 = 1 by omega, show (p + 1) * 2 - p * 2 = 2 by omega, show (p + 1) * 2 + 1 - p * 2 = 3 by omega]
    rfl
  rw [e2] at s4
  exact s4
theorem RF.swap {w : World} {base g cap p : Nat} {A B : List Fd} {y x : Fd} (h : RF w base (.slice (some ⟨g, 0, none⟩) (A ++ y :: x :: B).length cap) (A ++ y :: x :: B)) (hp : A.length = p) :
    RF ((((((((w.setCell ⟨g, p * 4, none⟩ (.string x.1)).setCell ⟨g, p * 4 + 1, none⟩ (.int .i64 x.2.1)).setCell ⟨g, p * 4 + 2, none⟩ (.int .u64 x.2.2.1)).setCell ⟨g, p * 4 + 3, none⟩ (.string x.2.2.2)).setCell ⟨g, (p + 1) * 4, none⟩ (.string y.1)).setCell ⟨g, (p + 1) * 4 + 1, none⟩ (.int .i64 y.2.1)).setCell ⟨g, (p + 1) * 4 + 2, none⟩ (.int .u64 y.2.2.1)).setCell ⟨g, (p + 1) * 4 + 3, none⟩ (.string y.2.2.2)) base (.slice (some ⟨g, 0, none⟩) (A ++ y :: x :: B).length cap) (A ++ x :: y :: B) := by
  have hfl : (A.flatMap encF).length = p * 4 := by rw [flat_len encF_len, hp]
  have e0 : (A ++ y :: x :: B).flatMap encF = A.flatMap encF ++ (encF y ++ (encF x ++ B.flatMap encF)) := by simp [List.flatMap_append]
  have e1 : (A ++ x :: y :: B).flatMap encF = A.flatMap encF ++ (encF x ++ (encF y ++ B.flatMap encF)) := by simp [List.flatMap_append]
  have hn : (A ++ x :: y :: B).length = (A ++ y :: x :: B).length := by simp
  unfold RF at h ⊢
  rw [hn, e1]
  rw [e0] at h
  have s1 := own_set h (i := p * 4) (.string x.1)
  have s2 := own_set s1 (i := p * 4 + 1) (.int .i64 x.2.1)
  have s3 := own_set s2 (i := p * 4 + 2) (.int .u64 x.2.2.1)
  have s4 := own_set s3 (i := p * 4 + 3) (.string x.2.2.2)
  have s5 := own_set s4 (i := (p + 1) * 4) (.string y.1)
  have s6 := own_set s5 (i := (p + 1) * 4 + 1) (.int .i64 y.2.1)
  have s7 := own_set s6 (i := (p + 1) * 4 + 2) (.int .u64 y.2.2.1)
  have s8 := own_set s7 (i := (p + 1) * 4 + 3) (.string y.2.2.2)
  have e2 : (((((((((A.flatMap encF ++ (encF y ++ (encF x ++ B.flatMap encF))).set (p * 4) (.string x.1)).set (p * 4 + 1) (.int .i64 x.2.1)).set (p * 4 + 2) (.int .u64 x.2.2.1)).set (p * 4 + 3) (.string x.2.2.2)).set ((p + 1) * 4) (.string y.1)).set ((p + 1) * 4 + 1) (.int .i64 y.2.1)).set ((p + 1) * 4 + 2) (.int .u64 y.2.2.1)).set ((p + 1) * 4 + 3) (.string y.2.2.2)) = A.flatMap encF ++ (encF x ++ (encF y ++ B.flatMap encF)) := by
    rw [List.set_append_right _ _ (by omega), List.set_append_right _ _ (by omega), List.set_append_right _ _ (by omega), List.set_append_right _ _ (by omega), List.set_append_right _ _ (by omega), List.set_append_right _ _ (by omega), List.set_append_right _ _ (by omega), List.set_append_right _ _ (by omega), hfl]
    rw [show p * 4 - p * 4 = 0 by omega, show p * 4 + 1 - p * 4 = 1 by omega, show p * 4 + 2 - p * 4 = 2 by omega, show p * 4 + 3 - p * 4 = 3 by omega, show (p + 1) * 4 - p * 4 = 4 by omega, show (p + 1) * 4 + 1 - p * 4 = 5 by omega, show (p + 1) * 4 + 2 - p * 4 = 6 by omega, show (p + 1) * 4 + 3 - p * 4 = 7 by omega]
    rfl
  rw [e2] at s8
  exact s8
end Go.Proofs.YtagiddbfhlokcaaGreatDoor.Ser
/- The reference's way to put a row in order: the walk. No condition. -/
namespace Go.Proofs.YtagiddbfhlokcaaGreatDoor.Ser
open Go.RowKit Go.Sort
set_option maxRecDepth 100000
theorem grown_set (w : World) (a : Addr) (u : Value) {g : Nat} (h : a.block = g) : w.grownBy (w.setCell a u) (some g) :=
  ⟨rfl, rfl, rfl, by simp [World.setCell], fun k hk hne => Below.heap_setCell _ _ _ _ (fun e => hne (by rw [e, h]))⟩
theorem grown_trans {a b c : World} {r : Option Nat} (h : a.grownBy b r) (k : b.grownBy c r) : a.grownBy c r :=
  ⟨k.os.trans h.os, k.tape.trans h.tape, k.output.trans h.output, Nat.le_trans h.size k.size, fun i hi hn => (k.block i (Nat.lt_of_lt_of_le hi h.size) hn).trans (h.block i hi hn)⟩
structure SMem (B : Nat) (name : ByteArray) (tags : List Tg) (fields : List Fd) (v vf : Value) (tm : Int) (w wr : World) : Prop where
  base : B ≤ w.heap.size
  box : wr.heap[w.heap.size]? = some (.cells #[.string name, v, vf, .int .i64 tm] 27 (0, 0))
  res : wr.heap[w.heap.size + 1]? = some (.cells #[.string ⟨#[]⟩, .slice none 0 0, .slice none 0 0, .int .i64 0] 27 (0, 0))
  rt : RT wr B v tags
  rf : RF wr B vf fields
  lt : ∀ g, v.ownBlock = some g → g < w.heap.size
  lf : ∀ g, vf.ownBlock = some g → g < w.heap.size
  ap : ∀ g, v.ownBlock = some g → vf.ownBlock ≠ some g
  bel : Below B w wr
section
variable {B : Nat} {name : ByteArray} {tags : List Tg} {fields : List Fd} {v vf : Value} {tm : Int} {w wr : World}
theorem SMem.size (h : SMem B name tags fields v vf tm w wr) : w.heap.size + 1 < wr.heap.size := lt_of_block h.res
theorem SMem.start (hb : B ≤ w.heap.size) (hrt : RT w B v tags) (hrf : RF w B vf fields) (hap : ∀ g, v.ownBlock = some g → vf.ownBlock ≠ some g) :
    SMem B name tags fields v vf tm w ((w.alloc (.cells #[.string name, v, vf, .int .i64 tm] 27)).alloc (.cells #[.string ⟨#[]⟩, .slice none 0 0, .slice none 0 0, .int .i64 0] 27)) := by
  have h1 : Below w.heap.size w ((w.alloc (.cells #[.string name, v, vf, .int .i64 tm] 27)).alloc (.cells #[.string ⟨#[]⟩, .slice none 0 0, .slice none 0 0, .int .i64 0] 27)) := ((Below.refl _ _).alloc (Nat.le_refl _) _).alloc (by simp) _
  refine ⟨hb, ?_, ?_, own_later hrt h1, own_later hrf h1, fun g hg => (hrt.lt g hg).2, fun g hg => (hrf.lt g hg).2, hap, h1.mono hb⟩
  · rw [Below.heap_alloc _ _ _ (by simp)]; exact Array.getElem?_push_size
  · have : (w.alloc (.cells #[.string name, v, vf, .int .i64 tm] 27)).heap.size = w.heap.size + 1 := by simp
    rw [← this]; exact Array.getElem?_push_size
theorem SMem.later {w' : World} (h : SMem B name tags fields v vf tm w wr) (hb : Below wr.heap.size wr w') : SMem B name tags fields v vf tm w w' :=
  ⟨h.base, (hb.block _ (lt_of_block h.box)).trans h.box, (hb.block _ (lt_of_block h.res)).trans h.res, own_later h.rt hb, own_later h.rf hb, h.lt, h.lf, h.ap, h.bel.trans (hb.mono (by have := h.size; have := h.base; omega))⟩
theorem SMem.cells (h : SMem B name tags fields v vf tm w wr) :
    wr.cell? ⟨w.heap.size, 0, none⟩ = some (.string name) ∧ wr.cell? ⟨w.heap.size, 1, none⟩ = some v ∧ wr.cell? ⟨w.heap.size, 2, none⟩ = some vf ∧ wr.cell? ⟨w.heap.size, 3, none⟩ = some (.int .i64 tm) :=
  ⟨Lib.cell_of_heap h.box 0, Lib.cell_of_heap h.box 1, Lib.cell_of_heap h.box 2, Lib.cell_of_heap h.box 3⟩
theorem SMem.rcells (h : SMem B name tags fields v vf tm w wr) :
    wr.cell? ⟨w.heap.size + 1, 0, none⟩ = some (.string ⟨#[]⟩) ∧ wr.cell? ⟨w.heap.size + 1, 1, none⟩ = some (.slice none 0 0) ∧ wr.cell? ⟨w.heap.size + 1, 2, none⟩ = some (.slice none 0 0) ∧ wr.cell? ⟨w.heap.size + 1, 3, none⟩ = some (.int .i64 0) ∧
      wr.frozen? ⟨w.heap.size + 1, 0, none⟩ = false ∧ wr.frozen? ⟨w.heap.size + 1, 1, none⟩ = false ∧ wr.frozen? ⟨w.heap.size + 1, 2, none⟩ = false ∧ wr.frozen? ⟨w.heap.size + 1, 3, none⟩ = false :=
  ⟨Lib.cell_of_heap h.res 0, Lib.cell_of_heap h.res 1, Lib.cell_of_heap h.res 2, Lib.cell_of_heap h.res 3, Lib.frozen_of_heap h.res 0, Lib.frozen_of_heap h.res 1, Lib.frozen_of_heap h.res 2, Lib.frozen_of_heap h.res 3⟩
theorem SMem.setT {ts : List Tg} {w2 : World} {g n cap : Nat} (h : SMem B name tags fields (.slice (some ⟨g, 0, none⟩) n cap) vf tm w wr) (ho : RT w2 B (.slice (some ⟨g, 0, none⟩) n cap) ts) (hg : wr.grownBy w2 (some g)) : SMem B name ts fields (.slice (some ⟨g, 0, none⟩) n cap) vf tm w w2 := by
  have l3 := h.size
  have lg := h.lt g rfl
  have lb := (h.rt.lt g rfl).1
  have ne : ∀ j, w.heap.size ≤ j → some j ≠ some g := fun j hj e => by cases e; omega
  refine ⟨h.base, (hg.block _ (by omega) (ne _ (by omega))).trans h.box, (hg.block _ (by omega) (ne _ (by omega))).trans h.res, ho, h.rf.kept hg ?_, h.lt, h.lf, h.ap, h.bel.grown hg (by have := h.base; omega) (fun j hj => by cases hj; exact lb)⟩
  cases hv : vf.ownBlock with
  | none => exact .inl rfl
  | some g' => exact .inr fun e => h.ap g rfl (hv.trans e)
theorem SMem.setF {fs : List Fd} {w2 : World} {g n cap : Nat} (h : SMem B name tags fields v (.slice (some ⟨g, 0, none⟩) n cap) tm w wr) (ho : RF w2 B (.slice (some ⟨g, 0, none⟩) n cap) fs) (hg : wr.grownBy w2 (some g)) : SMem B name tags fs v (.slice (some ⟨g, 0, none⟩) n cap) tm w w2 := by
  have l3 := h.size
  have lg := h.lf g rfl
  have lb := (h.rf.lt g rfl).1
  have ne : ∀ j, w.heap.size ≤ j → some j ≠ some g := fun j hj e => by cases e; omega
  refine ⟨h.base, (hg.block _ (by omega) (ne _ (by omega))).trans h.box, (hg.block _ (by omega) (ne _ (by omega))).trans h.res, h.rt.kept hg ?_, ho, h.lt, h.lf, h.ap, h.bel.grown hg (by have := h.base; omega) (fun j hj => by cases hj; exact lb)⟩
  cases hv : v.ownBlock with
  | none => exact .inl rfl
  | some g' => exact .inr fun e => h.ap g (hv.trans e) rfl
end
/-- Rows put in order: what the reference answers. -/
def RowPostB (o : LR) (B : Nat) (w : World) (e : Ending) (w' : World) : Prop :=
  Below B w w' ∧ match o.2 with
    | none => e = .returned (.tuple #[.agg #[.string ⟨#[]⟩, .slice none 0 0, .slice none 0 0, .int .i64 0], .int .i64 o.1])
    | some r => ∃ v vf, e = .returned (.tuple #[.agg #[.string r.1, v, vf, .int .i64 r.2.2.2], .int .i64 o.1]) ∧ RT w' B v r.2.1 ∧ RF w' B vf r.2.2.1 ∧ ∀ g, v.ownBlock = some g → vf.ownBlock ≠ some g
/-- A round of the reference's insertion: the loop's inner state. -/
def InT (B : Nat) (name : ByteArray) (tags : List Tg) (fields : List Fd) (v vf : Value) (tm : Int) (w : World) (i : Nat) (j : Value) (wr : World) : Prop :=
  ∃ A x C D, j = .int .i64 (A.length : Nat) ∧ Ins keyT tags i A x C D ∧ SMem B name (A ++ x :: (C ++ D)) fields v vf tm w wr
def OutT (B : Nat) (name : ByteArray) (tags : List Tg) (fields : List Fd) (v vf : Value) (tm : Int) (w : World) (i : Value) (wr : World) : Prop :=
  ∃ ts, ∃ k : Nat, i = .int .i64 k ∧ k ≤ tags.length ∧ ts.Perm tags ∧ Weak keyT (ts.take k) ∧ SMem B name ts fields v vf tm w wr
def InF (B : Nat) (name : ByteArray) (tags : List Tg) (fields : List Fd) (v vf : Value) (tm : Int) (w : World) (i : Nat) (j : Value) (wr : World) : Prop :=
  ∃ A x C D, j = .int .i64 (A.length : Nat) ∧ Ins keyF fields i A x C D ∧ SMem B name tags (A ++ x :: (C ++ D)) v vf tm w wr
def OutF (B : Nat) (name : ByteArray) (tags : List Tg) (fields : List Fd) (v vf : Value) (tm : Int) (w : World) (i : Value) (wr : World) : Prop :=
  ∃ fs, ∃ k : Nat, i = .int .i64 k ∧ k ≤ fields.length ∧ fs.Perm fields ∧ Weak keyF (fs.take k) ∧ SMem B name tags fs v vf tm w wr
theorem outT_done {B : Nat} {name : ByteArray} {tags : List Tg} {fields : List Fd} {v vf : Value} {tm : Int} {w wr : World} {k : Nat} {A : List Tg} {x : Tg} {C D : List Tg} (hk : k < tags.length)
    (hI : Ins keyT tags k A x C D) (hw : Weak keyT (A ++ x :: C)) (hm : SMem B name (A ++ x :: (C ++ D)) fields v vf tm w wr) : OutT B name tags fields v vf tm w (.int .i64 ((k : Int) + 1)) wr :=
  ⟨_, k + 1, by go_num, hk, hI.pm, by rw [take_ins hI]; exact hw, hm⟩
theorem outF_done {B : Nat} {name : ByteArray} {tags : List Tg} {fields : List Fd} {v vf : Value} {tm : Int} {w wr : World} {k : Nat} {A : List Fd} {x : Fd} {C D : List Fd} (hk : k < fields.length)
    (hI : Ins keyF fields k A x C D) (hw : Weak keyF (A ++ x :: C)) (hm : SMem B name tags (A ++ x :: (C ++ D)) v vf tm w wr) : OutF B name tags fields v vf tm w (.int .i64 ((k : Int) + 1)) wr :=
  ⟨_, k + 1, by go_num, hk, hI.pm, by rw [take_ins hI]; exact hw, hm⟩
theorem insT_start {B : Nat} {name : ByteArray} {tags ts : List Tg} {fields : List Fd} {v vf : Value} {tm : Int} {w wr : World} {k : Nat} (hk : k < tags.length) (hp : ts.Perm tags) (hw : Weak keyT (ts.take k)) (hm : SMem B name ts fields v vf tm w wr) : InT B name tags fields v vf tm w k (.int .i64 k) wr := by
  have hl := hp.length_eq
  have hI := Ins.start hp (by omega : k < ts.length) hw
  refine ⟨_, _, _, _, ?_, hI, ?_⟩
  · rw [List.length_take, Nat.min_eq_left (by omega)]
  · rw [List.nil_append, ← List.drop_eq_getElem_cons, List.take_append_drop]; exact hm
theorem insF_start {B : Nat} {name : ByteArray} {tags : List Tg} {fields fs : List Fd} {v vf : Value} {tm : Int} {w wr : World} {k : Nat} (hk : k < fields.length) (hp : fs.Perm fields) (hw : Weak keyF (fs.take k)) (hm : SMem B name tags fs v vf tm w wr) : InF B name tags fields v vf tm w k (.int .i64 k) wr := by
  have hl := hp.length_eq
  have hI := Ins.start hp (by omega : k < fs.length) hw
  refine ⟨_, _, _, _, ?_, hI, ?_⟩
  · rw [List.length_take, Nat.min_eq_left (by omega)]
  · rw [List.nil_append, ← List.drop_eq_getElem_cons, List.take_append_drop]; exact hm
theorem results38 {tmps : Array Value} {wr : World} {B : Nat} {x y z u : Value} (hb : tmps.getD 2 undef = .pointer (some ⟨B, 0, none⟩)) (hk : wr.heap[B]? = some (.cells #[x, y, z, u] 27 (0, 0))) :
    (results Tryz.f38 tmps).run Tryz.prog wr = .ok (.tuple #[.agg #[x, y, z, u], tmps.getD 3 undef]) wr := by
  have hb' : tmps[2]?.getD undef = .pointer (some ⟨B, 0, none⟩) := by simpa using hb
  have h0 : wr.cell? ⟨B, 0, none⟩ = some x := Lib.cell_of_heap hk 0
  have h1 : wr.cell? ⟨B, 1, none⟩ = some y := Lib.cell_of_heap hk 1
  have h2 : wr.cell? ⟨B, 2, none⟩ = some z := Lib.cell_of_heap hk 2
  have h3 : wr.cell? ⟨B, 3, none⟩ = some u := Lib.cell_of_heap hk 3
  simp [results, hb', h0, h1, h2, h3, go_sem]
end Go.Proofs.YtagiddbfhlokcaaGreatDoor.Ser
/- A name that ends with a sign, by the reference. Condition: the text's length. -/
namespace Go.Proofs.YtagiddbfhlokcaaGreatDoor.Ser
open Go.RowKit Go.Sort
set_option maxRecDepth 100000
theorem scan_suffix : ∀ (n : Nat) {acc l b r : List UInt8}, l.length ≤ n → scan acc l = some (b, r) → ∃ k, r = l.drop k
  | n, acc, [], b, r, _, h => by
    simp [scan] at h
    exact ⟨0, by rw [h.2]; rfl⟩
  | 0, acc, c :: l, b, r, hn, h => by simp at hn
  | n + 1, acc, c :: l, b, r, hn, h => by
    by_cases h92 : c.toNat = 92
    · cases l with
      | nil => rw [scan_end _ _ h92] at h; cases h
      | cons d l =>
        cases hs : spec d with
        | true =>
          rw [scan_esc _ _ _ _ h92 hs] at h
          obtain ⟨k, hk⟩ := scan_suffix n (by simp at hn; omega) h
          exact ⟨k + 2, by rw [hk]; rfl⟩
        | false => rw [scan_bad _ _ _ _ h92 hs] at h; cases h
    · cases hs : spec c with
      | true =>
        rw [scan_stop _ _ _ h92 hs] at h
        simp at h
        exact ⟨0, by rw [← h.2]; rfl⟩
      | false =>
        rw [scan_plain _ _ _ h92 hs] at h
        obtain ⟨k, hk⟩ := scan_suffix n (by simp at hn; omega) h
        exact ⟨k + 1, by rw [hk]; rfl⟩
/-- What a scan leaves is the text from the place on at which it ended. -/
theorem scan_rest {l : List UInt8} {k0 : Nat} {b r : List UInt8} (hk0 : k0 ≤ l.length) (h : scan [] (l.drop k0) = some (b, r)) : r = l.drop (l.length - r.length) ∧ k0 ≤ l.length - r.length ∧ r.length ≤ l.length := by
  obtain ⟨k, hk⟩ := scan_suffix _ (Nat.le_refl _) h
  have hl := (scan_len _ (Nat.le_refl _) h).1
  rw [List.length_drop] at hl
  rw [List.drop_drop] at hk
  have h1 : r.length = l.length - (k0 + k) := by rw [hk, List.length_drop]
  refine ⟨?_, by omega, by omega⟩
  by_cases h2 : k0 + k ≤ l.length
  · rw [show l.length - r.length = k0 + k by omega]; exact hk
  · have h3 : r = [] := List.eq_nil_of_length_eq_zero (by omega)
    rw [h3]
    simp
def PcPost (l : List UInt8) (k0 : Nat) (w : World) (e : Ending) (w' : World) : Prop :=
  Below w.heap.size w w' ∧ ∃ (n : ByteArray) (z : Int) (ok : Bool), e = .returned (.tuple #[.string n, .int .i64 z, .bool ok]) ∧
    (ok = true → ∃ nb r, scan [] (l.drop k0) = some (nb, r) ∧ n = ofL nb ∧ z = ((l.length - r.length : Nat) : Int)) ∧ (ok = false → scan [] (l.drop k0) = none)
theorem part33 (l : List UInt8) (k0 : Nat) (w : World) (hl : l.length ≤ 140737488355328) (hk0 : k0 ≤ l.length) : Calls Tryz.prog 33 #[.string (bs l), .int .i64 (k0 : Int)] w (PcPost l k0 w) := by
  refine (part (bs l) k0 w (by rw [bs_size]; exact hl) (by rw [bs_size]; exact hk0)).mono ?_
  rw [bs_list]
  rintro e w' ⟨hb, h⟩
  refine ⟨hb, ?_⟩
  cases hs : scan [] (l.drop k0) with
  | none =>
    rw [hs] at h
    obtain ⟨z, rfl⟩ := h
    exact ⟨_, _, _, rfl, (fun h => nomatch h), fun _ => rfl⟩
  | some p =>
    obtain ⟨nb, r⟩ := p
    rw [hs] at h
    simp only at h
    rw [bs_size] at h
    exact ⟨_, _, _, h, (fun _ => ⟨nb, r, rfl, rfl, rfl⟩), fun h => nomatch h⟩
def NmPost (l : List UInt8) (k0 : Nat) (sg : UInt8) (w : World) (e : Ending) (w' : World) : Prop :=
  Below w.heap.size w w' ∧ ∃ (n : ByteArray) (z : Int) (ok : Bool), e = .returned (.tuple #[.string n, .int .i64 z, .bool ok]) ∧
    (ok = true → ∃ nb r, scan [] (l.drop k0) = some (nb, r) ∧ nameB nb = true ∧ headIs sg r = true ∧ n = ofL nb ∧ z = ((l.length - r.length : Nat) : Int)) ∧
    (ok = false → scan [] (l.drop k0) = none ∨ ∃ nb r, scan [] (l.drop k0) = some (nb, r) ∧ (nameB nb && headIs sg r) = false)
set_option maxHeartbeats 4000000 in
theorem name35 (l : List UInt8) (k0 : Nat) (sg : UInt8) (w : World) (hl : l.length ≤ 140737488355328) (hk0 : k0 ≤ l.length) : Calls Tryz.prog 35 #[.string (bs l), .int .i64 (k0 : Int), .int .u8 (sg.toNat : Int)] w (NmPost l k0 sg w) := by
  obtain ⟨P, hP⟩ : ∃ P, NmPost l k0 sg w = P := ⟨_, rfl⟩
  have HP := Lib.hid hP
  rw [hP]
  have MP := Lib.hid (part33 l k0 w hl hk0)
  have HSZ := Lib.hid (bs_size l)
  have HSC := Lib.hid (fun (nb r : List UInt8) (h : scan [] (l.drop k0) = some (nb, r)) => And.intro (scan_rest hk0 h) (scan_len _ (Nat.le_refl _) h).2)
  clear hP
  go_enter Tryz.func35, Tryz.ntmps35
  go_wp2_with fail
  refine MP.out.mono ?_
  rintro e w1 ⟨hb, n, z, ok, rfl, hy, hn⟩
  have HB := Lib.hid hb
  clear hb
  cases ok with
  | false =>
    have HN := Lib.hid (hn rfl)
    clear hy hn
    go_wp2_with fail
    go_quiet (fail)
    go_wp2_with fail
    go_ret3
    rw [← HP.out]
    exact ⟨below_drewN HB.out _, _, _, _, rfl, (fun h => nomatch h), fun _ => .inl HN.out⟩
  | true =>
    obtain ⟨nb, r, hs, rfl, rfl⟩ := hy rfl
    have HS := Lib.hid hs
    obtain ⟨⟨hr1, hr2, hr3⟩, hr4⟩ := HSC.out nb r hs
    obtain ⟨q, hq⟩ : ∃ q, l.length - r.length = q := ⟨_, rfl⟩
    rw [hq] at hr1 hr2 ⊢
    have HQ := Lib.hid hq
    have M34 : ∀ n, Calls Tryz.prog 34 #[.string (ofL nb)] (w1.drewN n) fun e w' => e = .returned (.bool (nameB nb)) ∧ ∃ m, w' = w1.drewN m := fun n =>
      (rname (ofL nb) (w1.drewN n) (by rw [show (ofL nb).size = nb.length by simp [ofL, ByteArray.size]]; unfold maxLen; simp at hr4; omega)).mono fun e w' ⟨h1, h2⟩ => ⟨by rw [h1]; simp [ofL], n, h2.symm⟩
    obtain ⟨bn, hbn⟩ : ∃ b, nameB nb = b := ⟨_, rfl⟩
    rw [hbn] at M34
    have MN := Lib.hid M34
    have HBN := Lib.hid hbn
    clear hy hn hs hq M34 hbn
    cases bn with
    | false =>
      clear hr1 hr2 hr3 hr4
      go_wp2_with fail
      go_quiet ((go_at_call 34; with_reducible exact MN.out _))
      go_wp2_with fail
      go_ret3
      rw [← HP.out]
      exact ⟨below_drewN HB.out _, _, _, _, rfl, (fun h => nomatch h), fun _ => .inr ⟨nb, r, HS.out, by rw [HBN.out]; rfl⟩⟩
    | true =>
      rcases list_cases (l.drop q) with e | ⟨c, t, e⟩
      · have hql : l.length ≤ q := List.drop_eq_nil_iff.1 e
        have H1 : Hid (decide (q < (bs l).size) = false) := Lib.hid (decide_eq_false (by rw [HSZ.out]; omega))
        have HRN : Hid (headIs sg r = false) := Lib.hid (by rw [hr1, e]; rfl)
        clear hr1 hr2 hr3 hr4 e hql
        go_wp2_with fail
        have h1 := H1.out
        go_quiet ((go_at_call 34; with_reducible exact MN.out _))
        go_wp2_with fail
        go_ret3
        rw [← HP.out]
        exact ⟨below_drewN HB.out _, _, _, _, rfl, (fun h => nomatch h), fun _ => .inr ⟨nb, r, HS.out, by rw [HRN.out, Bool.and_false]⟩⟩
      · obtain ⟨hlt, hg, hz, hd, hkl⟩ := at_cons e
        by_cases hc : c = sg
        · have hcc : ((c.toNat : Int) == (sg.toNat : Int)) = true := by rw [hc]; simp
          have HRN : Hid (headIs sg r = true) := Lib.hid (by rw [hr1, e, hc]; simp [headIs])
          clear hr1 hr2 hr3 hr4 e hd hkl hc
          go_wp2_with fail
          go_quiet ((go_at_call 34; with_reducible exact MN.out _))
          go_wp2_with fail
          go_ret3
          rw [← HP.out]
          exact ⟨below_drewN HB.out _, _, _, _, rfl, (fun _ => ⟨nb, r, HS.out, HBN.out, HRN.out, rfl, by rw [HQ.out]⟩), fun h => nomatch h⟩
        · have hcc : ((c.toNat : Int) == (sg.toNat : Int)) = false := by
            rw [beq_eq_false_iff_ne]
            intro h
            exact hc (UInt8.toNat_inj.1 (by omega))
          have HRN : Hid (headIs sg r = false) := Lib.hid (by rw [hr1, e]; simp [headIs, hc])
          clear hr1 hr2 hr3 hr4 e hd hkl hc
          go_wp2_with fail
          go_quiet ((go_at_call 34; with_reducible exact MN.out _))
          go_wp2_with fail
          go_ret3
          rw [← HP.out]
          exact ⟨below_drewN HB.out _, _, _, _, rfl, (fun h => nomatch h), fun _ => .inr ⟨nb, r, HS.out, by rw [HRN.out, Bool.and_false]⟩⟩
end Go.Proofs.YtagiddbfhlokcaaGreatDoor.Ser
/- Reading a line by the program: the fields. Conditions: the text's length; the readers of values. -/
namespace Go.Proofs.YtagiddbfhlokcaaGreatDoor.Ser
open Go.RowKit Go.Sort
set_option maxRecDepth 100000
theorem cutPost_cases {o : Option (List UInt8 × List UInt8)} {w : World} {e : Ending} {w' : World} (h : CutPost o w e w') : ∃ b s ok, e = .returned (.tuple #[.string b, .string s, .bool ok]) ∧ (ok = true → ∃ bl r, o = some (bl, r) ∧ b = ofL bl ∧ s = bs r) ∧ (ok = false → o = none) ∧ Below w.heap.size w w' := by
  obtain ⟨hb, h⟩ := h
  cases o with
  | none =>
    obtain ⟨t, rfl⟩ := h
    exact ⟨_, _, _, rfl, (fun h => nomatch h), fun _ => rfl, hb⟩
  | some p =>
    obtain ⟨b, r⟩ := p
    simp only at h
    exact ⟨_, _, _, h, fun _ => ⟨b, r, rfl, rfl, rfl⟩, (fun h => nomatch h), hb⟩
theorem cut39 (r : List UInt8) (w : World) (hs : r.length ≤ 140737488355328) : Calls Tryz.prog 39 #[.string (bs r)] w (CutPost (scan [] r) w) := by
  have h := cut (bs r) w (by rw [bs_size]; exact hs)
  rw [bs_list] at h
  exact h
theorem ofL_size (l : List UInt8) : (ofL l).size = l.length := by simp [ofL, ByteArray.size]
theorem name40 (nb : List UInt8) (h : nb.length ≤ 140737488355328) (w : World) : Calls Tryz.prog 40 #[.string (ofL nb)] w fun e w' => e = .returned (.bool (nameB nb)) ∧ Below w.heap.size w w' := by
  have := vname (ofL nb) w (by rw [ofL_size]; unfold maxLen; omega)
  rw [show (ofL nb).data.toList = nb by simp [ofL]] at this
  exact this
theorem name_sized {nb : List UInt8} (h : nameB nb = true) : (ofL nb).size ≤ maxLen := by
  unfold nameB at h
  simp at h
  rw [ofL_size]
  unfold maxLen
  omega
/-- What comes behind a field. -/
def nextP (V : List UInt8 → Value × Int) (now : Int) (n : Nat) (acc acc' : List Fd) : List UInt8 → Int × List Fd × Int
  | [] => (0, acc', now)
  | c :: r3 => if c = 44 then fieldsP V now n acc' r3 else if c = 32 then ((PF.intP r3).2, acc', (PF.intP r3).1) else (2, acc, 0)
section
variable {V : List UInt8 → Value × Int} {now : Int} {n : Nat} {acc : List Fd} {r kb r1 : List UInt8}
theorem fp_none (h : scan [] r = none) : fieldsP V now (n + 1) acc r = (2, acc, 0) := by unfold fieldsP; rw [h]
theorem fp_bad (h : scan [] r = some (kb, r1)) (hb : (nameB kb && headIs 61 r1) = false) : fieldsP V now (n + 1) acc r = (2, acc, 0) := by unfold fieldsP; rw [h]; simp only; rw [hb]; rfl
theorem fp_noend (h : scan [] r = some (kb, r1)) (hb : (nameB kb && headIs 61 r1) = true) (hv : vEnd r1.tail = none) : fieldsP V now (n + 1) acc r = (2, acc, 0) := by
  unfold fieldsP; rw [h]; simp only; rw [hb, hv]; rfl
theorem fp_err {m : Nat} (h : scan [] r = some (kb, r1)) (hb : (nameB kb && headIs 61 r1) = true) (hv : vEnd r1.tail = some m) (he : (V (r1.tail.take m)).2 ≠ 0) : fieldsP V now (n + 1) acc r = ((V (r1.tail.take m)).2, acc, 0) := by
  unfold fieldsP; rw [h]; simp only; rw [hb, hv]; simp only [if_true]; rw [if_neg he]
theorem fp_ok {m : Nat} (h : scan [] r = some (kb, r1)) (hb : (nameB kb && headIs 61 r1) = true) (hv : vEnd r1.tail = some m) (he : (V (r1.tail.take m)).2 = 0) : fieldsP V now (n + 1) acc r =
    nextP V now n acc (acc ++ [(ofL kb, valF (V (r1.tail.take m)).1)]) (r1.tail.drop m) := by
  rw [fieldsP, h]; simp only; rw [hb, hv]; simp only [if_true]; rw [if_pos he]
  cases r1.tail.drop m <;> rfl
end
theorem finP_err {name : ByteArray} {tags : List Tg} {er : Int} {acc : List Fd} {t : Int} (h : er ≠ 0) : finP name tags (er, acc, t) = (er, none) := by unfold finP; rw [if_neg h]
/-- A value stored where the last was. -/
theorem PMem.setVal {name : ByteArray} {tags : List Tg} {fields : List Fd} {v vf : Value} {tm : Int} {w wr : World} (k b : Int) (t : ByteArray) (h : PMem name tags fields v vf tm w wr) :
    PMem name tags fields v vf tm w (((wr.setCell ⟨w.heap.size + 2, 0, none⟩ (.int .i64 k)).setCell ⟨w.heap.size + 2, 1, none⟩ (.int .u64 b)).setCell ⟨w.heap.size + 2, 2, none⟩ (.string t)) := by
  obtain ⟨k0, b0, t0, h3⟩ := h.val
  have g1 := heap_setCell_same wr (w.heap.size + 2) 0 _ _ (.int .i64 k) h3
  have g2 := heap_setCell_same _ (w.heap.size + 2) 1 _ _ (.int .u64 b) g1
  have g3 := heap_setCell_same _ (w.heap.size + 2) 2 _ _ (.string t) g2
  have other : ∀ j, j < w.heap.size + 2 → (((wr.setCell ⟨w.heap.size + 2, 0, none⟩ (.int .i64 k)).setCell ⟨w.heap.size + 2, 1, none⟩ (.int .u64 b)).setCell ⟨w.heap.size + 2, 2, none⟩ (.string t)).heap[j]? = wr.heap[j]? := fun j hj => by
    rw [Below.heap_setCell _ _ _ _ (by simp; omega), Below.heap_setCell _ _ _ _ (by simp; omega), Below.heap_setCell _ _ _ _ (by simp; omega)]
  exact ⟨(other _ (by omega)).trans h.res, (other _ (by omega)).trans h.row, ⟨k, b, t, g3⟩, ownsRow_setCell_below (ownsRow_setCell_below (ownsRow_setCell_below h.rt (by simp) _) (by simp) _) (by simp) _,
    ownsRow_setCell_below (ownsRow_setCell_below (ownsRow_setCell_below h.rf (by simp) _) (by simp) _) (by simp) _, h.ap, ((h.bel.setCell (by simp) _).setCell (by simp) _).setCell (by simp) _⟩
theorem PMem.setVal_at {name : ByteArray} {tags : List Tg} {fields : List Fd} {v vf : Value} {tm : Int} {w wr : World} (k b : Int) (t : ByteArray) (h : PMem name tags fields v vf tm w wr) :
    (((wr.setCell ⟨w.heap.size + 2, 0, none⟩ (.int .i64 k)).setCell ⟨w.heap.size + 2, 1, none⟩ (.int .u64 b)).setCell ⟨w.heap.size + 2, 2, none⟩ (.string t)).heap[w.heap.size + 2]? = some (.cells #[.int .i64 k, .int .u64 b, .string t] 53 (0, 0)) := by
  obtain ⟨k0, b0, t0, h3⟩ := h.val
  have g1 := heap_setCell_same wr (w.heap.size + 2) 0 _ _ (.int .i64 k) h3
  have g2 := heap_setCell_same _ (w.heap.size + 2) 1 _ _ (.int .u64 b) g1
  exact heap_setCell_same _ (w.heap.size + 2) 2 _ _ (.string t) g2
theorem PMem.vcells {name : ByteArray} {tags : List Tg} {fields : List Fd} {v vf : Value} {tm : Int} {w wr : World} (h : PMem name tags fields v vf tm w wr) : ∃ k b t,
    wr.cell? ⟨w.heap.size + 2, 0, none⟩ = some (.int .i64 k) ∧ wr.cell? ⟨w.heap.size + 2, 1, none⟩ = some (.int .u64 b) ∧ wr.cell? ⟨w.heap.size + 2, 2, none⟩ = some (.string t) ∧ wr.frozen? ⟨w.heap.size + 2, 0, none⟩ = false ∧ wr.frozen? ⟨w.heap.size + 2, 1, none⟩ = false ∧ wr.frozen? ⟨w.heap.size + 2, 2, none⟩ = false := by
  obtain ⟨k, b, t, h3⟩ := h.val
  exact ⟨k, b, t, Lib.cell_of_heap h3 0, Lib.cell_of_heap h3 1, Lib.cell_of_heap h3 2, Lib.frozen_of_heap h3 0, Lib.frozen_of_heap h3 1, Lib.frozen_of_heap h3 2⟩
/-- Behind an append to the fields. -/
theorem PMem.grownF {name : ByteArray} {tags : List Tg} {fields : List Fd} {v vf : Value} {tm : Int} {w wr w' : World} {o : Obj} (h : PMem name tags fields v vf tm w wr) (hg : (wr.alloc o).grownBy w' vf.ownBlock) :
    w'.heap[w.heap.size]? = some (.cells #[.string ⟨#[]⟩, .slice none 0 0, .slice none 0 0, .int .i64 0] 27 (0, 0)) ∧ w'.heap[w.heap.size + 1]? = some (.cells #[.string name, v, vf, .int .i64 tm] 27 (0, 0)) ∧ (∃ k b t, w'.heap[w.heap.size + 2]? = some (.cells #[.int .i64 k, .int .u64 b, .string t] 53 (0, 0))) ∧ RT w' (w.heap.size + 3) v tags ∧ Below w.heap.size w w' := by
  obtain ⟨k, b, t, h3⟩ := h.val
  have l3 := lt_of_block h3
  have ne : ∀ j, j < w.heap.size + 3 → some j ≠ vf.ownBlock := fun j hj e => by have := (h.rf.lt j e.symm).1; omega
  have al : ∀ j, j < wr.heap.size → (wr.alloc o).heap[j]? = wr.heap[j]? := fun j hj => Below.heap_alloc wr o _ hj
  refine ⟨(hg.block _ (by simp; omega) (ne _ (by omega))).trans ((al _ (by omega)).trans h.res), (hg.block _ (by simp; omega) (ne _ (by omega))).trans ((al _ (by omega)).trans h.row), ⟨k, b, t, (hg.block _ (by simp; omega) (ne _ (by omega))).trans ((al _ (by omega)).trans h3)⟩, ?_, ?_⟩
  · refine (World.ownsRow.alloc h.rt o).kept hg ?_
    cases hv : v.ownBlock with
    | none => exact .inl rfl
    | some g => exact .inr fun e => h.ap g hv e.symm
  · exact (h.bel.alloc h.bel.size o).grown hg (by simp; omega) (fun j hj => by have := (h.rf.lt j hj).1; omega)
theorem PMem.appendF {name : ByteArray} {tags : List Tg} {fields : List Fd} {v vf v1 : Value} {tm : Int} {w wr w' : World} {o : Obj} {p : Fd} {n : Nat} {xs : List Value} (h : PMem name tags fields v vf tm w wr) (hg : (wr.alloc o).grownBy w' vf.ownBlock)
    (hat : v1.ownBlock = vf.ownBlock ∨ v1.ownBlock = some (wr.alloc o).heap.size) (hown : w'.ownsRow (w.heap.size + 3) 64 4 v1 n xs) (hn : n = fields.length + 1) (hx : xs = fields.flatMap encF ++ encF p) :
    PMem name tags (fields ++ [p]) v v1 tm w (w'.setCell ⟨w.heap.size + 1, 2, none⟩ v1) := by
  obtain ⟨f0, f1, ⟨k, b, t, f2⟩, f3, f4⟩ := h.grownF hg
  subst hn hx
  refine ⟨by rw [Below.heap_setCell _ _ _ _ (by simp)]; exact f0, ?_, ⟨k, b, t, ?_⟩, ownsRow_setCell_below f3 (by simp) _, ?_, ?_, f4.setCell (by simp) _⟩
  · rw [heap_setCell_same _ _ _ _ _ _ f1]; rfl
  · rw [Below.heap_setCell _ _ _ _ (by simp)]; exact f2
  · rw [RF, List.length_append, List.flatMap_append]
    exact ownsRow_setCell_below (by simpa using hown) (by simp) _
  · intro g hv e
    rcases hat with h1 | h1
    · rw [h1] at e; exact h.ap g hv e
    · rw [h1] at e
      have := (h.rt.lt g hv).2
      injection e with e
      simp at e
      omega
theorem PMem.setTime {name : ByteArray} {tags : List Tg} {fields : List Fd} {v vf : Value} {tm : Int} {w wr : World} (t : Int) (h : PMem name tags fields v vf tm w wr) : PMem name tags fields v vf t w (wr.setCell ⟨w.heap.size + 1, 3, none⟩ (.int .i64 t)) := by
  obtain ⟨k0, b0, t0, h3⟩ := h.val
  refine ⟨by rw [Below.heap_setCell _ _ _ _ (by simp)]; exact h.res, ?_, ⟨k0, b0, t0, by rw [Below.heap_setCell _ _ _ _ (by simp)]; exact h3⟩, ownsRow_setCell_below h.rt (by simp) _, ownsRow_setCell_below h.rf (by simp) _, h.ap, h.bel.setCell (by simp) _⟩
  rw [heap_setCell_same _ _ _ _ _ _ h.row]; rfl
theorem wp_gen {P : Program} {c : Code} {Q : Exit → Act → World → Prop} {a : Act} {W : World} (R : World → Prop) (h : R W) (k : ∀ w, R w → Code.wp P c Q a w) : Code.wp P c Q a W := k W h
end Go.Proofs.YtagiddbfhlokcaaGreatDoor.Ser
