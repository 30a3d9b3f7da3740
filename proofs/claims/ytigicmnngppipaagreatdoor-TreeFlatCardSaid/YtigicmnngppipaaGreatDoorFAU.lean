/- Several texts of this proof, laid together. Conditions: as each says. -/
import Derived.Test.YtigicmnngppipaaGreatDoorFAT
import Derived.Deep.AppendLies
import Derived.Laws.AppendOwnNone
/- Conditions in memory. No condition. -/
namespace Go.Proofs.YtigicmnngppipaaGreatDoor.Tp
open Go.RowKit Lx
set_option maxRecDepth 100000
def Cd.name : Cd → ByteArray
  | .mk _ n _ _ _ => n
def Cd.sign : Cd → ByteArray
  | .mk _ _ s _ _ => s
def Cd.val : Cd → Val
  | .mk _ _ _ v _ => v
/-- The seven cells of a condition whose parts are in v. -/
def cdCells (c : Cd) (v : Value) : List Value := [.int .i64 c.op, .string c.name, .string c.sign, .int .i64 c.val.1, .int .u64 c.val.2.1, .string c.val.2.2, v]
def flatCells (zs : List (Cd × Value)) : List Value := zs.flatMap fun z => cdCells z.1 z.2
def cdV (c : Cd) (v : Value) : Value := .agg #[.int .i64 c.op, .string c.name, .string c.sign, .int .i64 c.val.1, .int .u64 c.val.2.1, .string c.val.2.2, v]
/-- Conditions in memory, in the blocks D. -/
inductive CdsIs (w : World) (D : Nat → Prop) : Value → List Cd → Prop
  | nil : CdsIs w D (.slice none 0 0) []
  | row (g cap : Nat) (cs : List Cd) (zs : List (Cd × Value)) (hz : zs.map (·.1) = cs) (hD : D g) (hown : w.ownsRow 0 51 7 (.slice (some ⟨g, 0, none⟩) cs.length cap) cs.length (flatCells zs)) (hne : 0 < cs.length) (hp : ∀ z, z ∈ zs → CdsIs w D z.2 z.1.parts) : CdsIs w D (.slice (some ⟨g, 0, none⟩) cs.length cap) cs
def CdIs (w : World) (D : Nat → Prop) (v : Value) (c : Cd) : Prop := ∃ sl, v = cdV c sl ∧ CdsIs w D sl c.parts
theorem owns_heap {w w' : World} {e : TypeId} {g n cap : Nat} {size base : Nat} {xs : List Value} (h : w.ownsRow base e size (.slice (some ⟨g, 0, none⟩) n cap) n xs) (hk : w'.heap[g]? = w.heap[g]?) : w'.ownsRow base e size (.slice (some ⟨g, 0, none⟩) n cap) n xs := by
  refine ⟨h.1, ?_⟩
  rcases h.2 with ⟨h', _⟩ | ⟨g', cap', cur, h', hb, hg, r⟩
  · simp at h'
  · simp only [Value.slice.injEq, Option.some.injEq, Addr.mk.injEq, and_true, true_and] at h'
    obtain ⟨rfl, rfl⟩ := h'
    exact .inr ⟨g, cap, cur, rfl, hb, hk.trans hg, r⟩
theorem owns_base {w : World} {e : TypeId} {size base base' n : Nat} {v : Value} {xs : List Value} (h : w.ownsRow base e size v n xs) (hb : ∀ k, v.ownBlock = some k → base' ≤ k) : w.ownsRow base' e size v n xs := by
  refine ⟨h.1, ?_⟩
  rcases h.2 with hn | ⟨g, cap, cur, rfl, _, r⟩
  · exact .inl hn
  · exact .inr ⟨g, cap, cur, rfl, hb g rfl, r⟩
theorem CdsIs.keep {w w' : World} {D D' : Nat → Prop} {v : Value} {cs : List Cd} (h : CdsIs w D v cs) (hk : ∀ k, D k → k < w.heap.size → w'.heap[k]? = w.heap[k]? ∧ D' k) : CdsIs w' D' v cs := by
  induction h with
  | nil => exact .nil
  | row g cap cs zs hz hD hown hne hp ih =>
    have hl := (hown.lt g rfl).2
    exact .row g cap cs zs hz (hk g hD hl).2 (owns_heap hown (hk g hD hl).1) hne ih
theorem CdIs.keep {w w' : World} {D D' : Nat → Prop} {v : Value} {c : Cd} (h : CdIs w D v c) (hk : ∀ k, D k → k < w.heap.size → w'.heap[k]? = w.heap[k]? ∧ D' k) : CdIs w' D' v c := by
  obtain ⟨sl, h1, h2⟩ := h
  exact ⟨sl, h1, h2.keep hk⟩
theorem flat_len : ∀ zs : List (Cd × Value), (flatCells zs).length = zs.length * 7
  | [] => rfl
  | z :: zs => by
    have := flat_len zs
    simp only [flatCells, List.flatMap_cons, List.length_append, List.length_cons] at this ⊢
    rw [this]
    simp [cdCells]
    omega
theorem flat_app (a b : List (Cd × Value)) : flatCells (a ++ b) = flatCells a ++ flatCells b := List.flatMap_append
theorem flat_at (zs : List (Cd × Value)) (i : Nat) (hi : i < zs.length) (j : Nat) (hj : j < 7) : (flatCells zs)[i * 7 + j]? = (cdCells zs[i].1 zs[i].2)[j]? := by
  have e : zs = zs.take i ++ zs[i] :: zs.drop (i + 1) := by
    rw [← List.drop_eq_getElem_cons hi, List.take_append_drop]
  have e2 : flatCells zs = flatCells (zs.take i) ++ (cdCells zs[i].1 zs[i].2 ++ flatCells (zs.drop (i + 1))) := by
    rw [show cdCells zs[i].1 zs[i].2 ++ flatCells (zs.drop (i + 1)) = flatCells (zs[i] :: zs.drop (i + 1)) from rfl, ← flat_app]
    exact congrArg flatCells e
  have hl : (flatCells (zs.take i)).length = i * 7 := by rw [flat_len, List.length_take, Nat.min_eq_left (Nat.le_of_lt hi)]
  have hc : (cdCells zs[i].1 zs[i].2).length = 7 := rfl
  rw [e2, List.getElem?_append_right (by omega), hl, Nat.add_sub_cancel_left, List.getElem?_append_left (by omega)]
/-- The conditions v, gathered: the row is the owner's, what hangs on it lies elsewhere. -/
structure CdRow (w : World) (B : Nat) (D : Nat → Prop) (v : Value) (cs : List Cd) (zs : List (Cd × Value)) : Prop where
  map : zs.map (·.1) = cs
  ne : cs = [] → v = .slice none 0 0
  own : w.ownsRow B 51 7 v cs.length (flatCells zs)
  parts : ∀ z, z ∈ zs → CdsIs w (fun k => D k ∧ v.ownBlock ≠ some k) z.2 z.1.parts
theorem zs_len {zs : List (Cd × Value)} {cs : List Cd} (h : zs.map (·.1) = cs) : zs.length = cs.length := by rw [← h, List.length_map]
theorem cells_one (c : Cd) (v : Value) (hv : v.oneCell' = true) : ∀ u ∈ cdCells c v, u.oneCell' = true := by
  intro u hu
  simp only [cdCells, List.mem_cons, List.not_mem_nil, or_false] at hu
  rcases hu with rfl | rfl | rfl | rfl | rfl | rfl | rfl <;> first | rfl | exact hv
theorem cds_one {w : World} {D : Nat → Prop} {v : Value} {cs : List Cd} (h : CdsIs w D v cs) : v.oneCell' = true := by
  cases h <;> rfl
theorem flat_one {zs : List (Cd × Value)} (h : ∀ z, z ∈ zs → z.2.oneCell' = true) : ∀ u ∈ flatCells zs, u.oneCell' = true := by
  intro u hu
  obtain ⟨z, hz, hu⟩ := List.mem_flatMap.1 hu
  exact cells_one z.1 z.2 (h z hz) u hu
/-- A row of conditions behind an append. -/
theorem CdRow.append {w w' : World} {B g cap m : Nat} {D : Nat → Prop} {v : Value} {cs cs' : List Cd} {zs zs' : List (Cd × Value)} (h : CdRow w B D v cs zs) (hm : m = cs'.length) (hm0 : 0 < cs'.length) (hz : zs'.map (·.1) = cs')
    (hp : ∀ z, z ∈ zs' → CdsIs w (fun k => D k ∧ v.ownBlock ≠ some k) z.2 z.1.parts)
    (hown : w'.ownsRow B 51 7 (.slice (some ⟨g, 0, none⟩) (cs.length + m) cap) (cs.length + m) (flatCells zs ++ flatCells zs')) (hg : w.grownBy w' v.ownBlock) (hat : v.ownBlock = some g ∨ g = w.heap.size) : CdRow w' B D (.slice (some ⟨g, 0, none⟩) (cs ++ cs').length cap) (cs ++ cs') (zs ++ zs') := by
  subst hm
  refine ⟨by rw [List.map_append, h.map, hz], fun e => absurd e (by intro e; obtain ⟨rfl, rfl⟩ := List.append_eq_nil_iff.1 e; exact absurd hm0 (Nat.lt_irrefl 0)), by rw [flat_app, List.length_append]; exact hown, fun z hz => ?_⟩
  have hk : CdsIs w (fun k => D k ∧ v.ownBlock ≠ some k) z.2 z.1.parts := by
    rcases List.mem_append.1 hz with q | q
    · exact h.parts z q
    · exact hp z q
  refine hk.keep fun k hk hl => ⟨hg.block k hl (fun e => hk.2 e.symm), hk.1, ?_⟩
  intro e
  have e : g = k := by simpa [Value.ownBlock] using e
  subst e
  rcases hat with q | q
  · exact hk.2 q
  · omega
theorem CdRow.nil (w : World) (B : Nat) (D : Nat → Prop) : CdRow w B D (.slice none 0 0) [] [] := ⟨rfl, fun _ => rfl, World.ownsRow_nil _ _ _ _, fun _ hz => absurd hz (List.not_mem_nil)⟩
theorem CdRow.keep {w w' : World} {B : Nat} {D : Nat → Prop} {v : Value} {cs : List Cd} {zs : List (Cd × Value)} (h : CdRow w B D v cs zs) (hk : ∀ k, B ≤ k ∨ D k → k < w.heap.size → w'.heap[k]? = w.heap[k]?) : CdRow w' B D v cs zs := by
  refine ⟨h.map, h.ne, ?_, fun z hz => (h.parts z hz).keep fun k hk' hl => ⟨hk k (.inr hk'.1) hl, hk'⟩⟩
  refine ⟨h.own.1, ?_⟩
  rcases h.own.2 with hn | ⟨g, cap, cur, rfl, hb, hg, r⟩
  · exact .inl hn
  · exact .inr ⟨g, cap, cur, rfl, hb, (hk g (.inl hb) (Array.getElem?_eq_some_iff.1 hg).1).trans hg, r⟩
theorem CdRow.later {w w' : World} {B : Nat} {D : Nat → Prop} {v : Value} {cs : List Cd} {zs : List (Cd × Value)} (h : CdRow w B D v cs zs) (hk : Below w.heap.size w w') : CdRow w' B D v cs zs := h.keep fun k _ hl => hk.block k hl
theorem CdRow.done {w : World} {B : Nat} {D : Nat → Prop} {v : Value} {cs : List Cd} {zs : List (Cd × Value)} (h : CdRow w B D v cs zs) (D' : Nat → Prop) (hD : ∀ k, B ≤ k ∨ D k → k < w.heap.size → D' k) : CdsIs w D' v cs := by
  rcases Nat.eq_zero_or_pos cs.length with h0 | h0
  · have : cs = [] := List.length_eq_zero_iff.1 h0
    subst this
    rw [h.ne rfl]
    exact .nil
  · obtain ⟨g, cap, rfl, hb, hl⟩ := h.own.form h0
    exact .row g cap cs zs h.map (hD g (.inl hb) hl) (owns_base h.own fun k _ => Nat.zero_le _) h0 fun z hz => (h.parts z hz).keep fun k hk hl => ⟨rfl, hD k (.inr hk.1) hl⟩
theorem CdsIs.row_of {w : World} {D : Nat → Prop} {v : Value} {cs : List Cd} (h : CdsIs w D v cs) : (v = .slice none 0 0 ∧ cs = []) ∨ ∃ g cap zs, v = .slice (some ⟨g, 0, none⟩) cs.length cap ∧ zs.map (·.1) = cs ∧ D g ∧ w.ownsRow 0 51 7 v cs.length (flatCells zs) ∧ 0 < cs.length ∧ ∀ z, z ∈ zs → CdsIs w D z.2 z.1.parts := by
  cases h with
  | nil => exact .inl ⟨rfl, rfl⟩
  | row g cap cs zs hz hD hown hne hp => exact .inr ⟨g, cap, zs, rfl, hz, hD, hown, hne, hp⟩
theorem cds_slice {w : World} {D : Nat → Prop} {v : Value} {cs : List Cd} (h : CdsIs w D v cs) : ∃ a c, v = .slice a cs.length c := by
  cases h with
  | nil => exact ⟨none, 0, rfl⟩
  | row g cap => exact ⟨_, cap, rfl⟩
/-- A condition's block overwritten. -/
def put7 (w : World) (B : Nat) (a b c d e f g : Value) : World := ((((((w.setCell ⟨B, 0, none⟩ a).setCell ⟨B, 1, none⟩ b).setCell ⟨B, 2, none⟩ c).setCell ⟨B, 3, none⟩ d).setCell ⟨B, 4, none⟩ e).setCell ⟨B, 5, none⟩ f).setCell ⟨B, 6, none⟩ g
theorem put7_heap {w : World} {B : Nat} {T : TypeId} {a b c d e f g : Value} (h : w.heap[B]? = some (.cells #[a, b, c, d, e, f, g] T (0, 0))) (a' b' c' d' e' f' g' : Value) : (put7 w B a' b' c' d' e' f' g').heap[B]? = some (.cells #[a', b', c', d', e', f', g'] T (0, 0)) := by
  have h1 : (w.setCell ⟨B, 0, none⟩ a').heap[B]? = some (.cells #[a', b, c, d, e, f, g] T (0, 0)) := heap_setCell_same _ B 0 _ _ a' h
  have h2 : ((w.setCell ⟨B, 0, none⟩ a').setCell ⟨B, 1, none⟩ b').heap[B]? = some (.cells #[a', b', c, d, e, f, g] T (0, 0)) := heap_setCell_same _ B 1 _ _ b' h1
  have h3 : (((w.setCell ⟨B, 0, none⟩ a').setCell ⟨B, 1, none⟩ b').setCell ⟨B, 2, none⟩ c').heap[B]? = some (.cells #[a', b', c', d, e, f, g] T (0, 0)) := heap_setCell_same _ B 2 _ _ c' h2
  have h4 : ((((w.setCell ⟨B, 0, none⟩ a').setCell ⟨B, 1, none⟩ b').setCell ⟨B, 2, none⟩ c').setCell ⟨B, 3, none⟩ d').heap[B]? = some (.cells #[a', b', c', d', e, f, g] T (0, 0)) := heap_setCell_same _ B 3 _ _ d' h3
  have h5 : (((((w.setCell ⟨B, 0, none⟩ a').setCell ⟨B, 1, none⟩ b').setCell ⟨B, 2, none⟩ c').setCell ⟨B, 3, none⟩ d').setCell ⟨B, 4, none⟩ e').heap[B]? = some (.cells #[a', b', c', d', e', f, g] T (0, 0)) := heap_setCell_same _ B 4 _ _ e' h4
  have h6 : ((((((w.setCell ⟨B, 0, none⟩ a').setCell ⟨B, 1, none⟩ b').setCell ⟨B, 2, none⟩ c').setCell ⟨B, 3, none⟩ d').setCell ⟨B, 4, none⟩ e').setCell ⟨B, 5, none⟩ f').heap[B]? = some (.cells #[a', b', c', d', e', f', g] T (0, 0)) := heap_setCell_same _ B 5 _ _ f' h5
  have h7 : (((((((w.setCell ⟨B, 0, none⟩ a').setCell ⟨B, 1, none⟩ b').setCell ⟨B, 2, none⟩ c').setCell ⟨B, 3, none⟩ d').setCell ⟨B, 4, none⟩ e').setCell ⟨B, 5, none⟩ f').setCell ⟨B, 6, none⟩ g').heap[B]? = some (.cells #[a', b', c', d', e', f', g'] T (0, 0)) := heap_setCell_same _ B 6 _ _ g' h6
  exact h7
theorem put7_below {X : Nat} {a w : World} (h : Below X a w) {B : Nat} (hB : X ≤ B) (x0 x1 x2 x3 x4 x5 x6 : Value) : Below X a (put7 w B x0 x1 x2 x3 x4 x5 x6) :=
  ((((((h.setCell hB _).setCell hB _).setCell hB _).setCell hB _).setCell hB _).setCell hB _).setCell hB _
theorem put7_far {w : World} {B k : Nat} (hk : k ≠ B) (x0 x1 x2 x3 x4 x5 x6 : Value) : (put7 w B x0 x1 x2 x3 x4 x5 x6).heap[k]? = w.heap[k]? := by
  unfold put7
  rw [heap_setCell_other _ _ _ _ hk, heap_setCell_other _ _ _ _ hk, heap_setCell_other _ _ _ _ hk, heap_setCell_other _ _ _ _ hk, heap_setCell_other _ _ _ _ hk, heap_setCell_other _ _ _ _ hk, heap_setCell_other _ _ _ _ hk]
end Go.Proofs.YtigicmnngppipaaGreatDoor.Tp
/- Conditions joined, by the program. No condition. -/
namespace Go.Proofs.YtigicmnngppipaaGreatDoor.Tp
open Go.RowKit Lx
set_option maxRecDepth 100000
theorem info51 : ((Tryz.prog.info? 51).map fun i => (i.zero, i.size, i.bytes)) = some (some (.agg #[.int .i64 0, .string ⟨#[]⟩, .string ⟨#[]⟩, .int .i64 0, .int .u64 0, .string ⟨#[]⟩, .slice none 0 0]), 7, 96) := by kernel_rfl
theorem flat_next {op : Int} {cs : List Cd} {k : Nat} {c : Cd} (h : cs[k]? = some c) : flatC op (cs.take (k + 1)) = flatC op (cs.take k) ++ (if c.op = op then c.parts else [c]) := by
  obtain ⟨hk, e⟩ := List.getElem?_eq_some_iff.1 h
  rw [List.take_succ_eq_append_getElem hk, e]
  simp [flatC, List.flatMap_append]
theorem flat_le (op : Int) (cs : List Cd) (k : Nat) : (flatC op (cs.take k)).length ≤ (flatC op cs).length := by
  conv => rhs; rw [← List.take_append_drop k cs]
  unfold flatC
  rw [List.flatMap_append, List.length_append]
  omega
theorem flat_cell {w wr : World} {g cap : Nat} {cs : List Cd} {zs : List (Cd × Value)} {k : Nat} {z : Cd × Value} (ho : w.ownsRow 0 51 7 (.slice (some ⟨g, 0, none⟩) cs.length cap) cs.length (flatCells zs)) (hz : zs.map (·.1) = cs) (hk : zs[k]? = some z) (hb : Below w.heap.size w wr) (hg : g < w.heap.size) : ∀ j u, (cdCells z.1 z.2)[j]? = some u → wr.cell? ⟨g, k * 7 + j, none⟩ = some u := by
  intro j u hj
  obtain ⟨hkl, e⟩ := List.getElem?_eq_some_iff.1 hk
  have hj7 : j < 7 := (List.getElem?_eq_some_iff.1 hj).1
  have hl : zs.length = cs.length := zs_len hz
  rw [World.cell?_of_block (w := w) (a := ⟨g, k * 7 + j, none⟩) (hb.block g hg), ho.cellAt (k * 7 + j) (by omega), flat_at zs k hkl j hj7, e]
  exact hj
theorem owns_later {w wr : World} {g n cap : Nat} {xs : List Value} (ho : w.ownsRow 0 51 7 (.slice (some ⟨g, 0, none⟩) n cap) n xs) (hb : Below w.heap.size w wr) : wr.ownsRow 0 51 7 (.slice (some ⟨g, 0, none⟩) n cap) n xs := owns_heap ho (hb.block g (ho.lt g rfl).2)
def cdJ (op : Int) (ls : List Cd) : Cd := match ls with
  | [c] => c
  | l => .mk op ⟨#[]⟩ ⟨#[]⟩ val0 l
structure InJ (op : Int) (cs : List Cd) (D : Nat → Prop) (w : World) (lv i : Value) (wr : World) (k : Nat) (ls : List Cd) (zs : List (Cd × Value)) : Prop where
  hk : k ≤ cs.length
  hi : i = .int .i64 (k : Int)
  hls : flatC op (cs.take k) = ls
  row : CdRow wr (w.heap.size + 1) (fun j => D j ∧ j < w.heap.size) lv ls zs
  bel : Below w.heap.size w wr
  res : wr.heap[w.heap.size]? = some (.cells (cdCells cd0 (.slice none 0 0)).toArray 51 (0, 0))
theorem info51s : (Tryz.prog.info? 51).map (·.size) = some 7 := by kernel_rfl
theorem InJ.next {op : Int} {cs : List Cd} {D : Nat → Prop} {w wr w5 w' : World} {lv iv : Value} {k : Nat} {ls cs' : List Cd} {zs zs' : List (Cd × Value)} {g cap m : Nat} {c : Cd} (h : InJ op cs D w lv iv wr k ls zs) (hc : cs[k]? = some c) (hb : Below wr.heap.size wr w5)
    (hm : m = cs'.length) (hm0 : 0 < cs'.length) (hz : zs'.map (·.1) = cs') (hp : ∀ z, z ∈ zs' → CdsIs w D z.2 z.1.parts) (he : (if c.op = op then c.parts else [c]) = cs')
    (hown : w'.ownsRow (w.heap.size + 1) 51 7 (.slice (some ⟨g, 0, none⟩) (ls.length + m) cap) (ls.length + m) (flatCells zs ++ flatCells zs')) (hg : w5.grownBy w' lv.ownBlock) (hat : lv.ownBlock = some g ∨ g = w5.heap.size) :
    InJ op cs D w (.slice (some ⟨g, 0, none⟩) (ls.length + m) cap) (.int .i64 ((k + 1 : Nat) : Int)) w' (k + 1) (ls ++ cs') (zs ++ zs') := by
  have hlt : w.heap.size < wr.heap.size := lt_of_block h.res
  have hb5 := h.bel.trans (hb.mono h.bel.size)
  have hl : ∀ j, lv.ownBlock = some j → w.heap.size + 1 ≤ j := fun j hj => (h.row.own.lt j hj).1
  refine ⟨(List.getElem?_eq_some_iff.1 hc).1, rfl, ?_, ?_, hb5.grown hg (by have := h.bel.size; have := hb.size; omega) (fun j hj => by have := hl j hj; omega), ?_⟩
  · rw [flat_next hc, h.hls, he]
  · have hr := (h.row.later hb).append (w' := w') (g := g) (cap := cap) hm hm0 hz (fun z hzm => (hp z hzm).keep fun j hj hjl => ⟨hb5.block j hjl, ⟨hj, hjl⟩, fun e => by have := hl j e; omega⟩) hown hg hat
    rw [List.length_append, ← hm] at hr
    exact hr
  · refine (hg.block _ (by have := hb.size; omega) (fun e => by have := hl _ e.symm; omega)).trans ?_
    exact (hb.block _ hlt).trans h.res
theorem InJ.skip {op : Int} {cs : List Cd} {D : Nat → Prop} {w wr w5 : World} {lv iv : Value} {k : Nat} {ls : List Cd} {zs : List (Cd × Value)} {c : Cd} (h : InJ op cs D w lv iv wr k ls zs) (hc : cs[k]? = some c) (hb : Below wr.heap.size wr w5) (he : (if c.op = op then c.parts else [c]) = []) :
    InJ op cs D w lv (.int .i64 ((k + 1 : Nat) : Int)) w5 (k + 1) ls zs :=
  ⟨(List.getElem?_eq_some_iff.1 hc).1, rfl, by rw [flat_next hc, h.hls, he, List.append_nil], h.row.later hb, h.bel.trans (hb.mono h.bel.size), (hb.block _ (lt_of_block h.res)).trans h.res⟩
theorem InJ.fin {op : Int} {cs : List Cd} {D : Nat → Prop} {w wr : World} {lv iv : Value} {k : Nat} {ls : List Cd} {zs : List (Cd × Value)} (h : InJ op cs D w lv iv wr k ls zs) (hk : k = cs.length) : joinC op cs = cdJ op ls := by
  have := h.hls
  rw [hk, List.take_length] at this
  rw [← this]
  rfl
set_option maxHeartbeats 4000000 in
theorem join_115 (op : Int) (v : Value) (cs : List Cd) (D : Nat → Prop) (w : World) (hc : CdsIs w D v cs) (hn : 0 < cs.length) (hn2 : cs.length ≤ 70000) (hf : (flatC op cs).length ≤ 70000) :
    Calls Tryz.prog 115 #[.int .i64 op, v] w fun e w' => ∃ cv, e = .returned cv ∧ Below w.heap.size w w' ∧ CdIs w' (fun k => D k ∨ w.heap.size ≤ k) cv (joinC op cs) := by
  rcases hc.row_of with ⟨_, q⟩ | ⟨g, cap, zs, rfl, hz, hD, hown, _, hp⟩
  · subst q; exact absurd hn (Nat.lt_irrefl 0)
  obtain ⟨i0, hi, hz0, hz1, hz2⟩ := info_parts info51
  have HI := Lib.hid hi
  have HZ0 := Lib.hid hz0
  have HZ1 := Lib.hid hz1
  have HZ2 := Lib.hid hz2
  have HO := Lib.hid hown
  have HP := Lib.hid hp
  have HN2 := Lib.hid hn2
  have HF := Lib.hid hf
  have HZ := Lib.hid hz
  have hgl := (hown.lt g rfl).2
  have HGL := Lib.hid hgl
  have HDG := Lib.hid hD
  obtain ⟨n, hln⟩ : ∃ n, cs.length = n := ⟨_, rfl⟩
  rw [hln]
  have HLN := Lib.hid hln
  clear hi hz0 hz1 hz2 hown hp hn2 hf hz hgl hD hc hln
  go_enter Tryz.func115, Tryz.ntmps115
  go_wp2_with fail
  go_loopw [5, 10] (fun lv i wr => ∃ k ls zs, InJ op cs D w lv i wr k ls zs) (fun _ i _ => n - (intOf i).toNat)
  case atStart =>
    refine ⟨0, [], [], Nat.zero_le _, rfl, rfl, CdRow.nil _ _ _, (Below.refl _ _).alloc (Nat.le_refl _) _, heap_alloc_new w _⟩
  case round =>
    obtain ⟨k, ls, zs', hin⟩ := hrel
    obtain ⟨a0, cap0, hlv⟩ := cds_slice (hin.row.done (fun _ => True) fun _ _ _ => trivial)
    obtain rfl := hlv
    obtain rfl := hin.hi
    have hk := hin.hk
    have HIN := Lib.hid hin
    have hlr := lt_of_block hin.res
    have HLR := Lib.hid hlr
    clear hin hlr
    by_cases hkn : k = n
    · have hlt : ¬ (k : Int) < (n : Int) := by omega
      have HFIN := Lib.hid (HIN.out.fin (hkn.trans HLN.out.symm))
      have q0 : wr.cell? ⟨w.heap.size, 0, none⟩ = some (.int .i64 0) := Lib.cell_of_heap HIN.out.res 0
      have q1 : wr.cell? ⟨w.heap.size, 1, none⟩ = some (.string ⟨#[]⟩) := Lib.cell_of_heap HIN.out.res 1
      have q2 : wr.cell? ⟨w.heap.size, 2, none⟩ = some (.string ⟨#[]⟩) := Lib.cell_of_heap HIN.out.res 2
      have q3 : wr.cell? ⟨w.heap.size, 3, none⟩ = some (.int .i64 0) := Lib.cell_of_heap HIN.out.res 3
      have q4 : wr.cell? ⟨w.heap.size, 4, none⟩ = some (.int .u64 0) := Lib.cell_of_heap HIN.out.res 4
      have q5 : wr.cell? ⟨w.heap.size, 5, none⟩ = some (.string ⟨#[]⟩) := Lib.cell_of_heap HIN.out.res 5
      have q6 : wr.cell? ⟨w.heap.size, 6, none⟩ = some (.slice none 0 0) := Lib.cell_of_heap HIN.out.res 6
      have f0 : wr.frozen? ⟨w.heap.size, 0, none⟩ = false := Lib.frozen_of_heap HIN.out.res 0
      have f1 : wr.frozen? ⟨w.heap.size, 1, none⟩ = false := Lib.frozen_of_heap HIN.out.res 1
      have f2 : wr.frozen? ⟨w.heap.size, 2, none⟩ = false := Lib.frozen_of_heap HIN.out.res 2
      have f3 : wr.frozen? ⟨w.heap.size, 3, none⟩ = false := Lib.frozen_of_heap HIN.out.res 3
      have f4 : wr.frozen? ⟨w.heap.size, 4, none⟩ = false := Lib.frozen_of_heap HIN.out.res 4
      have f5 : wr.frozen? ⟨w.heap.size, 5, none⟩ = false := Lib.frozen_of_heap HIN.out.res 5
      have f6 : wr.frozen? ⟨w.heap.size, 6, none⟩ = false := Lib.frozen_of_heap HIN.out.res 6
      clear hkn hk
      by_cases h1 : ls.length = 1
      · obtain ⟨c, rfl⟩ := List.length_eq_one_iff.1 h1
        obtain ⟨z, rfl⟩ : ∃ z, zs' = [z] := List.length_eq_one_iff.1 (zs_len HIN.out.row.map)
        have hzc : z.1 = c := by have := HIN.out.row.map; simpa using this
        obtain ⟨⟨zop, zn, zsg, ⟨zk, zb, zt⟩, zp⟩, zv⟩ := z
        subst hzc
        have hprt := HIN.out.row.parts _ (List.mem_singleton.2 rfl)
        obtain ⟨za, zc, hzv⟩ := cds_slice hprt
        simp only [Cd.parts] at hzv
        subst hzv
        have HPRT := Lib.hid hprt
        have hown := HIN.out.row.own
        obtain ⟨gl, capl, hv, _, _⟩ := hown.form (Nat.zero_lt_one)
        injection hv with hv1 hv2 hv3
        subst hv1
        subst hv3
        have hgl := (hown.lt gl rfl).1
        have d0 : wr.cell? ⟨gl, 0, none⟩ = some (.int .i64 zop) := hown.cellAt 0 (by show 0 < 1 * 7; decide)
        have d1 : wr.cell? ⟨gl, 1, none⟩ = some (.string zn) := hown.cellAt 1 (by show 1 < 1 * 7; decide)
        have d2 : wr.cell? ⟨gl, 2, none⟩ = some (.string zsg) := hown.cellAt 2 (by show 2 < 1 * 7; decide)
        have d3 : wr.cell? ⟨gl, 3, none⟩ = some (.int .i64 zk) := hown.cellAt 3 (by show 3 < 1 * 7; decide)
        have d4 : wr.cell? ⟨gl, 4, none⟩ = some (.int .u64 zb) := hown.cellAt 4 (by show 4 < 1 * 7; decide)
        have d5 : wr.cell? ⟨gl, 5, none⟩ = some (.string zt) := hown.cellAt 5 (by show 5 < 1 * 7; decide)
        have d6 : wr.cell? ⟨gl, 6, none⟩ = some (.slice za zp.length zc) := hown.cellAt 6 (by show 6 < 1 * 7; decide)
        have hgne : gl ≠ w.heap.size := by omega
        clear hown h1 hprt
        go_wp2_with fail
        refine bodyPost_ret (results_cell_row rfl _ _ w.heap.size 51 _ (0, 0) _ rfl (put7_heap HIN.out.res _ _ _ _ _ _ _) Tryz.underlying51 (by kernel_rfl) info51s) rfl ?_
        refine ⟨_, rfl, put7_below HIN.out.bel (Nat.le_refl _) _ _ _ _ _ _ _, ?_⟩
        rw [HFIN.out]
        exact ⟨_, rfl, HPRT.out.keep fun j hj hjl => ⟨put7_far (by have := hj.1.2; omega) _ _ _ _ _ _ _, .inl hj.1.1⟩⟩
      · have h1b : ((ls.length : Int) == 1) = false := by simp; omega
        have HJ : Hid (joinC op cs = .mk op ⟨#[]⟩ ⟨#[]⟩ val0 ls) := Lib.hid (by
          rw [HFIN.out]
          unfold cdJ
          split
          · exact absurd rfl h1
          · rfl)
        clear h1
        go_wp2_with fail
        refine bodyPost_ret (results_cell_row rfl _ _ w.heap.size 51 _ (0, 0) _ rfl (put7_heap HIN.out.res _ _ _ _ _ _ _) Tryz.underlying51 (by kernel_rfl) info51s) rfl ?_
        refine ⟨_, rfl, put7_below HIN.out.bel (Nat.le_refl _) _ _ _ _ _ _ _, ?_⟩
        rw [HJ.out]
        exact ⟨_, rfl, (HIN.out.row.done (fun j => w.heap.size + 1 ≤ j ∨ (D j ∧ j < w.heap.size)) fun j hj _ => hj).keep fun j hj hjl => ⟨put7_far (hj.elim (fun q => by omega) (fun q => by have := q.2; omega)) _ _ _ _ _ _ _, hj.elim (fun q => .inr (by omega)) (fun q => .inl q.1)⟩⟩
    · have hlt : (k : Int) < (n : Int) := by have := HLN.out; omega
      have hkz : k < zs.length := by rw [zs_len HZ.out, HLN.out]; have := HLN.out; omega
      obtain ⟨z, hzk⟩ : ∃ z, zs[k]? = some z := ⟨_, List.getElem?_eq_getElem hkz⟩
      have HC := Lib.hid (flat_cell HO.out HZ.out hzk HIN.out.bel HGL.out)
      have HPZ := Lib.hid (HP.out z (List.mem_of_getElem? hzk))
      have HCK : Hid (cs[k]? = some z.1) := Lib.hid (by rw [← HZ.out, List.getElem?_map, hzk]; rfl)
      obtain ⟨⟨zop, zn, zsg, ⟨zk, zb, zt⟩, zp⟩, zv⟩ := z
      have d0 := HC.out 0 _ rfl
      have d1 := HC.out 1 _ rfl
      have d2 := HC.out 2 _ rfl
      have d3 := HC.out 3 _ rfl
      have d4 := HC.out 4 _ rfl
      have d5 := HC.out 5 _ rfl
      have hcase := HPZ.out.row_of
      have hfl := HF.out
      have hfn := flat_le op cs (k + 1)
      rw [flat_next HCK.out, HIN.out.hls, List.length_append] at hfn
      have HKB : Hid (k < n) := Lib.hid (by have := HLN.out; omega)
      by_cases hop : zop = op
      · have hopb : (zop == op) = true := by simp [hop]
        rw [if_pos (show (Cd.mk zop zn zsg (zk, zb, zt) zp).op = op from hop)] at hfn
        have HE : Hid ((if (Cd.mk zop zn zsg (zk, zb, zt) zp).op = op then (Cd.mk zop zn zsg (zk, zb, zt) zp).parts else [Cd.mk zop zn zsg (zk, zb, zt) zp]) = zp) := Lib.hid (by rw [if_pos (show (Cd.mk zop zn zsg (zk, zb, zt) zp).op = op from hop)]; rfl)
        simp only [Cd.parts] at hfn
        rcases hcase with ⟨hv, hnil⟩ | ⟨g2, cap2, zs2, hv, hz2, hD2, hown2, hne2, hp2⟩
        · simp only [Cd.parts] at hv hnil
          subst hv
          subst hnil
          have d6 := HC.out 6 _ rfl
          simp only [Cd.op, Cd.name, Cd.sign, Cd.val, Nat.add_zero] at d0 d1 d2 d3 d4 d5 d6
          clear hkz hkn hzk hk hop hfl hfn
          have hrow := fun o => HIN.out.row.own.alloc o
          go_wp2_with ((at_builtin; go_must (refine wpList_append_own_none rfl (.tmp 18) (.tmp 20) 24 rfl (w.heap.size + 1) 51 i0 7 Tryz.underlying24 HI.out _ ls.length _ rfl (hrow _) rfl ?_)))
          have w1 : wrap64 ((k : Int) + 1) = ((k + 1 : Nat) : Int) := by have := HKB.out; have := HN2.out; have := HLN.out; unfold wrap64; omega
          rw [w1]
          refine ⟨⟨k + 1, _, _, HIN.out.skip HCK.out ((Below.refl _ _).alloc (Nat.le_refl _) _) HE.out⟩, by have := HKB.out; simp [intOf]; omega⟩
        · simp only [Cd.parts] at hv hz2 hown2 hne2 hp2
          subst hv
          have d6 := HC.out 6 _ rfl
          simp only [Cd.op, Cd.name, Cd.sign, Cd.val, Nat.add_zero] at d0 d1 d2 d3 d4 d5 d6
          have HOW2 := Lib.hid hown2
          have HP2 := Lib.hid hp2
          have HZ2' := Lib.hid hz2
          have HNE2 := Lib.hid hne2
          have hN2 : Hid (ls.length + zp.length ≤ 70000) := Lib.hid (by omega)
          clear hkz hkn hzk hk hop hfl hfn hown2 hp2 hz2 hne2 hD2
          have hnews : ∀ (o : Obj) j u, (flatCells zs2)[j]? = some u → (wr.alloc o).cell? ((⟨g2, 0, none⟩ : Addr).add j) = some u := fun o j u hu => ((owns_later HOW2.out HIN.out.bel).alloc o).cells rfl j u hu
          have hbs : wr.heap.size + 1 = wr.heap.size + 1 := rfl
          have hm1 : ls.length + zp.length ≤ maxLen := by have := hN2.out; unfold maxLen; omega
          have hm2 : (ls.length + zp.length) * 96 ≤ 140737488355328 := by have := hN2.out; omega
          have hrow := fun o => HIN.out.row.own.alloc o
          have hfl2 : (flatCells zs2).length = zp.length * 7 := by rw [flat_len, zs_len HZ2'.out]
          have hone := flat_one fun z hz => cds_one (HP2.out z hz)
          have hne2 := HNE2.out
          have hlr := HLR.out
          go_wp2_with ((at_builtin; go_must (refine wpList_append_lies _ rfl (.tmp 18) (.tmp 20) 24 rfl (w.heap.size + 1) 51 i0 _ 7 96 Tryz.underlying24 HI.out HZ0.out HZ1.out HZ2.out rfl (by omega) _ ls.length _ rfl (hrow _) ⟨g2, 0, none⟩ zp.length cap2 (flatCells zs2) rfl hfl2 (hnews _) hone hne2 hm1 hm2 (by simp; omega) (wr.heap.size + 1) (by simp) ?_); intro g3 cap3 w6 hown3 hgrow3 hat3 hlt3; have HOW3 := Lib.hid hown3; have HGR3 := Lib.hid hgrow3; have HAT3 := Lib.hid hat3; clear hown3 hgrow3 hat3 hlt3))
          have w1 : wrap64 ((k : Int) + 1) = ((k + 1 : Nat) : Int) := by have := HKB.out; have := HN2.out; have := HLN.out; unfold wrap64; omega
          rw [w1]
          refine ⟨⟨k + 1, _, _, HIN.out.next HCK.out ((Below.refl _ _).alloc (Nat.le_refl _) _) rfl hne2 HZ2'.out HP2.out HE.out HOW3.out HGR3.out (HAT3.out.elim (fun e => .inl e) (fun e => .inr (e.trans (by simp))))⟩, by have := HKB.out; simp [intOf]; omega⟩
      · have hopb : (zop == op) = false := by simp [hop]
        rw [if_neg (show ¬ (Cd.mk zop zn zsg (zk, zb, zt) zp).op = op from hop)] at hfn
        have HE : Hid ((if (Cd.mk zop zn zsg (zk, zb, zt) zp).op = op then (Cd.mk zop zn zsg (zk, zb, zt) zp).parts else [Cd.mk zop zn zsg (zk, zb, zt) zp]) = [Cd.mk zop zn zsg (zk, zb, zt) zp]) := Lib.hid (by rw [if_neg (show ¬ (Cd.mk zop zn zsg (zk, zb, zt) zp).op = op from hop)])
        obtain ⟨za, zc, hzv⟩ := cds_slice HPZ.out
        simp only [Cd.parts] at hzv
        subst hzv
        have d6 := HC.out 6 _ rfl
        simp only [Cd.op, Cd.name, Cd.sign, Cd.val, Nat.add_zero] at d0 d1 d2 d3 d4 d5 d6
        simp only [List.length_singleton] at hfn
        have hN2 : Hid (ls.length + 1 ≤ 70000) := Lib.hid (by omega)
        have hm1 : ls.length + 1 ≤ maxLen := by have := hN2.out; unfold maxLen; omega
        have hm2 : (ls.length + 1) * 96 ≤ 140737488355328 := by have := hN2.out; omega
        have hrow := fun o => HIN.out.row.own.alloc o
        have hlr := HLR.out
        clear hkz hkn hzk hk hop hfl hfn hcase
        go_wp2_with ((at_builtin; go_must (refine wpList_append_lies _ rfl (.tmp 22) (.tmp 24) 24 rfl (w.heap.size + 1) 51 i0 _ 7 96 Tryz.underlying24 HI.out HZ0.out HZ1.out HZ2.out rfl (by omega) _ ls.length _ rfl ((hrow _).alloc _) ⟨wr.heap.size + 1, 0, none⟩ 1 1 [.int .i64 zop, .string zn, .string zsg, .int .i64 zk, .int .u64 zb, .string zt, .slice za zp.length zc] rfl rfl (World.news_of_block (cs := #[.int .i64 zop, .string zn, .string zsg, .int .i64 zk, .int .u64 zb, .string zt, .slice za zp.length zc]) (t := 51) (fr := (0, 0)) (by rw [show wr.heap.size + 1 = (wr.alloc (.cells #[.int .i64 zop, .string zn, .string zsg, .int .i64 zk, .int .u64 zb, .string zt, .slice za zp.length zc] 51)).heap.size by simp]; exact heap_alloc_new _ _)) (by simp [Value.oneCell']) (Nat.zero_lt_one) hm1 hm2 (by simp; omega) (wr.heap.size + 2) (by simp) ?_); intro g3 cap3 w6 hown3 hgrow3 hat3 hlt3; have HOW3 := Lib.hid hown3; have HGR3 := Lib.hid hgrow3; have HAT3 := Lib.hid hat3; clear hown3 hgrow3 hat3 hlt3))
        have w1 : wrap64 ((k : Int) + 1) = ((k + 1 : Nat) : Int) := by have := HKB.out; have := HN2.out; have := HLN.out; unfold wrap64; omega
        rw [w1]
        refine ⟨⟨k + 1, _, _, HIN.out.next (zs' := [(Cd.mk zop zn zsg (zk, zb, zt) zp, .slice za zp.length zc)]) (cs' := [Cd.mk zop zn zsg (zk, zb, zt) zp]) HCK.out (((Below.refl _ _).alloc (Nat.le_refl _) _).alloc (by simp) _) rfl (Nat.zero_lt_one) rfl (fun z hz => by rw [List.mem_singleton] at hz; subst hz; exact HPZ.out) HE.out HOW3.out HGR3.out (HAT3.out.elim (fun e => .inl e) (fun e => .inr (e.trans (by simp))))⟩, by have := HKB.out; simp [intOf]; omega⟩
end Go.Proofs.YtigicmnngppipaaGreatDoor.Tp
