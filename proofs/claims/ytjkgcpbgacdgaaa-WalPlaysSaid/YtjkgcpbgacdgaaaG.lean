/- An append onto a loose row as a step of a region; a new file in its place. No condition but Go's own on a slice's length. -/
import Derived.Test.YtjkgcpbgacdgaaaF
import Derived.Deep.RegionLaw
namespace Go.Proofs.Ytjkgcpbgacdgaaa
open Go.RowKit
/-- Where a slice's cells lie in a world. -/
def Src (w : World) (src : Value) (news : List Value) : Prop :=
  (src = .slice none 0 0 ∧ news = []) ∨ ∃ ad c, src = .slice (some ad) news.length c ∧ (∀ j u, news[j]? = some u → w.cell? (ad.add j) = some u) ∧ ∀ u ∈ news, u.oneCell' = true
theorem run_append_lo {P : Program} (w : World) (t ty e : TypeId) (i : TypeInfo) (z : Value) (ht : P.underlying t = some (.slice e)) (hi : P.info? e = some i) (hz : i.zero = some z)
    (hsize : i.size = 1) (hby : i.bytes = 1) (hzs : z.cells.size = 1) (v : Value) (xs : List Value) (hown : Loose w e v xs) (src : Value) (news : List Value) (hs : Src w src news) (hb : xs.length + news.length ≤ 140737488355328) :
    ∃ v' w', (Builtin.append_ #[t, t] ty #[v, src]).run P w = .ok v' w' ∧ Loose w' e v' (xs ++ news) ∧ w.grownBy w' v.ownBlock ∧ (v'.ownBlock = v.ownBlock ∨ v'.ownBlock = some w.heap.size) := by
  rcases hs with ⟨rfl, rfl⟩ | ⟨ad, c, rfl, h1, h2⟩
  · refine ⟨v, w, ?_, by rw [List.append_nil]; exact hown, ⟨rfl, rfl, rfl, Nat.le_refl _, fun _ _ _ => rfl⟩, .inl rfl⟩
    rcases hown with ⟨rfl, rfl⟩ | ⟨g, cap, cur, rfl, _, hnc, _⟩
    · simp [Builtin.append_, run_underlying ht, sizeOf, typeInfo, hi, Builtin.lenOf, Builtin.firstCells]
    · simp [Builtin.append_, run_underlying ht, sizeOf, typeInfo, hi, Builtin.lenOf, Builtin.firstCells, hnc, storeCells]
  · exact run_append_loose w t ty e i z ht hi hz hsize hzs v xs hown ad news.length c news rfl h1 h2 (by unfold maxLen; omega) (by rw [hby]; omega)
theorem wp_append_lo {P : Program} (w : World) {o : Oper} {a : Act} {K : Act → World → Prop} {Q : Exit → Act → World → Prop} (s x : Operand) (t : TypeId)
    (ho : o.op = .call { callee := .builtin .append, args := #[s, x], argTypes := #[t, t] }) (e : TypeId) (i : TypeInfo) (z : Value) (ht : P.underlying t = some (.slice e)) (hi : P.info? e = some i) (hz : i.zero = some z)
    (hsize : i.size = 1) (hby : i.bytes = 1) (hzs : z.cells.size = 1) (v : Value) (xs : List Value) (hsv : a.eval s = v) (hown : Loose w e v xs) (src : Value) (news : List Value) (hx : a.eval x = src) (hs : Src w src news) (hb : xs.length + news.length ≤ 140737488355328)
    (h : ∀ v' w', Loose w' e v' (xs ++ news) → w.grownBy w' v.ownBlock → (v'.ownBlock = v.ownBlock ∨ v'.ownBlock = some w.heap.size) → K (a.put o.dst v') w') : o.wp P a w K Q := by
  obtain ⟨v', w', hr, h2, h3, h4⟩ := run_append_lo (P := P) w t o.type e i z ht hi hz hsize hby hzs v xs hown src news hs hb
  unfold Oper.wp execOp
  simp only [ho, resolve, invoke, builtin, Sem.run_bind, Sem.run_pure, Result.andThen_ok, List.map_toArray, List.map_cons, List.map_nil, hsv, hx, hr]
  exact h v' w' h2 h3 h4
theorem step_append_lo {P : Program} (w : World) {ops : Array Oper} {o : Oper} {a : Act} {K : Act → World → Prop} {Q : Exit → Act → World → Prop} {E : Prop} (hgd : o.guard = none) (s x : Operand) (t : TypeId)
    (ho : o.op = .call { callee := .builtin .append, args := #[s, x], argTypes := #[t, t] }) (e : TypeId) (i : TypeInfo) (z : Value) (ht : P.underlying t = some (.slice e)) (hi : P.info? e = some i) (hz : i.zero = some z)
    (hsize : i.size = 1) (hby : i.bytes = 1) (hzs : z.cells.size = 1) (v : Value) (xs : List Value) (hsv : a.eval s = v) (hown : Loose w e v xs) (src : Value) (news : List Value) (hx : a.eval x = src) (hs : Src w src news) (hb : xs.length + news.length ≤ 140737488355328)
    (h : ∀ v' w', Loose w' e v' (xs ++ news) → w.grownBy w' v.ownBlock → (v'.ownBlock = v.ownBlock ∨ v'.ownBlock = some w.heap.size) → K (a.put o.dst v') w') :
    if Region.wanted o (yielded ops a.tmps) = true then Oper.wp P o a w K Q else E := by
  have hw : Region.wanted o (yielded ops a.tmps) = true := by simp [Region.wanted, hgd]
  rw [if_pos hw]
  exact wp_append_lo w s x t ho e i z ht hi hz hsize hby hzs v xs hsv hown src news hx hs hb h
/-- A new file in its place. -/
def insE (x : Ent) : List Ent → List Ent
  | [] => [x]
  | y :: r => if (key x.name).before (key y.name) then x :: y :: r else y :: insE x r
theorem insE_ent (x : Ent) : ∀ L : List Ent, (insE x L).map ent = DataW.insert (ent x) (L.map ent)
  | [] => rfl
  | y :: r => by
    simp only [insE, List.map_cons, DataW.insert]
    have : (ent x).1.before (ent y).1 = (key x.name).before (key y.name) := rfl
    rw [this]
    split
    · rfl
    · rw [List.map_cons, insE_ent x r]
theorem insE_perm (x : Ent) : ∀ L : List Ent, (insE x L).Perm (x :: L)
  | [] => .refl _
  | y :: r => by
    simp only [insE]
    split
    · exact .refl _
    · exact ((insE_perm x r).cons y).trans (.swap x y r)
theorem insE_mem {x y : Ent} {L : List Ent} : y ∈ insE x L ↔ y = x ∨ y ∈ L := by
  rw [(insE_perm x L).mem_iff, List.mem_cons]
theorem put_none {L : List Ent} {s : ByteArray} (h : look L s = none) (f : Nat) (v : Value) (bs : List Value) (syn : Int) :
    (DataW.map (L.map ent)).put (key s) (.lit (.int .u64 f)) = .map ((insE ⟨s, f, v, bs, syn⟩ L).map ent) := by
  rw [insE_ent]
  show DataW.map (DataW.insert _ _) = _
  congr 2
  rw [List.filter_eq_self]
  intro p hp
  obtain ⟨e, he, rfl⟩ := List.mem_map.1 hp
  unfold look at h
  rw [List.find?_eq_none] at h
  have := h e he
  show (!(key e.name).sameKey (key s)) = true
  rw [key_same]
  simpa using this
theorem lens_ins (x : Ent) (L : List Ent) : lens (insE x L) = x.bs.length + lens L := by
  unfold lens
  rw [((insE_perm x L).map _).sum_nat]
  simp
theorem DiskAt.insert {w w' : World} {S S' : Nat → Prop} {d m : Nat} {L : List Ent} {room fuse : Int} {down : Bool} (h : DiskAt w S d m L room fuse down) (s : ByteArray) (f : Nat)
    (hfn : w.heap.size ≤ f) (hf : w'.heap[f]? = some (.cells #[.slice none 0 0, .int .i64 0] 82 (0, 0)))
    (hm : w'.ownsMap Try.prog 9 ptrE m (L.length + 1) (.map ((insE ⟨s, f, .slice none 0 0, [], 0⟩ L).map ent)))
    (hS : ∀ k, S k → S' k) (hSf : S' f) (hk : ∀ k, k < w.heap.size → k ≠ m → w'.heap[k]? = w.heap[k]?) :
    DiskAt w' S' d m (insE ⟨s, f, .slice none 0 0, [], 0⟩ L) room fuse down := by
  have lt : ∀ {k : Nat} {o : Obj}, w.heap[k]? = some o → k < w.heap.size := fun {k o} hh => by
    rcases Nat.lt_or_ge k w.heap.size with h | h
    · exact h
    · rw [Array.getElem?_eq_none h] at hh; cases hh
  obtain ⟨es, c, hmb⟩ := h.mapBlk
  have hb := h.blk
  refine ⟨?_, ?_, ?_, ?_, ⟨hS _ h.here.1, hS _ h.here.2⟩, ?_⟩
  · rw [hk d (lt hb) ?_, hb]
    rintro rfl; rw [hb] at hmb; cases hmb
  · have : (insE ⟨s, f, .slice none 0 0, [], 0⟩ L).length = L.length + 1 := by rw [(insE_perm _ L).length_eq]; rfl
    rw [this]; exact hm
  · intro e he
    rcases insE_mem.1 he with rfl | he
    · exact ⟨hf, .inl ⟨rfl, rfl⟩⟩
    · obtain ⟨f1, f2⟩ := h.file e he
      refine ⟨?_, f2.same fun g hg => ?_⟩
      · rw [hk _ (lt f1) ?_, f1]
        intro e1; rw [e1, hmb] at f1; cases f1
      · obtain ⟨cur, fz, hc⟩ := f2.cells hg
        refine hk _ (lt hc) ?_
        rintro rfl; rw [hmb] at hc; cases hc
  · rw [(insE_perm _ L).pairwise_iff (fun {a b} hab => ⟨fun e => hab.1 e.symm, fun g hg hg' => hab.2 g hg' hg⟩), List.pairwise_cons]
    refine ⟨fun e he => ⟨?_, fun g hg => nomatch hg⟩, h.apart⟩
    have := lt (h.file e he).1
    show f ≠ e.f
    omega
  · intro e he
    rcases insE_mem.1 he with rfl | he
    · exact ⟨hSf, fun g hg => nomatch hg⟩
    · exact ⟨hS _ (h.mine e he).1, fun g hg => hS _ ((h.mine e he).2 g hg)⟩
theorem DiskAt.same2 {w w' : World} {S : Nat → Prop} {d m : Nat} {L : List Ent} {room fuse : Int} {down : Bool} (h : DiskAt w S d m L room fuse down) (hk : ∀ k, S k → k < w.heap.size → w'.heap[k]? = w.heap[k]?) : DiskAt w' S d m L room fuse down := by
  have lt : ∀ {k : Nat} {o : Obj}, w.heap[k]? = some o → k < w.heap.size := fun {k o} hh => by
    rcases Nat.lt_or_ge k w.heap.size with h | h
    · exact h
    · rw [Array.getElem?_eq_none h] at hh; cases hh
  obtain ⟨es, c, hm⟩ := h.mapBlk
  exact ⟨(hk d h.here.1 (lt h.blk)).trans h.blk, ownsMap_same h.map (hk m h.here.2 (lt hm)), fun e he => ⟨(hk _ (h.mine e he).1 (lt (h.file e he).1)).trans (h.file e he).1, (h.file e he).2.same (fun g hg => hk g ((h.mine e he).2 g hg) ((h.file e he).2.lt hg))⟩, h.apart, h.here, h.mine⟩
theorem DiskAt.later {w w' : World} {S : Nat → Prop} {d m : Nat} {L : List Ent} {room fuse : Int} {down : Bool} (h : DiskAt w S d m L room fuse down) (hb : Below w.heap.size w w') : DiskAt w' S d m L room fuse down :=
  h.same2 fun k _ hk => hb.block k hk
/-- What else lies in the heap stays. -/
theorem DiskAt.beside {w w' : World} {S T : Nat → Prop} {d m : Nat} {L : List Ent} {room fuse : Int} {down : Bool} (h : DiskAt w S d m L room fuse down) (ht : Turns T w w') (hd : ∀ k, S k → k < w.heap.size → ¬ T k) : DiskAt w' S d m L room fuse down :=
  h.same2 fun k hk hl => ht.block k hl (hd k hk hl)
theorem look_ins {L : List Ent} {s : ByteArray} (h : look L s = none) (f : Nat) (v : Value) (bs : List Value) (syn : Int) : look (insE ⟨s, f, v, bs, syn⟩ L) s = some ⟨s, f, v, bs, syn⟩ := by
  unfold look at *
  induction L with
  | nil => simp [insE]
  | cons y r ih =>
    rw [List.find?_cons] at h
    split at h
    · cases h
    · rename_i hy
      simp only [insE]
      split
      · simp
      · rw [List.find?_cons, hy]
        exact ih h
theorem setF_ins {L : List Ent} {s : ByteArray} (h : look L s = none) (f : Nat) (v v' : Value) (bs bs' : List Value) (syn syn' : Int) : setF (insE ⟨s, f, v, bs, syn⟩ L) s v' bs' syn' = insE ⟨s, f, v', bs', syn'⟩ L := by
  unfold look at h
  unfold setF
  induction L with
  | nil => simp [insE]
  | cons y r ih =>
    rw [List.find?_cons] at h
    split at h
    · cases h
    · rename_i hy
      have hid : ∀ r : List Ent, r.find? (fun e => e.name.data.toList == s.data.toList) = none → r.map (fun e => if e.name.data.toList == s.data.toList then (⟨e.name, e.f, v', bs', syn'⟩ : Ent) else e) = r := by
        intro r hr
        rw [List.find?_eq_none] at hr
        conv => rhs; rw [← List.map_id r]
        refine List.map_congr_left fun x hx => ?_
        rw [if_neg (hr x hx)]; rfl
      simp only [insE]
      split
      · simp only [List.map_cons, hid r h]
        rw [if_pos (by simp), if_neg (by rw [hy]; simp)]
      · simp only [List.map_cons, ih h]
        rw [if_neg (by rw [hy]; simp)]
def appN (L : List Ent) (room : Int) (nb : Nat) : Nat := (min (nb : Int) (max (room - lens L) 0)).toNat
def addE (L : List Ent) (s : ByteArray) (f : Nat) (v : Value) (ys : List Value) : List Ent :=
  match look L s with
  | some e => setF L s v (e.bs ++ ys) e.syn
  | none => insE ⟨s, f, v, ys, 0⟩ L
def apF (fuse : Int) (down : Bool) (s : ByteArray) : Int := if down || !nameB s.data.toList then fuse else opF fuse
def apD (fuse : Int) (down : Bool) (s : ByteArray) : Bool := if down || !nameB s.data.toList then down else opD fuse down
def AppSays (L : List Ent) (room fuse : Int) (down : Bool) (s : ByteArray) (xs : List Value) (L' : List Ent) (j : Nat) (err : Int) : Prop :=
  (down = true ∧ L' = L ∧ j = 0 ∧ err = 8) ∨ (down = false ∧ nameB s.data.toList = false ∧ L' = L ∧ j = 0 ∧ err = 1) ∨
  (down = false ∧ nameB s.data.toList = true ∧ opE fuse ≠ 0 ∧ L' = L ∧ j = 0 ∧ err = opE fuse) ∨
  (down = false ∧ nameB s.data.toList = true ∧ opE fuse = 0 ∧ j = appN L room xs.length ∧ err = (if j < xs.length then 7 else 0) ∧ ∃ f v, L' = addE L s f v (xs.take j))
def AppPost (w : World) (S : Nat → Prop) (d m : Nat) (L : List Ent) (room fuse : Int) (down : Bool) (s : ByteArray) (xs : List Value) (e : Ending) (w' : World) : Prop :=
  ∃ L' j err, e = .returned (.tuple #[.int .i64 (j : Nat), .int .i64 err]) ∧ Turns S w w' ∧ DiskAt w' (With S w w') d m L' room (apF fuse down s) (apD fuse down s) ∧ AppSays L room fuse down s xs L' j err
theorem append_end {w w5 w6 : World} {S S5 : Nat → Prop} {d m : Nat} {L5 : List Ent} {room F : Int} {D : Bool} {s : ByteArray} {e : Ent} {v6 : Value} {ys : List Value} (h5 : DiskAt w5 S5 d m L5 room F D) (hk : look L5 s = some e) (hT : Turns S w w5)
    (hS5 : ∀ k, S5 k → S k ∨ (w.heap.size ≤ k ∧ k < w5.heap.size)) (hl : Loose w6 5 v6 (e.bs ++ ys)) (hg : w5.grownBy w6 e.v.ownBlock) (hat : v6.ownBlock = e.v.ownBlock ∨ v6.ownBlock = some w5.heap.size) :
    Turns S w (w6.setCell ⟨e.f, 0, none⟩ v6) ∧ DiskAt (w6.setCell ⟨e.f, 0, none⟩ v6) (With S w (w6.setCell ⟨e.f, 0, none⟩ v6)) d m (setF L5 s v6 (e.bs ++ ys) e.syn) room F D := by
  obtain ⟨hf1, hf2⟩ := h5.file e (look_mem hk)
  have hmine := h5.mine e (look_mem hk)
  have hef : e.f < w5.heap.size := by
    rcases Nat.lt_or_ge e.f w5.heap.size with h | h
    · exact h
    · rw [Array.getElem?_eq_none h] at hf1; cases hf1
  have hne : some e.f ≠ e.v.ownBlock := fun h => by
    obtain ⟨cur, fz, hc⟩ := hf2.cells h.symm
    rw [hf1] at hc; simp at hc
  have hf6 : w6.heap[e.f]? = some (.cells #[e.v, .int .i64 e.syn] 82 (0, 0)) := (hg.block e.f hef hne).trans hf1
  have o := onlyD_set w6 e.f 0 v6
  have t6 : Turns S w w6 := hT.trans (Turns.of_grown (S := S5) hg hmine.2) (fun k hk => by rcases hS5 k hk with h | h; exact .inl h; exact .inr h.1)
  have hsz : (w6.setCell ⟨e.f, 0, none⟩ v6).heap.size = w6.heap.size := o.2.2.2.1
  have hsz5 := hg.size
  have hS6 : ∀ k, S5 k → With S w (w6.setCell ⟨e.f, 0, none⟩ v6) k := fun k hk => by
    rcases hS5 k hk with h | h
    · exact .inl h
    · exact .inr ⟨h.1, by rw [hsz]; omega⟩
  have hv6f : ∀ g, v6.ownBlock = some g → g ≠ e.f := by
    rintro g hg' rfl
    rcases hat with h | h
    · rw [h] at hg'; exact hne hg'.symm
    · rw [h] at hg'; injection hg' with hg'; omega
  refine ⟨t6.trans (o.turns (S := fun k => k = e.f) rfl) (fun k hk => ?_), ?_⟩
  · subst hk
    rcases hS5 _ hmine.1 with h | h
    · exact .inl h
    · exact .inr h.1
  · obtain ⟨L1, L2, e1, e2⟩ := setF_parts h5 hk v6 (e.bs ++ ys) e.syn
    rw [e2]
    rw [e1] at h5
    refine h5.turn v6 (e.bs ++ ys) e.syn ?_ (hl.same fun g hg' => o.2.2.2.2 g (hv6f g hg')) hS6 ?_ ?_ ?_
    · rw [heap_setCell_same _ _ _ _ _ _ hf6]; rfl
    · intro g hg'
      rcases hat with h | h
      · rw [h] at hg'; exact hS6 g (hmine.2 g hg')
      · refine .inr ⟨?_, by rw [hsz]; exact hl.lt hg'⟩
        rw [h] at hg'; injection hg' with hg'; have := hT.size; omega
    · intro g hg'
      rcases hat with h | h
      · rw [h] at hg'; exact .inl hg'
      · rw [h] at hg'; injection hg' with hg'; exact .inr (by omega)
    · intro k hk1 hk2 hk3
      rw [o.2.2.2.2 k hk2]
      exact hg.block k hk1 (fun h => hk3 h.symm)
end Go.Proofs.Ytjkgcpbgacdgaaa
