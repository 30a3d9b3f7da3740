/- Parse, by the program. Condition: the text's length. -/
import Derived.Test.YthiniiemhifcoaaN
import Derived.OneCell
namespace Go.Proofs.Ythiniiemhifcoaa
open Go.RowKit Go.Sort
def tagCells (L : List Tg) : List Value := L.flatMap fun p => [.string p.1, .string p.2]
theorem tagCells_snoc (L : List Tg) (p : Tg) : tagCells (L ++ [p]) = tagCells L ++ [.string p.1, .string p.2] := by simp [tagCells]
theorem tagCells_len (L : List Tg) : (tagCells L).length = L.length * 2 := by
  induction L with
  | nil => rfl
  | cons x L ih => simp [tagCells] at *; omega
theorem info34 : (Try.prog.info? 34).map (fun i => (i.zero, i.size, i.bytes)) = some (some (.agg #[.string ⟨#[]⟩, .string ⟨#[]⟩]), 2, 32) := by kernel_rfl
def ParsePost (o : Option (ByteArray × List Tg)) (w : World) (e : Ending) (w' : World) : Prop :=
  Below w.heap.size w w' ∧ match o with
    | some (name, tags) => ∃ a cap, e = .returned (.tuple #[.agg #[.string name, .slice a tags.length cap], .int .i64 0]) ∧ TagsAt w' a tags.length (kOf tags) (vOf tags)
    | none => e = .returned (.tuple #[.agg #[.string ⟨#[]⟩, .slice none 0 0], .int .i64 2])
theorem tagCells_get : ∀ (L : List Tg) (i : Nat), i < L.length → (tagCells L)[i * 2]? = some (.string (kOf L i)) ∧ (tagCells L)[i * 2 + 1]? = some (.string (vOf L i))
  | [], i, h => by simp at h
  | p :: L, 0, _ => by simp [tagCells, kOf, vOf]
  | p :: L, i + 1, h => by
    have ih := tagCells_get L i (by simpa using h)
    have e : tagCells (p :: L) = [.string p.1, .string p.2] ++ tagCells L := by simp [tagCells]
    have e1 : kOf (p :: L) (i + 1) = kOf L i := by simp [kOf]
    have e2 : vOf (p :: L) (i + 1) = vOf L i := by simp [vOf]
    rw [e, e1, e2, List.getElem?_append_right (by simp; omega), List.getElem?_append_right (by simp; omega)]
    rw [show (i + 1) * 2 - [Value.string p.1, Value.string p.2].length = i * 2 by simp; omega, show (i + 1) * 2 + 1 - [Value.string p.1, Value.string p.2].length = i * 2 + 1 by simp; omega]
    exact ih
theorem own_slice {w : World} {base : Nat} {v : Value} {L : List Tg} (h : w.ownsRow base 34 2 v L.length (tagCells L)) : ∃ a cap, v = .slice a L.length cap := by
  rcases h.2 with ⟨rfl, hx⟩ | ⟨g, cap, cur, rfl, _⟩
  · have := tagCells_len L
    rw [hx] at this
    exact ⟨none, 0, by rw [hx]⟩
  · exact ⟨_, _, rfl⟩
theorem own_tags {w : World} {base cap : Nat} {a : Option Addr} {L : List Tg} (h : w.ownsRow base 34 2 (.slice a L.length cap) L.length (tagCells L)) : TagsAt w a L.length (kOf L) (vOf L) := by
  intro i hi
  obtain ⟨g, cap', hv, _, hlt⟩ := h.form (by omega)
  cases hv
  obtain ⟨h1, h2⟩ := tagCells_get L i hi
  have c1 := h.cellAt (i * 2) (by omega)
  have c2 := h.cellAt (i * 2 + 1) (by omega)
  exact ⟨g, 0, rfl, hlt, by rw [Nat.zero_add, c1, h1], by rw [Nat.zero_add, c2, h2]⟩
theorem own_later {w w' : World} {base e size n : Nat} {v : Value} {xs : List Value} (h : w.ownsRow base e size v n xs) (hb : Below w.heap.size w w') : w'.ownsRow base e size v n xs :=
  h.kept (row := none) ⟨hb.os, hb.tape, hb.output, hb.size, fun i hi _ => hb.block i hi⟩ (by cases v.ownBlock <;> simp)
theorem sizes_of {tags : List Tg} {n : Nat} (h : ∀ p ∈ tags, p.1.size ≤ n ∧ p.2.size ≤ n) (hn : n ≤ maxLen) : ∀ i, (kOf tags i).size ≤ maxLen ∧ (vOf tags i).size ≤ maxLen := by
  intro i
  by_cases hi : i < tags.length
  · have := h tags[i] (List.getElem_mem hi)
    have e1 : kOf tags i = tags[i].1 := by simp [kOf, List.getD, hi]
    have e2 : vOf tags i = tags[i].2 := by simp [vOf, List.getD, hi]
    rw [e1, e2]
    omega
  · have e1 : kOf tags i = ⟨#[]⟩ := by simp [kOf, List.getD, List.getElem?_eq_none (Nat.le_of_not_lt hi)]
    have e2 : vOf tags i = ⟨#[]⟩ := by simp [vOf, List.getD, List.getElem?_eq_none (Nat.le_of_not_lt hi)]
    rw [e1, e2]
    exact ⟨Nat.zero_le _, Nat.zero_le _⟩
/-- The parser's memory while it goes: its result's cells, the series that grows, and the tags. -/
def Mem (name : ByteArray) (tags : List Tg) (v : Value) (w wr : World) : Prop :=
  wr.heap[w.heap.size]? = some (.cells #[.string ⟨#[]⟩, .slice none 0 0] 24 (0, 0)) ∧ wr.heap[w.heap.size + 1]? = some (.cells #[.string name, v] 24 (0, 0)) ∧
    wr.ownsRow (w.heap.size + 2) 34 2 v tags.length (tagCells tags) ∧ Below w.heap.size w wr
theorem Mem.later {name : ByteArray} {tags : List Tg} {v : Value} {w wr w' : World} (h : Mem name tags v w wr) (hb : Below wr.heap.size wr w') : Mem name tags v w w' := by
  obtain ⟨h0, h1, h2, h3⟩ := h
  exact ⟨(hb.block _ (lt_of_block h0)).trans h0, (hb.block _ (lt_of_block h1)).trans h1, own_later h2 hb, h3.trans (hb.mono h3.size)⟩
theorem Mem.set_ {name : ByteArray} {tags : List Tg} {v u : Value} {w wr : World} {T : Nat} {i : Nat} (h : Mem name tags v w wr) (hn : v.ownBlock ≠ some T) (hge : w.heap.size + 2 ≤ T) : Mem name tags v w (wr.setCell ⟨T, i, none⟩ u) := by
  obtain ⟨h0, h1, h2, h3⟩ := h
  exact ⟨by rw [Below.heap_setCell _ _ _ _ (by simp; omega)]; exact h0, by rw [Below.heap_setCell _ _ _ _ (by simp; omega)]; exact h1, ownsRow_setCell_other h2 (by simpa using hn) _, h3.setCell (by simp; omega) _⟩
theorem Mem.grown {name : ByteArray} {tags : List Tg} {v : Value} {w wr w' : World} {o : Obj} (h : Mem name tags v w wr) (hg : (wr.alloc o).grownBy w' v.ownBlock) :
    w'.heap[w.heap.size]? = some (.cells #[.string ⟨#[]⟩, .slice none 0 0] 24 (0, 0)) ∧ w'.heap[w.heap.size + 1]? = some (.cells #[.string name, v] 24 (0, 0)) ∧ Below w.heap.size w w' := by
  obtain ⟨h0, h1, h2, h3⟩ := h
  have l1 := lt_of_block h1
  have ne : ∀ j, j < w.heap.size + 2 → some j ≠ v.ownBlock := fun j hj e => by have := (h2.lt j e.symm).1; omega
  refine ⟨(hg.block _ (by simp; omega) (ne _ (by omega))).trans ((Below.heap_alloc wr o _ (by omega)).trans h0), (hg.block _ (by simp; omega) (ne _ (by omega))).trans ((Below.heap_alloc wr o _ (by omega)).trans h1), ?_⟩
  exact (h3.alloc h3.size o).grown hg (by simp; omega) (fun j hj => by have := (h2.lt j hj).1; omega)
theorem Mem.append {name k x : ByteArray} {tags : List Tg} {v v1 : Value} {w w' : World} {n : Nat} {xs : List Value} (h0 : w'.heap[w.heap.size]? = some (.cells #[.string ⟨#[]⟩, .slice none 0 0] 24 (0, 0))) (h1 : w'.heap[w.heap.size + 1]? = some (.cells #[.string name, v] 24 (0, 0)))
    (hb : Below w.heap.size w w') (hown : w'.ownsRow (w.heap.size + 2) 34 2 v1 n xs) (hn : n = tags.length + 1) (hx : xs = tagCells tags ++ [.string k, .string x]) :
    Mem name (tags ++ [(k, x)]) v1 w (w'.setCell ⟨w.heap.size + 1, 1, none⟩ v1) := by
  subst hn hx
  refine ⟨by rw [Below.heap_setCell _ _ _ _ (by simp)]; exact h0, ?_, ?_, hb.setCell (by simp) _⟩
  · rw [heap_setCell_same _ _ _ _ _ _ h1]; rfl
  · rw [tagCells_snoc, List.length_append]
    exact ownsRow_setCell_below hown (by simp) _
theorem Mem.done {name : ByteArray} {tags : List Tg} {a : Option Addr} {cap : Nat} {w wr : World} (h : Mem name tags (.slice a tags.length cap) w wr) : ∀ wz : World, wz = (wr.setCell ⟨w.heap.size, 0, none⟩ (.string name)).setCell ⟨w.heap.size, 1, none⟩ (.slice a tags.length cap) →
    wz.cell? ⟨w.heap.size, 0, none⟩ = some (.string name) ∧ wz.cell? ⟨w.heap.size, 1, none⟩ = some (.slice a tags.length cap) ∧ Below w.heap.size w wz ∧ TagsAt wz a tags.length (kOf tags) (vOf tags) := by
  rintro wz rfl
  obtain ⟨h0, h1, h2, h3⟩ := h
  have g1 := heap_setCell_same wr w.heap.size 0 _ _ (.string name) h0
  have g2 := heap_setCell_same _ w.heap.size 1 _ _ (.slice a tags.length cap) g1
  exact ⟨by simp [World.cell?, g2], by simp [World.cell?, g2], (h3.setCell (Nat.le_refl _) _).setCell (Nat.le_refl _) _, own_tags (ownsRow_setCell_below (ownsRow_setCell_below h2 (by simp) _) (by simp) _)⟩
def measP (u6 u7 : Value) : Nat := match u7 with | .bool true => sizeOfV u6 + 1 | _ => 0
def InParse (t : ByteArray) (name : ByteArray) (w : World) (u6 u7 : Value) (wr : World) : Prop :=
  ∃ (tags : List Tg) (v : Value) (s : ByteArray) (ok : Bool), u6 = .string s ∧ u7 = .bool ok ∧ (ok = true → parse t.data.toList = fin name (ploop tags s.data.toList) ∧ 2 * tags.length + s.size ≤ t.size) ∧ (ok = false → parse t.data.toList = none) ∧
    tags.length ≤ t.size ∧ (∀ p ∈ tags, p.1.size ≤ t.size ∧ p.2.size ≤ t.size) ∧ Mem name tags v w wr
theorem cutPost_cases {o : Option (List UInt8 × List UInt8)} {w : World} {e : Ending} {w' : World} (h : CutPost o w e w') : ∃ b s ok, e = .returned (.tuple #[.string b, .string s, .bool ok]) ∧ (ok = true → ∃ bl, o = some (bl, s.data.toList) ∧ b = ofL bl) ∧ (ok = false → o = none ∧ b = ⟨#[]⟩) ∧ Below w.heap.size w w' := by
  obtain ⟨hb, h⟩ := h
  cases o with
  | none =>
    obtain ⟨t, rfl⟩ := h
    exact ⟨_, _, _, rfl, (fun h => nomatch h), fun _ => ⟨rfl, rfl⟩, hb⟩
  | some p =>
    obtain ⟨b, r⟩ := p
    simp only at h
    exact ⟨_, _, _, h, fun _ => ⟨b, by simp [ofL], rfl⟩, (fun h => nomatch h), hb⟩
theorem ofL_size (l : List UInt8) : (ofL l).size = l.length := by simp [ofL, ByteArray.size]
theorem prefix_yes {l : List UInt8} {c : UInt8} (h : Lib.hasPrefix l [c] = true) : ∃ r, l = c :: r := by
  unfold Lib.hasPrefix at h
  cases l with
  | nil => simp at h
  | cons d r =>
    simp at h
    exact ⟨r, by rw [h]⟩
theorem prefix_no {l : List UInt8} {c d : UInt8} {r : List UInt8} (h : Lib.hasPrefix l [c] = false) (hl : l = d :: r) : d ≠ c := by
  rintro rfl
  subst hl
  simp [Lib.hasPrefix] at h
theorem prefix_split {s : ByteArray} {c : UInt8} (h : Lib.hasPrefix s.data.toList [c] = true) : ∃ t : ByteArray, s.extract 1 s.size = t ∧ s.data.toList = c :: t.data.toList ∧ t.size + 1 = s.size := by
  obtain ⟨r, hr⟩ := prefix_yes h
  have hpos : 0 < s.size := by have := congrArg List.length hr; simp at this; omega
  have ht := tail_of s hpos
  obtain ⟨t1, ht1⟩ : ∃ t1, s.extract 1 s.size = t1 := ⟨_, rfl⟩
  rw [ht1] at ht ⊢
  refine ⟨_, rfl, ?_, by have := congrArg List.length ht; simp at this; omega⟩
  rw [ht]
  rw [hr] at ht
  cases ht
  rfl
theorem results19 (tmps : Array Value) (w : World) (B : Nat) (x y : Value) (hb : tmps.getD 2 undef = .pointer (some ⟨B, 0, none⟩)) (hx : w.cell? ⟨B, 0, none⟩ = some x) (hy : w.cell? ⟨B, 1, none⟩ = some y) :
    (results Try.f19 tmps).run Try.prog w = .ok (.tuple #[.agg #[x, y], tmps.getD 3 undef]) w := by
  have hb' : tmps[2]?.getD undef = .pointer (some ⟨B, 0, none⟩) := by simpa using hb
  simp [results, hb', hx, hy, go_sem]
theorem results18 (tmps : Array Value) (w : World) (B : Nat) (x y : Value) (hb : tmps.getD 2 undef = .pointer (some ⟨B, 0, none⟩)) (hx : w.cell? ⟨B, 0, none⟩ = some x) (hy : w.cell? ⟨B, 1, none⟩ = some y) :
    (results Try.f18 tmps).run Try.prog w = .ok (.tuple #[.agg #[x, y], tmps.getD 3 undef]) w := by
  have hb' : tmps[2]?.getD undef = .pointer (some ⟨B, 0, none⟩) := by simpa using hb
  simp [results, hb', hx, hy, go_sem]
theorem fail_world {w wr : World} {B : Nat} {n v : Value} (hb : Below B w wr) (hg : wr.heap[B]? = some (.cells #[n, v] 24 (0, 0))) : ∀ wz : World, wz = (wr.setCell ⟨B, 0, none⟩ (.string ⟨#[]⟩)).setCell ⟨B, 1, none⟩ (.slice none 0 0) →
    wz.cell? ⟨B, 0, none⟩ = some (.string ⟨#[]⟩) ∧ wz.cell? ⟨B, 1, none⟩ = some (.slice none 0 0) ∧ Below B w wz := by
  rintro wz rfl
  have h1 := heap_setCell_same wr B 0 _ _ (.string ⟨#[]⟩) hg
  have h2 := heap_setCell_same _ B 1 _ _ (.slice none 0 0) h1
  exact ⟨by simp [World.cell?, h2], by simp [World.cell?, h2], (hb.setCell (Nat.le_refl _) _).setCell (Nat.le_refl _) _⟩
set_option maxRecDepth 100000 in
set_option maxHeartbeats 1000000 in
theorem parse19 (t : ByteArray) (w : World) (hs : t.size ≤ 1048576) : Calls Try.prog 19 #[.string t] w (ParsePost (parse t.data.toList) w) := by
  obtain ⟨i0, hi, hz0, hz1, hz2⟩ := info_parts info34
  have HI := Lib.hid hi
  have HZ0 := Lib.hid hz0
  have HZ1 := Lib.hid hz1
  have HZ2 := Lib.hid hz2
  clear hi hz0 hz1 hz2
  go_enter Try.func19, Try.ntmps19
  go_wp2_with fail
  refine (cut t _ (by omega)).mono ?_
  intro e w1 hcp
  obtain ⟨name, s0, ok0, rfl, hok, hno, hb⟩ := cutPost_cases hcp
  have hpt : ok0 = true → parse t.data.toList = fin name (ploop [] s0.data.toList) ∧ s0.size ≤ t.size ∧ name.size ≤ t.size := by
    intro h
    obtain ⟨bl, h1, rfl⟩ := hok h
    have h2 := scan_len _ (Nat.le_refl _) h1
    simp at h2
    exact ⟨by simp only [parse, h1], h2.1, by rw [ofL_size]; omega⟩
  have hpf : ok0 = false → parse t.data.toList = none ∧ name = ⟨#[]⟩ := fun h => ⟨by simp only [parse, (hno h).1], (hno h).2⟩
  have hnm : name.size ≤ t.size := by
    cases ok0 with
    | true => exact (hpt rfl).2.2
    | false => rw [(hpf rfl).2]; exact Nat.zero_le _
  have g0 : w1.heap[w.heap.size]? = some (.cells #[.string ⟨#[]⟩, .slice none 0 0] 24 (0, 0)) := (hb.block _ (by simp; omega)).trans (((Below.refl (w.heap.size + 1) _).alloc (by simp) _).block _ (by omega) |>.trans (heap_alloc_new w _))
  have g1 : w1.heap[w.heap.size + 1]? = some (.cells #[.string ⟨#[]⟩, .slice none 0 0] 24 (0, 0)) := by
    refine (hb.block _ (by simp)).trans ?_
    have h1 := heap_alloc_new (w.alloc (.cells #[.string ⟨#[]⟩, .slice none 0 0] 24)) (.cells #[.string ⟨#[]⟩, .slice none 0 0] 24)
    rw [World.size_alloc] at h1
    exact h1
  have hb1 : Below w.heap.size w w1 := (((Below.refl _ _).alloc (Nat.le_refl _) _).alloc (by simp) _).trans (hb.mono (by simp; omega))
  have z1 : w1.frozen? ⟨w.heap.size + 1, 0, none⟩ = false := by simp [World.frozen?, g1]
  have c1 : w1.cell? ⟨w.heap.size + 1, 0, none⟩ = some (.string ⟨#[]⟩) := by simp [World.cell?, g1]
  have HG0 := Lib.hid g0
  have HG1 := Lib.hid g1
  have HB1 := Lib.hid hb1
  have HPT := Lib.hid hpt
  have HPF := Lib.hid hpf
  clear hcp hok hno hb hpt hpf g0 g1 hb1
  go_wp2_with fail
  go_loopw [6, 7] (fun u6 u7 wr => InParse t name w u6 u7 wr) (fun u6 u7 _ => measP u6 u7)
  case atStart =>
    have hm : (w1.setCell ⟨w.heap.size + 1, 0, none⟩ (.string name)).heap[w.heap.size + 1]? = some (.cells #[.string name, .slice none 0 0] 24 (0, 0)) := by
      rw [heap_setCell_same _ _ _ _ _ _ HG1.out]; rfl
    refine ⟨[], .slice none 0 0, s0, ok0, rfl, rfl, fun h => ⟨(HPT.out h).1, by have := (HPT.out h).2.1; simpa using this⟩, fun h => (HPF.out h).1, Nat.zero_le _, fun p hp => (nomatch hp), ?_, hm, World.ownsRow_nil _ _ _ _, HB1.out.setCell (by simp) _⟩
    rw [Below.heap_setCell _ _ _ _ (by simp)]
    exact HG0.out
  case round =>
    obtain ⟨tags, v, s, ok, rfl, rfl, hyes, hno, htl, htz, hmem⟩ := hrel
    obtain ⟨a, cap, rfl⟩ := own_slice hmem.2.2.1
    have HTZ := Lib.hid htz
    have HM := Lib.hid hmem
    have hsz := hmem.2.2.2.size
    have hlt1 : w.heap.size + 1 < wr.heap.size := lt_of_block hmem.2.1
    have z0 : wr.frozen? ⟨w.heap.size, 0, none⟩ = false := by simp [World.frozen?, hmem.1]
    have z1 : wr.frozen? ⟨w.heap.size, 1, none⟩ = false := by simp [World.frozen?, hmem.1]
    have c0 : wr.cell? ⟨w.heap.size, 0, none⟩ = some (.string ⟨#[]⟩) := by simp [World.cell?, hmem.1]
    have c1 : wr.cell? ⟨w.heap.size, 1, none⟩ = some (.slice none 0 0) := by simp [World.cell?, hmem.1]
    have d0 : wr.cell? ⟨w.heap.size + 1, 0, none⟩ = some (.string name) := by simp [World.cell?, hmem.2.1]
    have d1 : wr.cell? ⟨w.heap.size + 1, 1, none⟩ = some (.slice a tags.length cap) := by simp [World.cell?, hmem.2.1]
    have HF0 := Lib.hid (fail_world hmem.2.2.2 hmem.1)
    clear htz hmem
    cases ok with
    | false =>
      have HNO := Lib.hid (hno rfl)
      clear hyes hno
      go_wp2_with fail
      refine bodyPost_ret (results19 _ _ w.heap.size _ _ rfl (HF0.out _ rfl).1 (HF0.out _ rfl).2.1) rfl ?_
      refine ⟨(HF0.out _ rfl).2.2, ?_⟩
      rw [HNO.out]
      rfl
    | true =>
      have HY := Lib.hid (hyes rfl).1
      have hsz2 := (hyes rfl).2
      clear hyes hno
      cases hpf : Lib.hasPrefix s.data.toList [44] with
      | false =>
        have HPX := Lib.hid hpf
        clear hpf
        by_cases hs0 : s.size = 0
        · have hE := is_empty hs0
          have HS := Lib.hid (empty_of s hs0)
          clear hs0
          go_wp2_with fail
          refine (Try.strings_HasPrefix s ⟨#[44]⟩ _).mono ?_
          rintro e w2 ⟨rfl, rfl⟩
          rw [show Lib.hasPrefix s.data.toList (⟨#[44]⟩ : ByteArray).data.toList = false from HPX.out]
          go_wp2_with fail
          refine (formed name a tags.length cap (kOf tags) (vOf tags) _ (by omega) (by unfold maxLen; omega) (sizes_of HTZ.out (by unfold maxLen; omega)) (own_tags (by exact HM.out.2.2.1))).mono ?_
          rintro e w3 ⟨rfl, hb2⟩
          have hm3 := HM.out.later hb2
          have z0 : w3.frozen? ⟨w.heap.size, 0, none⟩ = false := by simp [World.frozen?, hm3.1]
          have z1 : w3.frozen? ⟨w.heap.size, 1, none⟩ = false := by simp [World.frozen?, hm3.1]
          have c0 : w3.cell? ⟨w.heap.size, 0, none⟩ = some (.string ⟨#[]⟩) := by simp [World.cell?, hm3.1]
          have c1 : w3.cell? ⟨w.heap.size, 1, none⟩ = some (.slice none 0 0) := by simp [World.cell?, hm3.1]
          have d0 : w3.cell? ⟨w.heap.size + 1, 0, none⟩ = some (.string name) := by simp [World.cell?, hm3.2.1]
          have d1 : w3.cell? ⟨w.heap.size + 1, 1, none⟩ = some (.slice a tags.length cap) := by simp [World.cell?, hm3.2.1]
          have HF3 := Lib.hid (fail_world hm3.2.2.2 hm3.1)
          have HD3 := Lib.hid hm3.done
          clear hm3 hb2
          cases hfm : formedB name tags.length (kOf tags) (vOf tags) with
          | false =>
            have HFM := Lib.hid hfm
            clear hfm
            go_wp2_with fail
            refine bodyPost_ret (results19 _ _ w.heap.size _ _ rfl (HF3.out _ rfl).1 (HF3.out _ rfl).2.1) rfl ?_
            refine ⟨(HF3.out _ rfl).2.2, ?_⟩
            rw [HY.out, HS.out, ploop_end]
            simp only [fin, HFM.out]
            rfl
          | true =>
            have HFM := Lib.hid hfm
            clear hfm
            go_wp2_with fail
            refine bodyPost_ret (results19 _ _ w.heap.size _ _ rfl (HD3.out _ rfl).1 (HD3.out _ rfl).2.1) rfl ?_
            refine ⟨(HD3.out _ rfl).2.2.1, ?_⟩
            rw [HY.out, HS.out, ploop_end]
            simp only [fin, HFM.out]
            exact ⟨_, _, rfl, (HD3.out _ rfl).2.2.2⟩
        · have hE := not_empty (s := s) (by omega)
          have HN := Lib.hid (tail_of s (by omega))
          go_wp2_with fail
          refine (Try.strings_HasPrefix s ⟨#[44]⟩ _).mono ?_
          rintro e w2 ⟨rfl, rfl⟩
          rw [show Lib.hasPrefix s.data.toList (⟨#[44]⟩ : ByteArray).data.toList = false from HPX.out]
          go_wp2_with fail
          refine bodyPost_ret (results19 _ _ w.heap.size _ _ rfl (HF0.out _ rfl).1 (HF0.out _ rfl).2.1) rfl ?_
          refine ⟨(HF0.out _ rfl).2.2, ?_⟩
          rw [HY.out, HN.out, ploop_stop]
          · rfl
          · intro h
            exact prefix_no HPX.out HN.out (UInt8.toNat_inj.1 h)
      | true =>
        obtain ⟨s1, hs1, hsp, hs1z⟩ := prefix_split hpf
        have HPX := Lib.hid hpf
        have HSP := Lib.hid hsp
        clear hpf hsp
        have hspos : 0 < s.size := by omega
        go_wp2_with fail
        refine (Try.strings_HasPrefix s ⟨#[44]⟩ _).mono ?_
        rintro e w2 ⟨rfl, hw2⟩
        obtain rfl := hw2.symm
        clear hw2
        rw [show Lib.hasPrefix s.data.toList (⟨#[44]⟩ : ByteArray).data.toList = true from HPX.out]
        go_wp2_with fail
        refine (cut s1 _ (by omega)).mono ?_
        intro e w3 hcp
        obtain ⟨kb, r, ok1, rfl, hok, hno1, hb⟩ := cutPost_cases hcp
        have hbT := (Below.refl wr.heap.size wr).alloc (Nat.le_refl _) (.cells #[.string ⟨#[]⟩, .string ⟨#[]⟩] 34)
        have g3 : w3.heap[wr.heap.size]? = some (.cells #[.string ⟨#[]⟩, .string ⟨#[]⟩] 34 (0, 0)) := (hb.block _ (by simp)).trans (heap_alloc_new wr _)
        have hne : (Value.slice a tags.length cap).ownBlock ≠ some wr.heap.size := fun h => by
          have := (HM.out.2.2.1.lt _ h).2
          omega
        have hm4 : Mem name tags (.slice a tags.length cap) w (w3.setCell ⟨wr.heap.size, 0, none⟩ (.string kb)) := ((HM.out.later hbT).later hb).set_ hne (by omega)
        have g4 := heap_setCell_same w3 wr.heap.size 0 _ _ (.string kb) g3
        have z3 : w3.frozen? ⟨wr.heap.size, 0, none⟩ = false := by simp [World.frozen?, g3]
        have b3 : w3.cell? ⟨wr.heap.size, 0, none⟩ = some (.string ⟨#[]⟩) := by simp [World.cell?, g3]
        obtain ⟨w4, hw4⟩ : ∃ w4, w3.setCell ⟨wr.heap.size, 0, none⟩ (.string kb) = w4 := ⟨_, rfl⟩
        rw [hw4] at hm4 g4
        have HW4 := Lib.hid hw4
        have HM4 := Lib.hid hm4
        have HG4 := Lib.hid g4
        have HF4 := Lib.hid (fail_world hm4.2.2.2 hm4.1)
        have z4 : w4.frozen? ⟨w.heap.size, 0, none⟩ = false := by simp [World.frozen?, hm4.1]
        have z5 : w4.frozen? ⟨w.heap.size, 1, none⟩ = false := by simp [World.frozen?, hm4.1]
        have c4 : w4.cell? ⟨w.heap.size, 0, none⟩ = some (.string ⟨#[]⟩) := by simp [World.cell?, hm4.1]
        have c5 : w4.cell? ⟨w.heap.size, 1, none⟩ = some (.slice none 0 0) := by simp [World.cell?, hm4.1]
        have d4 : w4.cell? ⟨w.heap.size + 1, 1, none⟩ = some (.slice a tags.length cap) := by simp [World.cell?, hm4.2.1]
        have z6 : w4.frozen? ⟨w.heap.size + 1, 1, none⟩ = false := by simp [World.frozen?, hm4.2.1]
        clear hcp hb hbT hne hm4 g3 g4 z0 z1 c0 c1 d0 d1 HF0
        cases ok1 with
        | false =>
          have HP := Lib.hid (ploop_key_none tags 44 s1.data.toList rfl (hno1 rfl).1)
          clear hok hno1
          go_wp2_with fail
          refine bodyPost_ret (results19 _ _ w.heap.size _ _ rfl (HF4.out _ rfl).1 (HF4.out _ rfl).2.1) rfl ?_
          refine ⟨(HF4.out _ rfl).2.2, ?_⟩
          rw [HY.out, HSP.out, HP.out]
          rfl
        | true =>
          obtain ⟨bl, hsc, rfl⟩ := hok rfl
          have hl1 := scan_len _ (Nat.le_refl _) hsc
          simp at hl1
          have hks : (ofL bl).size ≤ t.size := by rw [ofL_size]; omega
          have hrs : r.size ≤ s1.size := hl1.1
          clear hl1
          cases hq : Lib.hasPrefix r.data.toList [61] with
          | false =>
            have HP : Hid (ploop tags (44 :: s1.data.toList) = none) := Lib.hid (by
              cases hr : r.data.toList with
              | nil => rw [hr] at hsc; exact ploop_key_end _ _ _ _ rfl hsc
              | cons d r2 =>
                have hd : d ≠ 61 := prefix_no hq hr
                rw [hr] at hsc
                exact ploop_key_ne _ _ d _ _ r2 rfl hsc (fun h => hd (UInt8.toNat_inj.1 h)))
            have HQ := Lib.hid hq
            clear hok hno1 hsc hq
            go_wp2_with fail
            refine (Try.strings_HasPrefix r ⟨#[61]⟩ _).mono ?_
            rintro e w5 ⟨rfl, hw5⟩
            obtain rfl := hw5.symm
            clear hw5
            rw [show Lib.hasPrefix r.data.toList (⟨#[61]⟩ : ByteArray).data.toList = false from HQ.out]
            go_wp2_with fail
            refine bodyPost_ret (results19 _ _ w.heap.size _ _ rfl (HF4.out _ rfl).1 (HF4.out _ rfl).2.1) rfl ?_
            refine ⟨(HF4.out _ rfl).2.2, ?_⟩
            rw [HY.out, HSP.out, HP.out]
            rfl
          | true =>
            obtain ⟨r1, hr1, hrp, hr1z⟩ := prefix_split hq
            have hrpos : 0 < r.size := by omega
            rw [hrp] at hsc
            have HSC := Lib.hid hsc
            have HQ := Lib.hid hq
            clear hok hno1 hsc hq hrp
            go_wp2_with fail
            refine (Try.strings_HasPrefix r ⟨#[61]⟩ _).mono ?_
            rintro e w5 ⟨rfl, hw5⟩
            obtain rfl := hw5.symm
            clear hw5
            rw [show Lib.hasPrefix r.data.toList (⟨#[61]⟩ : ByteArray).data.toList = true from HQ.out]
            go_wp2_with fail
            refine (cut r1 _ (by omega)).mono ?_
            intro e w5 hcp
            obtain ⟨vb, q, ok2, rfl, hok, hno1, hb⟩ := cutPost_cases hcp
            have hlt4 : wr.heap.size < w4.heap.size := lt_of_block HG4.out
            have HVS : Hid (vb.size ≤ t.size) := Lib.hid (by
              cases ok2 with
              | false => rw [(hno1 rfl).2]; exact Nat.zero_le _
              | true =>
                obtain ⟨bl2, h1, rfl⟩ := hok rfl
                have h2 := scan_len _ (Nat.le_refl _) h1
                simp at h2
                rw [ofL_size]
                omega)
            have HQS : Hid (ok2 = true → q.size ≤ r1.size) := Lib.hid (by
              rintro rfl
              obtain ⟨bl2, h1, rfl⟩ := hok rfl
              have h2 := scan_len _ (Nat.le_refl _) h1
              simp at h2
              exact h2.1)
            have HOK := Lib.hid hok
            have HNK := Lib.hid hno1
            clear hok hno1
            have hne : (Value.slice a tags.length cap).ownBlock ≠ some wr.heap.size := fun h => by
              have := (HM.out.2.2.1.lt _ h).2
              omega
            have g5 : w5.heap[wr.heap.size]? = some (.cells #[.string (ofL bl), .string ⟨#[]⟩] 34 (0, 0)) := (hb.block _ hlt4).trans HG4.out
            have hm6 : Mem name tags (.slice a tags.length cap) w (w5.setCell ⟨wr.heap.size, 1, none⟩ (.string vb)) := (HM4.out.later hb).set_ hne (by omega)
            have g6 := heap_setCell_same w5 wr.heap.size 1 _ _ (.string vb) g5
            have z7 : w5.frozen? ⟨wr.heap.size, 1, none⟩ = false := by simp [World.frozen?, g5]
            have b7 : w5.cell? ⟨wr.heap.size, 1, none⟩ = some (.string ⟨#[]⟩) := by simp [World.cell?, g5]
            obtain ⟨w6, hw6⟩ : ∃ w6, w5.setCell ⟨wr.heap.size, 1, none⟩ (.string vb) = w6 := ⟨_, rfl⟩
            rw [hw6] at hm6 g6
            have HM6 := Lib.hid hm6
            have hlt6 : w.heap.size + 1 < w6.heap.size := lt_of_block hm6.2.1
            have c6 : w6.cell? ⟨wr.heap.size, 0, none⟩ = some (.string (ofL bl)) := by simp [World.cell?, g6]
            have c7 : w6.cell? ⟨wr.heap.size, 1, none⟩ = some (.string vb) := by simp [World.cell?, g6]
            have d6 : w6.cell? ⟨w.heap.size + 1, 1, none⟩ = some (.slice a tags.length cap) := by simp [World.cell?, hm6.2.1]
            have z6 : w6.frozen? ⟨w.heap.size + 1, 1, none⟩ = false := by simp [World.frozen?, hm6.2.1]
            clear hcp hb hne hm6 g5 g6 z4 z5 c4 c5 d4
            have htl2 : tags.length + 1 ≤ t.size := by omega
            go_wp2_with ((at_builtin; go_must (refine wpList_append_own _ rfl (.tmp 47) (.tmp 49) 22 rfl (w.heap.size + 2) 34 i0 _ 2 32 Try.underlying22 HI.out HZ0.out HZ1.out HZ2.out rfl (by omega) _ tags.length _ rfl (World.ownsRow.alloc HM6.out.2.2.1 _) ⟨w6.heap.size, 0, none⟩ 1 1 [.string (ofL bl), .string vb] rfl rfl (World.news_of_block (cs := #[.string (ofL bl), .string vb]) (t := 34) (fr := (0, 0)) (heap_alloc_new w6 _)) (by simp [Value.oneCell']) (by unfold maxLen; omega) (by omega) (by simp; omega) ?_); intro v1 w7 hown1 hgrow1 hnn; clear hnn; obtain ⟨gv, cv, rfl, _, _⟩ := hown1.form (by omega); obtain ⟨f0, f1, f2⟩ := HM6.out.grown hgrow1; have d7 : w7.cell? ⟨w.heap.size + 1, 1, none⟩ = some (.slice a tags.length cap) := (by simp [World.cell?, f1]); have z8 : w7.frozen? ⟨w.heap.size + 1, 1, none⟩ = false := (by simp [World.frozen?, f1]); have HMA := Lib.hid (Mem.append f0 f1 f2 hown1 rfl rfl); clear hown1 hgrow1 f0 f1 f2))
            go_roundw
            case rel =>
              refine ⟨tags ++ [(ofL bl, vb)], _, q, ok2, rfl, rfl, ?_, ?_, by simp; omega, ?_, HMA.out⟩
              · rintro rfl
                obtain ⟨bl2, h1, rfl⟩ := HOK.out rfl
                have h2 := scan_len _ (Nat.le_refl _) h1
                simp at h2
                exact ⟨by rw [HY.out, HSP.out, ploop_step _ 44 61 _ _ _ _ _ rfl HSC.out rfl h1], by simp; omega⟩
              · rintro rfl
                rw [HY.out, HSP.out, ploop_val_none _ 44 61 _ _ _ rfl HSC.out rfl (HNK.out rfl).1]
                rfl
              · intro p hp
                rcases List.mem_append.1 hp with hp | hp
                · exact HTZ.out p hp
                · simp at hp
                  subst hp
                  exact ⟨hks, HVS.out⟩
            case measure =>
              cases ok2 with
              | false => simp [measP]
              | true =>
                have := HQS.out rfl
                simp [measP, sizeOfV]
                omega
end Go.Proofs.Ythiniiemhifcoaa
