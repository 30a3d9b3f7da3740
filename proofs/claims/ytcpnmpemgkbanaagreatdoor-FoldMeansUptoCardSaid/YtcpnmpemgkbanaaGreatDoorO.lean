/- The walk of the document's Fill, and of Same. Condition: the rows' lengths fit. -/
import Derived.Test.YtcpnmpemgkbanaaGreatDoorN
import Derived.Deep.Cut
namespace Go.Proofs.YtcpnmpemgkbanaaGreatDoor
open Go.RowKit Go.Sort
def cellsL (F : Nat → V3 × Bool) : Nat → List Value
  | 0 => []
  | i + 1 => cellsL F i ++ [.int .i64 (F i).1.k, .int .u64 (F i).1.b, .string (F i).1.t]
def boolsL (F : Nat → V3 × Bool) : Nat → List Value
  | 0 => []
  | i + 1 => boolsL F i ++ [.bool (F i).2]
theorem cellsL_len (F : Nat → V3 × Bool) : ∀ i, (cellsL F i).length = i * 3
  | 0 => rfl
  | i + 1 => by simp [cellsL, cellsL_len F i]; omega
theorem boolsL_len (F : Nat → V3 × Bool) : ∀ i, (boolsL F i).length = i
  | 0 => rfl
  | i + 1 => by simp [boolsL, boolsL_len F i]
theorem cellsL_at (F : Nat → V3 × Bool) : ∀ i j, j < i → (cellsL F i)[j * 3]? = some (.int .i64 (F j).1.k) ∧ (cellsL F i)[j * 3 + 1]? = some (.int .u64 (F j).1.b) ∧ (cellsL F i)[j * 3 + 2]? = some (.string (F j).1.t)
  | 0, j, h => by omega
  | i + 1, j, h => by
    have hl := cellsL_len F i
    by_cases hj : j < i
    · obtain ⟨a, b, c⟩ := cellsL_at F i j hj
      simp only [cellsL]
      rw [List.getElem?_append_left (by omega), List.getElem?_append_left (by omega), List.getElem?_append_left (by omega)]
      exact ⟨a, b, c⟩
    · obtain rfl : j = i := by omega
      simp only [cellsL]
      rw [List.getElem?_append_right (by omega), List.getElem?_append_right (by omega), List.getElem?_append_right (by omega), hl]
      have e0 : j * 3 - j * 3 = 0 := by omega
      have e1 : j * 3 + 1 - j * 3 = 1 := by omega
      have e2 : j * 3 + 2 - j * 3 = 2 := by omega
      rw [e0, e1, e2]
      exact ⟨rfl, rfl, rfl⟩
theorem boolsL_at (F : Nat → V3 × Bool) : ∀ i j, j < i → (boolsL F i)[j]? = some (.bool (F j).2)
  | 0, j, h => by omega
  | i + 1, j, h => by
    have hl := boolsL_len F i
    by_cases hj : j < i
    · simp only [boolsL]
      rw [List.getElem?_append_left (by omega)]
      exact boolsL_at F i j hj
    · obtain rfl : j = i := by omega
      simp only [boolsL]
      rw [List.getElem?_append_right (by omega), hl, Nat.sub_self]
      rfl
theorem own_block {w : World} {B n size g : Nat} {t : TypeId} {v : Value} {xs : List Value} (h : w.ownsRow B t size v n xs) (hg : v.ownBlock = some g) : ∃ cs, w.heap[g]? = some (.cells cs t (0, 0)) := by
  rcases h.2 with ⟨rfl, _⟩ | ⟨g', cap, cur, rfl, h1, h2, _⟩
  · cases hg
  · cases hg
    exact ⟨_, h2⟩
theorem own_apart {w : World} {B B' n n' size size' g : Nat} {t t' : TypeId} {v u : Value} {xs ys : List Value} (h : w.ownsRow B t size v n xs) (h' : w.ownsRow B' t' size' u n' ys) (hne : t ≠ t') (hg : v.ownBlock = some g) : u.ownBlock ≠ some g := by
  intro hu
  obtain ⟨cs, h1⟩ := own_block h hg
  obtain ⟨cs', h2⟩ := own_block h' hu
  rw [h1] at h2
  simp at h2
  exact hne h2.2
theorem own_grown {w w' : World} {B B' n n' size size' : Nat} {t t' : TypeId} {v u : Value} {xs ys : List Value} (h : w.ownsRow B t size v n xs) (h' : w.ownsRow B' t' size' u n' ys) (hne : t ≠ t') (hg : w.grownBy w' u.ownBlock) : w'.ownsRow B t size v n xs :=
  ownsRow_same h fun g hv => hg.block g (own_lt h hv) (fun e => own_apart h h' hne hv e.symm)
theorem own_cell {w : World} {B n size c : Nat} {t : TypeId} {a : Option Addr} {xs : List Value} (h : w.ownsRow B t size (.slice a n c) n xs) (hn : 0 < n) : ∃ g, a = some ⟨g, 0, none⟩ ∧ g < w.heap.size ∧ ∀ i, i < n * size → w.cell? ⟨g, i, none⟩ = xs[i]? := by
  rcases h.2 with ⟨h0, _⟩ | ⟨g, cap, cur, hv, _, h2, _⟩
  · injection h0 with e1 e2 e3
    omega
  · injection hv with e1 _ _
    subst e1
    exact ⟨g, rfl, heap_lt h2, fun i hi => h.cellAt i (by have := h.1; omega)⟩
/-- On the way through the document's Fill. -/
structure FrAt (W : World) (num : V3) (F : Nat → V3 × Bool) (i : Nat) (v u : Value) (wr : World) : Prop where
  out : wr.ownsRow (W.heap.size + 1) 27 3 v i (cellsL F i)
  ok : wr.ownsRow (W.heap.size + 1) 4 1 u i (boolsL F i)
  box : wr.heap[W.heap.size]? = some (.cells #[.int .i64 num.k, .int .u64 num.b, .string num.t] 27 (0, 0))
  below : Below W.heap.size W wr
theorem FrAt.later {W w w' : World} {num : V3} {F : Nat → V3 × Bool} {i : Nat} {v u : Value} (h : FrAt W num F i v u w) (hb : Below w.heap.size w w') : FrAt W num F i v u w' :=
  ⟨own_later h.out hb, own_later h.ok hb, (hb.block _ (heap_lt h.box)).trans h.box, h.below.trans (hb.mono h.below.size)⟩
theorem FrAt.drewN {W w : World} {num : V3} {F : Nat → V3 × Bool} {i : Nat} {v u : Value} (h : FrAt W num F i v u w) (m : Nat) : FrAt W num F i v u (w.drewN m) :=
  h.later ⟨rfl, rfl, rfl, Nat.le_refl _, fun _ _ => rfl⟩
/-- .. with the value that is to be laid behind. -/
structure FrV (W : World) (num : V3) (F : Nat → V3 × Bool) (i : Nat) (v u : Value) (vb : Nat) (x : V3) (wr : World) : Prop where
  at_ : FrAt W num F i v u wr
  var : wr.heap[vb]? = some (.cells #[.int .i64 x.k, .int .u64 x.b, .string x.t] 27 (0, 0))
  hi : W.heap.size < vb
  nv : v.ownBlock ≠ some vb
  nu : u.ownBlock ≠ some vb
theorem FrAt.var {W w : World} {num : V3} {F : Nat → V3 × Bool} {i : Nat} {v u : Value} (h : FrAt W num F i v u w) (x : V3) : FrV W num F i v u w.heap.size x (w.alloc (.cells #[.int .i64 x.k, .int .u64 x.b, .string x.t] 27)) :=
  ⟨h.later ((Below.refl _ _).alloc (Nat.le_refl _) _), heap_alloc_new w _, heap_lt h.box, fun e => by have := own_lt h.out e; omega, fun e => by have := own_lt h.ok e; omega⟩
theorem FrV.put {W w : World} {num x : V3} {F : Nat → V3 × Bool} {i vb : Nat} {v u : Value} (h : FrV W num F i v u vb x w) (m : Nat) (y : V3) :
    FrV W num F i v u vb y ((((w.drewN m).setCell ⟨vb, 0, none⟩ (.int .i64 y.k)).setCell ⟨vb, 1, none⟩ (.int .u64 y.b)).setCell ⟨vb, 2, none⟩ (.string y.t)) := by
  have hk : ∀ g, g ≠ vb → ((((w.drewN m).setCell ⟨vb, 0, none⟩ (.int .i64 y.k)).setCell ⟨vb, 1, none⟩ (.int .u64 y.b)).setCell ⟨vb, 2, none⟩ (.string y.t)).heap[g]? = w.heap[g]? := fun g hg => heap_set3 _ vb g _ _ _ _ _ _ hg
  have hi := h.hi
  refine ⟨⟨ownsRow_same h.at_.out fun g hg => hk g (fun e => h.nv (by rw [hg, e])), ownsRow_same h.at_.ok fun g hg => hk g (fun e => h.nu (by rw [hg, e])), (hk _ (by omega)).trans h.at_.box, ?_⟩, ?_, hi, h.nv, h.nu⟩
  · have h0 : Below W.heap.size W (w.drewN m) := ⟨h.at_.below.os, h.at_.below.tape, h.at_.below.output, h.at_.below.size, h.at_.below.block⟩
    exact ((h0.setCell (p := ⟨vb, 0, none⟩) (by simp; omega) _).setCell (p := ⟨vb, 1, none⟩) (by simp; omega) _).setCell (p := ⟨vb, 2, none⟩) (by simp; omega) _
  · have hv := h.var
    simp [World.setCell, Array.getElem?_modify, hv]
/-- The second row, behind the first one's append. -/
structure FrO (W : World) (num : V3) (F : Nat → V3 × Bool) (i : Nat) (wr : World) (u : Value) : Prop where
  ok : wr.ownsRow (W.heap.size + 1) 4 1 u i (boolsL F i)
  box : wr.heap[W.heap.size]? = some (.cells #[.int .i64 num.k, .int .u64 num.b, .string num.t] 27 (0, 0))
  below : Below W.heap.size W wr
  lt : W.heap.size < wr.heap.size
theorem frO {W w w6 : World} {num : V3} {F : Nat → V3 × Bool} {i : Nat} {v u : Value} {o : Obj} (h : FrAt W num F i v u w) (hg : (w.alloc o).grownBy w6 v.ownBlock) : FrO W num F i w6 u := by
  have h1 : FrAt W num F i v u (w.alloc o) := h.later ((Below.refl _ _).alloc (Nat.le_refl _) _)
  have hb : w6.heap[W.heap.size]? = some (.cells #[.int .i64 num.k, .int .u64 num.b, .string num.t] 27 (0, 0)) := (hg.block _ (heap_lt h1.box) (fun e => by have := own_ge h1.out e.symm; omega)).trans h1.box
  exact ⟨own_grown h1.ok h1.out (by decide) hg, hb, h1.below.grown hg (Nat.le_of_lt (heap_lt h1.box)) (fun j hj => by have := own_ge h1.out hj; omega), heap_lt hb⟩
theorem frAt_next {W w6 w8 : World} {num x : V3} {b : Bool} {F : Nat → V3 × Bool} {i : Nat} {v6 u u8 : Value} {o : Obj} (hF : F i = (x, b)) (ho : w6.ownsRow (W.heap.size + 1) 27 3 v6 (i + 1) (cellsL F i ++ [.int .i64 x.k, .int .u64 x.b, .string x.t])) (h : FrO W num F i w6 u)
    (h8 : w8.ownsRow (W.heap.size + 1) 4 1 u8 (i + 1) (boolsL F i ++ [.bool b])) (hg : (w6.alloc o).grownBy w8 u.ownBlock) : FrAt W num F (i + 1) v6 u8 w8 := by
  have h1 : (w6.alloc o).ownsRow (W.heap.size + 1) 27 3 v6 (i + 1) (cellsL F i ++ [.int .i64 x.k, .int .u64 x.b, .string x.t]) := World.ownsRow.alloc ho o
  have h2 : (w6.alloc o).ownsRow (W.heap.size + 1) 4 1 u i (boolsL F i) := World.ownsRow.alloc h.ok o
  have hbx : (w6.alloc o).heap[W.heap.size]? = some (.cells #[.int .i64 num.k, .int .u64 num.b, .string num.t] 27 (0, 0)) := (Below.heap_alloc w6 o _ (heap_lt h.box)).trans h.box
  refine ⟨?_, ?_, (hg.block _ (heap_lt hbx) (fun e => by have := own_ge h2 e.symm; omega)).trans hbx, ?_⟩
  · have := own_grown h1 h2 (by decide) hg
    simp only [cellsL, hF]
    exact this
  · simp only [boolsL, hF]
    exact h8
  · exact (h.below.alloc (Nat.le_of_lt h.lt) o).grown hg (by simp; have := h.lt; omega) (fun j hj => by have := own_ge h2 hj; omega)
set_option maxRecDepth 100000 in
set_option maxHeartbeats 2000000 in
theorem fill12 (W : World) (kind : Int) (num : V3) (vl vt : Value) (nl nt : Nat) (l : Nat → V3) (th : Nat → Bool) (hl : RowV W vl nl l) (ht : RowB W vt nt th) (hn : nl * 32 ≤ 140737488351232) (hn2 : nt ≤ 9223372036854775807) :
    Calls Tryz.prog 12 #[.int .i64 kind, num.agg, vl, vt] W (FillPost W (min nl nt) (fillL kind num l th)) := by
  obtain ⟨al, cl, rfl, hl⟩ := hl
  obtain ⟨at_, ct, rfl, ht⟩ := ht
  obtain ⟨n, hnn⟩ : ∃ n, min nl nt = n := ⟨_, rfl⟩
  have hm : min (nl : Int) (nt : Int) = (n : Int) := by omega
  obtain ⟨i0, hi, hz0, hz1, hz2⟩ := info_parts info27
  obtain ⟨j0, hj, hy0, hy1, hy2⟩ := info_parts info4
  have HI := Lib.hid hi
  have HZ0 := Lib.hid hz0
  have HZ1 := Lib.hid hz1
  have HZ2 := Lib.hid hz2
  have HJ := Lib.hid hj
  have HY0 := Lib.hid hy0
  have HY1 := Lib.hid hy1
  have HY2 := Lib.hid hy2
  have HL := Lib.hid hl
  have HT := Lib.hid ht
  have hnl : n ≤ nl ∧ n ≤ nt := by omega
  rw [hnn]
  obtain ⟨F, hF⟩ : ∃ F, fillL kind num l th = F := ⟨_, rfl⟩
  rw [hF]
  have HFF := Lib.hid hF
  unfold V3.agg
  clear hl ht hnn hF hi hz0 hz1 hz2 hj hy0 hy1 hy2
  go_enter Tryz.func12, Tryz.ntmps12
  go_wp2_with fail
  go_loopw [10, 11, 20] (fun v u i wr => ∃ (k c d : Nat) (x y : Option Addr), k ≤ n ∧ i = .int .i64 k ∧ v = .slice x k c ∧ u = .slice y k d ∧ FrAt W num F k v u wr) (fun _ _ i _ => n - (intOf i).toNat)
  case atStart => exact ⟨0, 0, 0, none, none, Nat.zero_le _, rfl, rfl, rfl, World.ownsRow_nil _ _ _ _, World.ownsRow_nil _ _ _ _, by have := heap_alloc_new W (.cells #[.int .i64 num.k, .int .u64 num.b, .string num.t] 27); exact this, (Below.refl _ _).alloc (Nat.le_refl _) _⟩
  case round =>
    obtain ⟨k, c, d, x, y, hk, rfl, rfl, rfl, hA⟩ := hrel
    have HA := Lib.hid hA
    by_cases hlt : k < n
    · obtain ⟨bt, ot, rfl, hbt, hct⟩ := HT.out k (by omega)
      have dt : wr.cell? ⟨bt, ot + k, none⟩ = some (.bool (th k)) := (hA.below.cell (p := ⟨bt, ot + k, none⟩) hbt).trans hct
      obtain ⟨bl, ol, rfl, hbl, hl0, hl1, hl2⟩ := HL.out k (by omega)
      have dl0 : wr.cell? ⟨bl, ol + k * 3, none⟩ = some (.int .i64 (l k).k) := (hA.below.cell (p := ⟨bl, _, none⟩) hbl).trans hl0
      have dl1 : wr.cell? ⟨bl, ol + k * 3 + 1, none⟩ = some (.int .u64 (l k).b) := (hA.below.cell (p := ⟨bl, _, none⟩) hbl).trans hl1
      have dl2 : wr.cell? ⟨bl, ol + k * 3 + 2, none⟩ = some (.string (l k).t) := (hA.below.cell (p := ⟨bl, _, none⟩) hbl).trans hl2
      have hbt2 : bt < wr.heap.size := Nat.lt_of_lt_of_le hbt hA.below.size
      have hbl2 : bl < wr.heap.size := Nat.lt_of_lt_of_le hbl hA.below.size
      have dx0 : wr.cell? ⟨W.heap.size, 0, none⟩ = some (.int .i64 num.k) := by simp [World.cell?, hA.box]
      have dx1 : wr.cell? ⟨W.heap.size, 1, none⟩ = some (.int .u64 num.b) := by simp [World.cell?, hA.box]
      have dx2 : wr.cell? ⟨W.heap.size, 2, none⟩ = some (.string num.t) := by simp [World.cell?, hA.box]
      have hWl := heap_lt hA.box
      clear hbt hct hbl hl0 hl1 hl2
      cases hth : th k with
      | true =>
        have HE := Lib.hid (show F k = (l k, true) by rw [← HFF.out]; exact fillL_th hth)
        obtain ⟨X, hX⟩ : ∃ X, l k = X := ⟨_, rfl⟩
        rw [hX] at HE dl0 dl1 dl2
        rw [hth] at dt
        clear hth hA hX
        go_upto_region 13 with (fail)
        refine wp_gen (FrV W num F k (.slice x k c) (.slice y k d) wr.heap.size X) (HA.out.var X) ?_
        obtain ⟨vb, hvb⟩ : ∃ vb, wr.heap.size = vb := ⟨_, rfl⟩
        rw [hvb]
        clear hvb
        intro w2 h2
        have H2 := Lib.hid h2
        have g0 : w2.cell? ⟨vb, 0, none⟩ = some (.int .i64 X.k) := by have := h2.var; simp [World.cell?, this]
        have g1 : w2.cell? ⟨vb, 1, none⟩ = some (.int .u64 X.b) := by have := h2.var; simp [World.cell?, this]
        have g2 : w2.cell? ⟨vb, 2, none⟩ = some (.string X.t) := by have := h2.var; simp [World.cell?, this]
        have hvl : vb < w2.heap.size := heap_lt h2.var
        have hWs : W.heap.size < w2.heap.size := heap_lt h2.at_.box
        clear h2
        go_wp2_with (first | (at_builtin; (refine wpList_append_own _ rfl (.tmp 54) (.tmp 56) 24 rfl (W.heap.size + 1) 27 i0 _ 3 32 Tryz.underlying24 HI.out HZ0.out HZ1.out HZ2.out rfl (by omega) _ k _ rfl (World.ownsRow.alloc H2.out.at_.out _) ⟨w2.heap.size, 0, none⟩ 1 1 [.int .i64 X.k, .int .u64 X.b, .string X.t] rfl rfl (World.news_of_block (cs := #[.int .i64 X.k, .int .u64 X.b, .string X.t]) (t := 27) (fr := (0, 0)) (heap_alloc_new w2 _)) (by simp [Value.oneCell']) (by unfold maxLen; omega) (by omega) (by simp; omega) ?_); intro v6 w6 hown6 hgrow6 hnn; clear hnn; have HO6 := Lib.hid hown6; have HF6 := Lib.hid (frO H2.out.at_ hgrow6); have hsz6 := HF6.out.lt; clear hown6 hgrow6) | (at_builtin; go_must (refine wpList_append_own _ rfl (.tmp 58) (.tmp 60) 38 rfl (W.heap.size + 1) 4 j0 _ 1 1 Tryz.underlying38 HJ.out HY0.out HY1.out HY2.out rfl (by omega) _ k _ rfl (World.ownsRow.alloc HF6.out.ok _) ⟨w6.heap.size, 0, none⟩ 1 1 [.bool true] rfl rfl (World.news_of_block (cs := #[.bool true]) (t := 4) (fr := (0, 0)) (heap_alloc_new w6 _)) (by simp [Value.oneCell']) (by unfold maxLen; omega) (by omega) (by simp; omega) ?_); intro u8 w8 hown8 hgrow8 hnn; clear hnn; have HR := Lib.hid (frAt_next HE.out HO6.out HF6.out hown8 hgrow8); clear hown8 hgrow8))
        obtain ⟨x6, c6, hv6⟩ := own_form HR.out.out
        obtain ⟨x8, c8, hu8⟩ := own_form HR.out.ok
        subst hv6 hu8
        go_roundw
        case rel => exact ⟨k + 1, c6, c8, x6, x8, by omega, by go_num, rfl, rfl, HR.out⟩
        case measure => simp [intOf]; omega
      | false =>
        rw [hth] at dt
        by_cases hk3 : kind = 3
        · by_cases h0 : 0 < k
          · have HE0 := Lib.hid (show F k = F (k - 1) by rw [← HFF.out]; exact fillL_prev hth hk3 h0)
            obtain ⟨gx, hgx, hgl, hgc⟩ := own_cell hA.out h0
            obtain ⟨gy, hgy, hgl2, hgc2⟩ := own_cell hA.ok h0
            obtain ⟨s0, s1, s2⟩ := cellsL_at F k (k - 1) (by omega)
            have s3 := boolsL_at F k (k - 1) (by omega)
            have r0 := (hgc ((k - 1) * 3) (by omega)).trans s0
            have r1 := (hgc ((k - 1) * 3 + 1) (by omega)).trans s1
            have r2 := (hgc ((k - 1) * 3 + 2) (by omega)).trans s2
            have r3 := (hgc2 (k - 1) (by omega)).trans s3
            obtain ⟨⟨X, bb⟩, hx⟩ : ∃ x, F (k - 1) = x := ⟨_, rfl⟩
            rw [hx] at r0 r1 r2 r3
            have HE := Lib.hid (show F k = (X, bb) by rw [HE0.out, hx])
            have hkb : (kind == 3) = true := by simp [hk3]
            have j1 : IntKind.i64.wrap ((k : Int) - 1) = (k : Int) - 1 := IntWalk.i64_in _ (by omega)
            have j2 : 0 ≤ (k : Int) - 1 := by omega
            have j3 : ((k : Int) - 1).toNat = k - 1 := by omega
            have j4 : (k : Int) - 1 < k := by omega
            have j5 : 1 ≤ (k : Int) := by omega
            subst hgx hgy
            clear hth hA hk3 hx HE0 hgc hgc2 s0 s1 s2 s3
            go_upto_region 10 with (fail)
            refine wp_gen (fun wq => FrV W num F k (.slice (some ⟨gx, 0, none⟩) k c) (.slice (some ⟨gy, 0, none⟩) k d) wr.heap.size zV wq ∧ wq.cell? ⟨gx, (k - 1) * 3, none⟩ = some (.int .i64 X.k) ∧ wq.cell? ⟨gx, (k - 1) * 3 + 1, none⟩ = some (.int .u64 X.b) ∧ wq.cell? ⟨gx, (k - 1) * 3 + 2, none⟩ = some (.string X.t) ∧ wq.cell? ⟨gy, k - 1, none⟩ = some (.bool bb))
              ⟨HA.out.var zV, (World.cell?_alloc_lt wr _ _ hgl).trans r0, (World.cell?_alloc_lt wr _ _ hgl).trans r1, (World.cell?_alloc_lt wr _ _ hgl).trans r2, (World.cell?_alloc_lt wr _ _ hgl2).trans r3⟩ ?_
            obtain ⟨vb, hvb⟩ : ∃ vb, wr.heap.size = vb := ⟨_, rfl⟩
            rw [hvb]
            clear hvb r0 r1 r2 r3 hgl hgl2
            rintro w1 ⟨h1, r0, r1, r2, r3⟩
            have H1 := Lib.hid h1
            have z0 : w1.cell? ⟨vb, 0, none⟩ = some (.int .i64 0) := by have := h1.var; simp [World.cell?, this, zV]
            have z1 : w1.cell? ⟨vb, 1, none⟩ = some (.int .u64 0) := by have := h1.var; simp [World.cell?, this, zV]
            have z2 : w1.cell? ⟨vb, 2, none⟩ = some (.string ⟨#[]⟩) := by have := h1.var; simp [World.cell?, this, zV]
            have zz : ∀ i, w1.frozen? ⟨vb, i, none⟩ = false := fun i => by have := h1.var; simp [World.frozen?, this]
            have ny : gy ≠ vb := fun e => h1.nu (by rw [e]; rfl)
            have nx : gx ≠ vb := fun e => h1.nv (by rw [e]; rfl)
            clear h1 dl0 dl1 dl2 dx0 dx1 dx2 dt
            go_region
            all_goals
              go_upto_region 13 with (fail)
              refine wp_gen (FrV W num F k (.slice (some ⟨gx, 0, none⟩) k c) (.slice (some ⟨gy, 0, none⟩) k d) vb X) (H1.out.put _ X) ?_
              clear r0 r1 r2 r3 z0 z1 z2 zz j1 j2 j3 j4 j5 ny nx
              intro w2 h2
              have H2 := Lib.hid h2
              have g0 : w2.cell? ⟨vb, 0, none⟩ = some (.int .i64 X.k) := by have := h2.var; simp [World.cell?, this]
              have g1 : w2.cell? ⟨vb, 1, none⟩ = some (.int .u64 X.b) := by have := h2.var; simp [World.cell?, this]
              have g2 : w2.cell? ⟨vb, 2, none⟩ = some (.string X.t) := by have := h2.var; simp [World.cell?, this]
              have hvl : vb < w2.heap.size := heap_lt h2.var
              have hWs : W.heap.size < w2.heap.size := heap_lt h2.at_.box
              clear h2
              go_wp2_with (first | (at_builtin; (refine wpList_append_own _ rfl (.tmp 54) (.tmp 56) 24 rfl (W.heap.size + 1) 27 i0 _ 3 32 Tryz.underlying24 HI.out HZ0.out HZ1.out HZ2.out rfl (by omega) _ k _ rfl (World.ownsRow.alloc H2.out.at_.out _) ⟨w2.heap.size, 0, none⟩ 1 1 [.int .i64 X.k, .int .u64 X.b, .string X.t] rfl rfl (World.news_of_block (cs := #[.int .i64 X.k, .int .u64 X.b, .string X.t]) (t := 27) (fr := (0, 0)) (heap_alloc_new w2 _)) (by simp [Value.oneCell']) (by unfold maxLen; omega) (by omega) (by simp; omega) ?_); intro v6 w6 hown6 hgrow6 hnn; clear hnn; have HO6 := Lib.hid hown6; have HF6 := Lib.hid (frO H2.out.at_ hgrow6); have hsz6 := HF6.out.lt; clear hown6 hgrow6) | (at_builtin; go_must (refine wpList_append_own _ rfl (.tmp 58) (.tmp 60) 38 rfl (W.heap.size + 1) 4 j0 _ 1 1 Tryz.underlying38 HJ.out HY0.out HY1.out HY2.out rfl (by omega) _ k _ rfl (World.ownsRow.alloc HF6.out.ok _) ⟨w6.heap.size, 0, none⟩ 1 1 [.bool bb] rfl rfl (World.news_of_block (cs := #[.bool bb]) (t := 4) (fr := (0, 0)) (heap_alloc_new w6 _)) (by simp [Value.oneCell']) (by unfold maxLen; omega) (by omega) (by simp; omega) ?_); intro u8 w8 hown8 hgrow8 hnn; clear hnn; have HR := Lib.hid (frAt_next HE.out HO6.out HF6.out hown8 hgrow8); clear hown8 hgrow8))
              obtain ⟨x6, c6, hv6⟩ := own_form HR.out.out
              obtain ⟨x8, c8, hu8⟩ := own_form HR.out.ok
              subst hv6 hu8
              go_roundw
              case rel => exact ⟨k + 1, c6, c8, x6, x8, by omega, by go_num, rfl, rfl, HR.out⟩
              case measure => simp [intOf]; omega
          · have hk0 : k = 0 := by omega
            have HE := Lib.hid (show F k = (zV, false) by rw [← HFF.out]; exact fillL_no hth (fun h => h0 h.2) (by omega))
            have hkb : (kind == 3) = true := by simp [hk3]
            have hkc : (kind == 4) = false := by simp; omega
            have hle : (k : Int) ≤ 0 := by omega
            clear hth hA hk3 hk0
            go_upto_region 13 with (fail)
            refine wp_gen (FrV W num F k (.slice x k c) (.slice y k d) wr.heap.size zV) (HA.out.var zV) ?_
            obtain ⟨vb, hvb⟩ : ∃ vb, wr.heap.size = vb := ⟨_, rfl⟩
            rw [hvb]
            clear hvb
            intro w2 h2
            have H2 := Lib.hid h2
            have g0 : w2.cell? ⟨vb, 0, none⟩ = some (.int .i64 zV.k) := by have := h2.var; simp [World.cell?, this]
            have g1 : w2.cell? ⟨vb, 1, none⟩ = some (.int .u64 zV.b) := by have := h2.var; simp [World.cell?, this]
            have g2 : w2.cell? ⟨vb, 2, none⟩ = some (.string zV.t) := by have := h2.var; simp [World.cell?, this]
            have hvl : vb < w2.heap.size := heap_lt h2.var
            have hWs : W.heap.size < w2.heap.size := heap_lt h2.at_.box
            clear h2
            go_wp2_with (first | (at_builtin; (refine wpList_append_own _ rfl (.tmp 54) (.tmp 56) 24 rfl (W.heap.size + 1) 27 i0 _ 3 32 Tryz.underlying24 HI.out HZ0.out HZ1.out HZ2.out rfl (by omega) _ k _ rfl (World.ownsRow.alloc H2.out.at_.out _) ⟨w2.heap.size, 0, none⟩ 1 1 [.int .i64 zV.k, .int .u64 zV.b, .string zV.t] rfl rfl (World.news_of_block (cs := #[.int .i64 zV.k, .int .u64 zV.b, .string zV.t]) (t := 27) (fr := (0, 0)) (heap_alloc_new w2 _)) (by simp [Value.oneCell']) (by unfold maxLen; omega) (by omega) (by simp; omega) ?_); intro v6 w6 hown6 hgrow6 hnn; clear hnn; have HO6 := Lib.hid hown6; have HF6 := Lib.hid (frO H2.out.at_ hgrow6); have hsz6 := HF6.out.lt; clear hown6 hgrow6) | (at_builtin; go_must (refine wpList_append_own _ rfl (.tmp 58) (.tmp 60) 38 rfl (W.heap.size + 1) 4 j0 _ 1 1 Tryz.underlying38 HJ.out HY0.out HY1.out HY2.out rfl (by omega) _ k _ rfl (World.ownsRow.alloc HF6.out.ok _) ⟨w6.heap.size, 0, none⟩ 1 1 [.bool false] rfl rfl (World.news_of_block (cs := #[.bool false]) (t := 4) (fr := (0, 0)) (heap_alloc_new w6 _)) (by simp [Value.oneCell']) (by unfold maxLen; omega) (by omega) (by simp; omega) ?_); intro u8 w8 hown8 hgrow8 hnn; clear hnn; have HR := Lib.hid (frAt_next HE.out HO6.out HF6.out hown8 hgrow8); clear hown8 hgrow8))
            obtain ⟨x6, c6, hv6⟩ := own_form HR.out.out
            obtain ⟨x8, c8, hu8⟩ := own_form HR.out.ok
            subst hv6 hu8
            go_roundw
            case rel => exact ⟨k + 1, c6, c8, x6, x8, by omega, by go_num, rfl, rfl, HR.out⟩
            case measure => simp [intOf]; omega
        · have hkb : (kind == 3) = false := by simp [hk3]
          by_cases hk4 : kind = 4
          · have HE := Lib.hid (show F k = (num, true) by rw [← HFF.out]; exact fillL_num hth hk4)
            have hkc : (kind == 4) = true := by simp [hk4]
            clear hth hA hk3 hk4
            go_upto_region 13 with (fail)
            refine wp_gen (FrV W num F k (.slice x k c) (.slice y k d) wr.heap.size num) (HA.out.var num) ?_
            obtain ⟨vb, hvb⟩ : ∃ vb, wr.heap.size = vb := ⟨_, rfl⟩
            rw [hvb]
            clear hvb
            intro w2 h2
            have H2 := Lib.hid h2
            have g0 : w2.cell? ⟨vb, 0, none⟩ = some (.int .i64 num.k) := by have := h2.var; simp [World.cell?, this]
            have g1 : w2.cell? ⟨vb, 1, none⟩ = some (.int .u64 num.b) := by have := h2.var; simp [World.cell?, this]
            have g2 : w2.cell? ⟨vb, 2, none⟩ = some (.string num.t) := by have := h2.var; simp [World.cell?, this]
            have hvl : vb < w2.heap.size := heap_lt h2.var
            have hWs : W.heap.size < w2.heap.size := heap_lt h2.at_.box
            clear h2
            go_wp2_with (first | (at_builtin; (refine wpList_append_own _ rfl (.tmp 54) (.tmp 56) 24 rfl (W.heap.size + 1) 27 i0 _ 3 32 Tryz.underlying24 HI.out HZ0.out HZ1.out HZ2.out rfl (by omega) _ k _ rfl (World.ownsRow.alloc H2.out.at_.out _) ⟨w2.heap.size, 0, none⟩ 1 1 [.int .i64 num.k, .int .u64 num.b, .string num.t] rfl rfl (World.news_of_block (cs := #[.int .i64 num.k, .int .u64 num.b, .string num.t]) (t := 27) (fr := (0, 0)) (heap_alloc_new w2 _)) (by simp [Value.oneCell']) (by unfold maxLen; omega) (by omega) (by simp; omega) ?_); intro v6 w6 hown6 hgrow6 hnn; clear hnn; have HO6 := Lib.hid hown6; have HF6 := Lib.hid (frO H2.out.at_ hgrow6); have hsz6 := HF6.out.lt; clear hown6 hgrow6) | (at_builtin; go_must (refine wpList_append_own _ rfl (.tmp 58) (.tmp 60) 38 rfl (W.heap.size + 1) 4 j0 _ 1 1 Tryz.underlying38 HJ.out HY0.out HY1.out HY2.out rfl (by omega) _ k _ rfl (World.ownsRow.alloc HF6.out.ok _) ⟨w6.heap.size, 0, none⟩ 1 1 [.bool true] rfl rfl (World.news_of_block (cs := #[.bool true]) (t := 4) (fr := (0, 0)) (heap_alloc_new w6 _)) (by simp [Value.oneCell']) (by unfold maxLen; omega) (by omega) (by simp; omega) ?_); intro u8 w8 hown8 hgrow8 hnn; clear hnn; have HR := Lib.hid (frAt_next HE.out HO6.out HF6.out hown8 hgrow8); clear hown8 hgrow8))
            obtain ⟨x6, c6, hv6⟩ := own_form HR.out.out
            obtain ⟨x8, c8, hu8⟩ := own_form HR.out.ok
            subst hv6 hu8
            go_roundw
            case rel => exact ⟨k + 1, c6, c8, x6, x8, by omega, by go_num, rfl, rfl, HR.out⟩
            case measure => simp [intOf]; omega
          · have HE := Lib.hid (show F k = (zV, false) by rw [← HFF.out]; exact fillL_no hth (fun h => hk3 h.1) hk4)
            have hkc : (kind == 4) = false := by simp [hk4]
            clear hth hA hk3 hk4
            go_upto_region 13 with (fail)
            refine wp_gen (FrV W num F k (.slice x k c) (.slice y k d) wr.heap.size zV) (HA.out.var zV) ?_
            obtain ⟨vb, hvb⟩ : ∃ vb, wr.heap.size = vb := ⟨_, rfl⟩
            rw [hvb]
            clear hvb
            intro w2 h2
            have H2 := Lib.hid h2
            have g0 : w2.cell? ⟨vb, 0, none⟩ = some (.int .i64 zV.k) := by have := h2.var; simp [World.cell?, this]
            have g1 : w2.cell? ⟨vb, 1, none⟩ = some (.int .u64 zV.b) := by have := h2.var; simp [World.cell?, this]
            have g2 : w2.cell? ⟨vb, 2, none⟩ = some (.string zV.t) := by have := h2.var; simp [World.cell?, this]
            have hvl : vb < w2.heap.size := heap_lt h2.var
            have hWs : W.heap.size < w2.heap.size := heap_lt h2.at_.box
            clear h2
            go_wp2_with (first | (at_builtin; (refine wpList_append_own _ rfl (.tmp 54) (.tmp 56) 24 rfl (W.heap.size + 1) 27 i0 _ 3 32 Tryz.underlying24 HI.out HZ0.out HZ1.out HZ2.out rfl (by omega) _ k _ rfl (World.ownsRow.alloc H2.out.at_.out _) ⟨w2.heap.size, 0, none⟩ 1 1 [.int .i64 zV.k, .int .u64 zV.b, .string zV.t] rfl rfl (World.news_of_block (cs := #[.int .i64 zV.k, .int .u64 zV.b, .string zV.t]) (t := 27) (fr := (0, 0)) (heap_alloc_new w2 _)) (by simp [Value.oneCell']) (by unfold maxLen; omega) (by omega) (by simp; omega) ?_); intro v6 w6 hown6 hgrow6 hnn; clear hnn; have HO6 := Lib.hid hown6; have HF6 := Lib.hid (frO H2.out.at_ hgrow6); have hsz6 := HF6.out.lt; clear hown6 hgrow6) | (at_builtin; go_must (refine wpList_append_own _ rfl (.tmp 58) (.tmp 60) 38 rfl (W.heap.size + 1) 4 j0 _ 1 1 Tryz.underlying38 HJ.out HY0.out HY1.out HY2.out rfl (by omega) _ k _ rfl (World.ownsRow.alloc HF6.out.ok _) ⟨w6.heap.size, 0, none⟩ 1 1 [.bool false] rfl rfl (World.news_of_block (cs := #[.bool false]) (t := 4) (fr := (0, 0)) (heap_alloc_new w6 _)) (by simp [Value.oneCell']) (by unfold maxLen; omega) (by omega) (by simp; omega) ?_); intro u8 w8 hown8 hgrow8 hnn; clear hnn; have HR := Lib.hid (frAt_next HE.out HO6.out HF6.out hown8 hgrow8); clear hown8 hgrow8))
            obtain ⟨x6, c6, hv6⟩ := own_form HR.out.out
            obtain ⟨x8, c8, hu8⟩ := own_form HR.out.ok
            subst hv6 hu8
            go_roundw
            case rel => exact ⟨k + 1, c6, c8, x6, x8, by omega, by go_num, rfl, rfl, HR.out⟩
            case measure => simp [intOf]; omega
    · have hkn : n = k := by omega
      have HK := Lib.hid hkn
      clear hkn
      go_wp2_with fail
      go_ret2
      have hK := HK.out
      subst hK
      refine ⟨_, _, rfl, ⟨_, _, rfl, fun i hi => ?_⟩, ⟨_, _, rfl, fun i hi => ?_⟩, HA.out.below⟩
      · have := HK.out
        obtain ⟨gx, hgx, hgl, hgc⟩ := own_cell HA.out.out (by omega)
        obtain ⟨s0, s1, s2⟩ := cellsL_at F n i (by omega)
        exact ⟨gx, 0, hgx, hgl, by rw [Nat.zero_add]; exact (hgc _ (by omega)).trans s0, by rw [Nat.zero_add]; exact (hgc _ (by omega)).trans s1, by rw [Nat.zero_add]; exact (hgc _ (by omega)).trans s2⟩
      · have := HK.out
        obtain ⟨gx, hgx, hgl, hgc⟩ := own_cell HA.out.ok (by omega)
        exact ⟨gx, 0, hgx, hgl, by rw [Nat.zero_add]; exact (hgc _ (by omega)).trans (boolsL_at F n i (by omega))⟩
end Go.Proofs.YtcpnmpemgkbanaaGreatDoor
