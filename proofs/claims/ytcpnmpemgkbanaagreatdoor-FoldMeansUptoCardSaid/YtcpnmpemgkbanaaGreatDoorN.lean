/- The walk of Fill. Condition: the rows' lengths fit. -/
import Derived.Test.YtcpnmpemgkbanaaGreatDoorM
import Derived.BigRegion
import Derived.IntWalk
namespace Go.Proofs.YtcpnmpemgkbanaaGreatDoor
open Go.RowKit Go.Sort
theorem info27 : (Tryz.prog.info? 27).map (fun i => (i.zero, i.size, i.bytes)) = some (some (.agg #[.int .i64 0, .int .u64 0, .string ⟨#[]⟩]), 3, 32) := by kernel_rfl
theorem info4 : (Tryz.prog.info? 4).map (fun i => (i.zero, i.size, i.bytes)) = some (some (.bool false), 1, 1) := by kernel_rfl
theorem made24 (n : Nat) (hn : n * 32 ≤ 140737488351232) (w : World) : (Instr.makeSlice 24 (.int .i64 (n : Int)) (.int .i64 (n : Int))).run Tryz.prog w = .ok (.slice (some ⟨w.heap.size, 0, none⟩) n n) (w.alloc (.cells (madeCells #[.int .i64 0, .int .u64 0, .string ⟨#[]⟩] (n * 3)) 27)) := by
  obtain ⟨i0, hi, hz0, hz1, hz2⟩ := info_parts info27
  have h := run_make (P := Tryz.prog) w 24 27 i0 _ Tryz.underlying24 hi hz0 .i64 .i64 n n (by omega) (Int.le_refl _) (by rw [hz2]; omega) (by omega)
  rw [hz1] at h
  simpa [Value.cells] using h
theorem made38 (n : Nat) (hn : n * 32 ≤ 140737488351232) (w : World) : (Instr.makeSlice 38 (.int .i64 (n : Int)) (.int .i64 (n : Int))).run Tryz.prog w = .ok (.slice (some ⟨w.heap.size, 0, none⟩) n n) (w.alloc (.cells (madeCells #[.bool false] n) 4)) := by
  obtain ⟨i0, hi, hz0, hz1, hz2⟩ := info_parts info4
  have h := run_make (P := Tryz.prog) w 38 4 i0 _ Tryz.underlying38 hi hz0 .i64 .i64 n n (by omega) (Int.le_refl _) (by rw [hz2]; omega) (by omega)
  rw [hz1] at h
  simpa [Value.cells] using h
theorem made_at (z : Array Value) (m i : Nat) (h : i < m) : (madeCells z m)[i]? = some z[i % z.size]! := by
  simp [madeCells, h]
theorem PV.made (w' : World) (p n : Nat) (h : w'.heap[p]? = some (.cells (madeCells #[.int .i64 0, .int .u64 0, .string ⟨#[]⟩] (n * 3)) 27 (0, 0))) : PV w' p n (fun _ => zV) :=
  ⟨_, h, size_madeCells _ _, fun j hj => by
    rw [made_at _ _ _ (by omega), made_at _ _ _ (by omega), made_at _ _ _ (by omega)]
    have h0 : j * 3 % 3 = 0 := by omega
    have h1 : (j * 3 + 1) % 3 = 1 := by omega
    have h2 : (j * 3 + 2) % 3 = 2 := by omega
    simp [h0, h1, h2, zV]⟩
theorem PB.made (w' : World) (p n : Nat) (h : w'.heap[p]? = some (.cells (madeCells #[.bool false] n) 4 (0, 0))) : PB w' p n (fun _ => false) :=
  ⟨_, h, size_madeCells _ _, fun j hj => by
    rw [made_at _ _ _ hj]
    simp [Nat.mod_one]⟩
def FillPost (W : World) (n : Nat) (F : Nat → V3 × Bool) (e : Ending) (w' : World) : Prop :=
  ∃ v1 v2, e = .returned (.tuple #[v1, v2]) ∧ RowV w' v1 n (fun i => (F i).1) ∧ RowB w' v2 n (fun i => (F i).2) ∧ Below W.heap.size W w'
def gV (F : Nat → V3 × Bool) (i : Nat) : Nat → V3 := fun j => if j < i then (F j).1 else zV
def gB (F : Nat → V3 × Bool) (i : Nat) : Nat → Bool := fun j => if j < i then (F j).2 else false
theorem gV_upd {F : Nat → V3 × Bool} {i : Nat} {x : V3} {b : Bool} (h : F i = (x, b)) : updV (gV F i) i x = gV F (i + 1) := by
  funext j
  unfold updV gV
  by_cases hj : j = i
  · subst hj; simp [h]
  · rw [if_neg hj]
    by_cases h1 : j < i
    · rw [if_pos h1, if_pos (by omega)]
    · rw [if_neg h1, if_neg (by omega)]
theorem gB_upd {F : Nat → V3 × Bool} {i : Nat} {x : V3} {b : Bool} (h : F i = (x, b)) : updB (gB F i) i b = gB F (i + 1) := by
  funext j
  unfold updB gB
  by_cases hj : j = i
  · subst hj; simp [h]
  · rw [if_neg hj]
    by_cases h1 : j < i
    · rw [if_pos h1, if_pos (by omega)]
    · rw [if_neg h1, if_neg (by omega)]
theorem gV_skip {F : Nat → V3 × Bool} {i : Nat} (h : F i = (zV, false)) : gV F i = gV F (i + 1) := by
  rw [← gV_upd h]
  funext j
  unfold updV gV
  by_cases hj : j = i
  · subst hj; simp
  · rw [if_neg hj]
theorem gB_skip {F : Nat → V3 × Bool} {i : Nat} (h : F i = (zV, false)) : gB F i = gB F (i + 1) := by
  rw [← gB_upd h]
  funext j
  unfold updB gB
  by_cases hj : j = i
  · subst hj; simp
  · rw [if_neg hj]
/-- On the way through Fill. -/
structure FlAt (W : World) (n p q : Nat) (num : V3) (F : Nat → V3 × Bool) (i : Nat) (wr : World) : Prop where
  pv : PV wr p n (gV F i)
  pb : PB wr q n (gB F i)
  box : wr.heap[W.heap.size]? = some (.cells #[.int .i64 num.k, .int .u64 num.b, .string num.t] 27 (0, 0))
  below : Below W.heap.size W wr
  hp : W.heap.size < p
  hq : W.heap.size < q
theorem FlAt.put {W wr : World} {n p q i : Nat} {num : V3} {F : Nat → V3 × Bool} (h : FlAt W n p q num F i wr) (hi : i < n) {x : V3} {b : Bool} (hF : F i = (x, b)) :
    FlAt W n p q num F (i + 1) ((((wr.setCell ⟨p, i * 3, none⟩ (.int .i64 x.k)).setCell ⟨p, i * 3 + 1, none⟩ (.int .u64 x.b)).setCell ⟨p, i * 3 + 2, none⟩ (.string x.t)).setCell ⟨q, i, none⟩ (.bool b)) := by
  have hpq := h.pv.ne h.pb
  have hp := h.hp
  have hq := h.hq
  refine ⟨?_, ?_, ?_, ?_, hp, hq⟩
  · rw [← gV_upd hF]
    exact (h.pv.set hi x).same (Below.heap_setCell _ ⟨q, i, none⟩ _ p hpq)
  · rw [← gB_upd hF]
    exact (h.pb.same (heap_set3 wr p q _ _ _ _ _ _ (fun e => hpq e.symm))).set hi b
  · rw [Below.heap_setCell _ ⟨q, i, none⟩ _ W.heap.size (by simp; omega), heap_set3 wr p W.heap.size _ _ _ _ _ _ (by omega)]
    exact h.box
  · exact (((h.below.setCell (p := ⟨p, _, none⟩) (by simp; omega) _).setCell (p := ⟨p, _, none⟩) (by simp; omega) _).setCell (p := ⟨p, _, none⟩) (by simp; omega) _).setCell (p := ⟨q, _, none⟩) (by simp; omega) _
theorem FlAt.put' {W wr : World} {n p q i : Nat} {num : V3} {F : Nat → V3 × Bool} (h : FlAt W n p q num F i wr) (hi : i < n) {x : V3} {b : Bool} (hF : F i = (x, b)) :
    FlAt W n p q num F (i + 1) ((((wr.setCell ⟨q, i, none⟩ (.bool b)).setCell ⟨p, i * 3, none⟩ (.int .i64 x.k)).setCell ⟨p, i * 3 + 1, none⟩ (.int .u64 x.b)).setCell ⟨p, i * 3 + 2, none⟩ (.string x.t)) := by
  have hpq := h.pv.ne h.pb
  have hp := h.hp
  have hq := h.hq
  refine ⟨?_, ?_, ?_, ?_, hp, hq⟩
  · rw [← gV_upd hF]
    exact (h.pv.same (Below.heap_setCell _ ⟨q, i, none⟩ _ p hpq)).set hi x
  · rw [← gB_upd hF]
    exact (h.pb.set hi b).same (heap_set3 _ p q _ _ _ _ _ _ (fun e => hpq e.symm))
  · rw [heap_set3 _ p W.heap.size _ _ _ _ _ _ (by omega), Below.heap_setCell _ ⟨q, i, none⟩ _ W.heap.size (by simp; omega)]
    exact h.box
  · exact (((h.below.setCell (p := ⟨q, _, none⟩) (by simp; omega) _).setCell (p := ⟨p, _, none⟩) (by simp; omega) _).setCell (p := ⟨p, _, none⟩) (by simp; omega) _).setCell (p := ⟨p, _, none⟩) (by simp; omega) _
theorem FlAt.skip {W wr : World} {n p q i : Nat} {num : V3} {F : Nat → V3 × Bool} (h : FlAt W n p q num F i wr) (hF : F i = (zV, false)) : FlAt W n p q num F (i + 1) wr :=
  ⟨by rw [← gV_skip hF]; exact h.pv, by rw [← gB_skip hF]; exact h.pb, h.box, h.below, h.hp, h.hq⟩
theorem FlAt.drewN {W wr : World} {n p q i : Nat} {num : V3} {F : Nat → V3 × Bool} (h : FlAt W n p q num F i wr) (m : Nat) : FlAt W n p q num F i (wr.drewN m) :=
  ⟨⟨h.pv.ex⟩, ⟨h.pb.ex⟩, h.box, ⟨h.below.os, h.below.tape, h.below.output, h.below.size, h.below.block⟩, h.hp, h.hq⟩
theorem fillL_th {kind : Int} {num : V3} {l : Nat → V3} {th : Nat → Bool} {i : Nat} (h : th i = true) : fillL kind num l th i = (l i, true) := by cases i <;> simp [fillL, h]
theorem fillL_prev {kind : Int} {num : V3} {l : Nat → V3} {th : Nat → Bool} {i : Nat} (h : th i = false) (hk : kind = 3) (hi : 0 < i) : fillL kind num l th i = fillL kind num l th (i - 1) := by
  cases i with
  | zero => omega
  | succ i => simp [fillL, h, hk]
theorem fillL_num {kind : Int} {num : V3} {l : Nat → V3} {th : Nat → Bool} {i : Nat} (h : th i = false) (hk : kind = 4) : fillL kind num l th i = (num, true) := by cases i <;> simp [fillL, h, hk]
theorem fillL_no {kind : Int} {num : V3} {l : Nat → V3} {th : Nat → Bool} {i : Nat} (h : th i = false) (hk : ¬ (kind = 3 ∧ 0 < i)) (hk4 : kind ≠ 4) : fillL kind num l th i = (zV, false) := by
  cases i with
  | zero => simp [fillL, h, hk4]
  | succ i =>
    have : kind ≠ 3 := fun e => hk ⟨e, by omega⟩
    simp [fillL, h, hk4, this]
theorem blk3 (W w' : World) (o0 o1 o2 : Obj) (h : w'.heap = (((W.alloc o0).alloc o1).alloc o2).heap) : w'.heap[W.heap.size]? = some o0 ∧ w'.heap[W.heap.size + 1]? = some o1 ∧ w'.heap[W.heap.size + 1 + 1]? = some o2 := by
  rw [h]
  refine ⟨?_, ?_, ?_⟩
  · rw [Below.heap_alloc _ o2 _ (by simp; omega), Below.heap_alloc _ o1 _ (by simp)]; exact heap_alloc_new W o0
  · rw [Below.heap_alloc _ o2 _ (by simp)]
    have := heap_alloc_new (W.alloc o0) o1
    simpa using this
  · have := heap_alloc_new ((W.alloc o0).alloc o1) o2
    simpa using this
theorem below3 (W w' : World) (o0 o1 o2 : Obj) (h : w'.heap = (((W.alloc o0).alloc o1).alloc o2).heap) (h1 : w'.os = W.os) (h2 : w'.tape = W.tape) (h3 : w'.output = W.output) : Below W.heap.size W w' := by
  have hb : Below W.heap.size W (((W.alloc o0).alloc o1).alloc o2) := (((Below.refl _ _).alloc (Nat.le_refl _) o0).alloc (by simp) o1).alloc (by simp; omega) o2
  exact ⟨h1, h2, h3, by rw [h]; exact hb.size, fun k hk => by rw [h]; exact hb.block k hk⟩
set_option maxRecDepth 100000 in
set_option maxHeartbeats 2000000 in
theorem fill11 (W : World) (kind : Int) (num : V3) (vl vt : Value) (nl nt : Nat) (l : Nat → V3) (th : Nat → Bool) (hl : RowV W vl nl l) (ht : RowB W vt nt th) (hn : nl * 32 ≤ 140737488351232) (hn2 : nt ≤ 9223372036854775807) :
    Calls Tryz.prog 11 #[.int .i64 kind, num.agg, vl, vt] W (FillPost W (min nl nt) (fillL kind num l th)) := by
  obtain ⟨al, cl, rfl, hl⟩ := hl
  obtain ⟨at_, ct, rfl, ht⟩ := ht
  obtain ⟨n, hnn⟩ : ∃ n, min nl nt = n := ⟨_, rfl⟩
  have hm : min (nl : Int) (nt : Int) = (n : Int) := by omega
  have k1 := made24 n (by omega)
  have k2 := made38 n (by omega)
  have HL := Lib.hid hl
  have HT := Lib.hid ht
  have hnl : n ≤ nl ∧ n ≤ nt := by omega
  rw [hnn]
  obtain ⟨F, hF⟩ : ∃ F, fillL kind num l th = F := ⟨_, rfl⟩
  rw [hF]
  have HFF := Lib.hid hF
  unfold V3.agg
  clear hl ht hnn hF
  go_enter Tryz.func11, Tryz.ntmps11
  go_wp2_with fail
  go_region
  · go_wp2_with fail
    refine wp_gen (FlAt W n (W.heap.size + 1) (W.heap.size + 1 + 1) num F 0) ⟨PV.made _ _ n ?_, PB.made _ _ n ?_, ?_, ?_, by omega, by omega⟩ ?_
    · exact (blk3 W _ _ _ _ rfl).2.1
    · exact (blk3 W _ _ _ _ rfl).2.2
    · exact (blk3 W _ _ _ _ rfl).1
    · exact below3 W _ _ _ _ rfl rfl rfl rfl
    intro w1 h1
    have H1 := Lib.hid h1
    clear h1 k1 k2
    obtain ⟨p, hp⟩ : ∃ p, W.heap.size + 1 + 1 = p := ⟨_, rfl⟩
    rw [hp] at H1 ⊢
    obtain ⟨q, hq⟩ : ∃ q, W.heap.size + 1 = q := ⟨_, rfl⟩
    rw [hq] at H1 ⊢
    clear hp hq
    go_loopw [24] (fun i wr => ∃ k : Nat, k ≤ n ∧ i = .int .i64 k ∧ FlAt W n q p num F k wr) (fun i _ => n - (intOf i).toNat)
    case atStart => exact ⟨0, Nat.zero_le _, rfl, H1.out⟩
    case round =>
      obtain ⟨k, hk, rfl, hA⟩ := hrel
      have HA := Lib.hid hA
      by_cases hlt : k < n
      · obtain ⟨bt, ot, rfl, hbt, hct⟩ := HT.out k (by omega)
        have dt : wr.cell? ⟨bt, ot + k, none⟩ = some (.bool (th k)) := (hA.below.cell (p := ⟨bt, ot + k, none⟩) hbt).trans hct
        obtain ⟨pc0, pc1, pc2⟩ := hA.pv.cells hlt
        have qc := hA.pb.cells hlt
        have pz := hA.pv.free
        have qz := hA.pb.free
        have hne := hA.pv.ne hA.pb
        obtain ⟨bl, ol, rfl, hbl, hl0, hl1, hl2⟩ := HL.out k (by omega)
        have dl0 : wr.cell? ⟨bl, ol + k * 3, none⟩ = some (.int .i64 (l k).k) := (hA.below.cell (p := ⟨bl, _, none⟩) hbl).trans hl0
        have dl1 : wr.cell? ⟨bl, ol + k * 3 + 1, none⟩ = some (.int .u64 (l k).b) := (hA.below.cell (p := ⟨bl, _, none⟩) hbl).trans hl1
        have dl2 : wr.cell? ⟨bl, ol + k * 3 + 2, none⟩ = some (.string (l k).t) := (hA.below.cell (p := ⟨bl, _, none⟩) hbl).trans hl2
        have dx0 : wr.cell? ⟨W.heap.size, 0, none⟩ = some (.int .i64 num.k) := by simp [World.cell?, hA.box]
        have dx1 : wr.cell? ⟨W.heap.size, 1, none⟩ = some (.int .u64 num.b) := by simp [World.cell?, hA.box]
        have dx2 : wr.cell? ⟨W.heap.size, 2, none⟩ = some (.string num.t) := by simp [World.cell?, hA.box]
        have hpl := hA.pv.lt
        have hql := hA.pb.lt
        clear hbt hct hbl hl0 hl1 hl2
        cases hth : th k with
        | true =>
          have HE := Lib.hid (show F k = (l k, true) by rw [← HFF.out]; exact fillL_th hth)
          rw [hth] at dt
          clear hth hA
          go_wp2_with fail
          go_roundw
          case rel => exact ⟨k + 1, by omega, by go_num, HA.out.put hlt HE.out⟩
          case measure => simp [intOf]; omega
        | false =>
          rw [hth] at dt
          by_cases hk3 : kind = 3
          · by_cases h0 : 0 < k
            · have HE0 := Lib.hid (show F k = F (k - 1) by rw [← HFF.out]; exact fillL_prev hth hk3 h0)
              obtain ⟨r0, r1, r2⟩ := hA.pv.cells (j := k - 1) (by omega)
              have r3 := hA.pb.cells (j := k - 1) (by omega)
              have hgv : gV F k (k - 1) = (F (k - 1)).1 := if_pos (by omega)
              have hgb : gB F k (k - 1) = (F (k - 1)).2 := if_pos (by omega)
              rw [hgv] at r0 r1 r2
              rw [hgb] at r3
              obtain ⟨⟨x, b⟩, hx⟩ : ∃ x, F (k - 1) = x := ⟨_, rfl⟩
              rw [hx] at r0 r1 r2 r3
              have HE := Lib.hid (show F k = (x, b) by rw [HE0.out, hx])
              have hkb : (kind == 3) = true := by simp [hk3]
              have j1 : IntKind.i64.wrap ((k : Int) - 1) = (k : Int) - 1 := IntWalk.i64_in _ (by omega)
              have j2 : 0 ≤ (k : Int) - 1 := by omega
              have j3 : ((k : Int) - 1).toNat = k - 1 := by omega
              have j4 : (k : Int) - 1 < n := by omega
              clear hth hA hk3 hgv hgb hx HE0
              go_wp2_with fail
              go_region
              all_goals
                clear j1 j3
                go_wp2_with fail
                go_roundw
                case rel => first | exact ⟨k + 1, by omega, by go_num, (HA.out.drewN _).put hlt HE.out⟩ | exact ⟨k + 1, by omega, by go_num, (HA.out.drewN _).put' hlt HE.out⟩
                case measure => simp [intOf]; omega
            · have hk0 : k = 0 := by omega
              have HE := Lib.hid (show F k = (zV, false) by rw [← HFF.out]; exact fillL_no hth (fun h => h0 h.2) (by omega))
              have hkb : (kind == 3) = true := by simp [hk3]
              have hkc : (kind == 4) = false := by simp; omega
              have hle : (k : Int) ≤ 0 := by omega
              clear hth hA hk3 hk0
              go_wp2_with fail
              go_roundw
              case rel => exact ⟨k + 1, by omega, by go_num, HA.out.skip HE.out⟩
              case measure => simp [intOf]; omega
          · have hkb : (kind == 3) = false := by simp [hk3]
            by_cases hk4 : kind = 4
            · have HE := Lib.hid (show F k = (num, true) by rw [← HFF.out]; exact fillL_num hth hk4)
              have hkc : (kind == 4) = true := by simp [hk4]
              clear hth hA hk3 hk4
              go_wp2_with fail
              go_roundw
              case rel => exact ⟨k + 1, by omega, by go_num, HA.out.put hlt HE.out⟩
              case measure => simp [intOf]; omega
            · have HE := Lib.hid (show F k = (zV, false) by rw [← HFF.out]; exact fillL_no hth (fun h => hk3 h.1) hk4)
              have hkc : (kind == 4) = false := by simp [hk4]
              clear hth hA hk3 hk4
              go_wp2_with fail
              go_roundw
              case rel => exact ⟨k + 1, by omega, by go_num, HA.out.skip HE.out⟩
              case measure => simp [intOf]; omega
      · have hkn : n = k := by omega
        have HK := Lib.hid hkn
        clear hkn hA
        go_wp2_with fail
        go_ret2
        refine ⟨_, _, rfl, (HA.out.pv.row n).congr fun i hi => ?_, (HA.out.pb.row n).congr fun i hi => ?_, HA.out.below⟩
        · exact if_pos (by have := HK.out; omega)
        · exact if_pos (by have := HK.out; omega)
  · go_wp2_with fail
    refine wp_gen (FlAt W n (W.heap.size + 1 + 1) (W.heap.size + 1) num F 0) ⟨PV.made _ _ n ?_, PB.made _ _ n ?_, ?_, ?_, by omega, by omega⟩ ?_
    · exact (blk3 W _ _ _ _ rfl).2.2
    · exact (blk3 W _ _ _ _ rfl).2.1
    · exact (blk3 W _ _ _ _ rfl).1
    · exact below3 W _ _ _ _ rfl rfl rfl rfl
    intro w1 h1
    have H1 := Lib.hid h1
    clear h1 k1 k2
    obtain ⟨p, hp⟩ : ∃ p, W.heap.size + 1 + 1 = p := ⟨_, rfl⟩
    rw [hp] at H1 ⊢
    obtain ⟨q, hq⟩ : ∃ q, W.heap.size + 1 = q := ⟨_, rfl⟩
    rw [hq] at H1 ⊢
    clear hp hq
    go_loopw [24] (fun i wr => ∃ k : Nat, k ≤ n ∧ i = .int .i64 k ∧ FlAt W n p q num F k wr) (fun i _ => n - (intOf i).toNat)
    case atStart => exact ⟨0, Nat.zero_le _, rfl, H1.out⟩
    case round =>
      obtain ⟨k, hk, rfl, hA⟩ := hrel
      have HA := Lib.hid hA
      by_cases hlt : k < n
      · obtain ⟨bt, ot, rfl, hbt, hct⟩ := HT.out k (by omega)
        have dt : wr.cell? ⟨bt, ot + k, none⟩ = some (.bool (th k)) := (hA.below.cell (p := ⟨bt, ot + k, none⟩) hbt).trans hct
        obtain ⟨pc0, pc1, pc2⟩ := hA.pv.cells hlt
        have qc := hA.pb.cells hlt
        have pz := hA.pv.free
        have qz := hA.pb.free
        have hne := hA.pv.ne hA.pb
        obtain ⟨bl, ol, rfl, hbl, hl0, hl1, hl2⟩ := HL.out k (by omega)
        have dl0 : wr.cell? ⟨bl, ol + k * 3, none⟩ = some (.int .i64 (l k).k) := (hA.below.cell (p := ⟨bl, _, none⟩) hbl).trans hl0
        have dl1 : wr.cell? ⟨bl, ol + k * 3 + 1, none⟩ = some (.int .u64 (l k).b) := (hA.below.cell (p := ⟨bl, _, none⟩) hbl).trans hl1
        have dl2 : wr.cell? ⟨bl, ol + k * 3 + 2, none⟩ = some (.string (l k).t) := (hA.below.cell (p := ⟨bl, _, none⟩) hbl).trans hl2
        have dx0 : wr.cell? ⟨W.heap.size, 0, none⟩ = some (.int .i64 num.k) := by simp [World.cell?, hA.box]
        have dx1 : wr.cell? ⟨W.heap.size, 1, none⟩ = some (.int .u64 num.b) := by simp [World.cell?, hA.box]
        have dx2 : wr.cell? ⟨W.heap.size, 2, none⟩ = some (.string num.t) := by simp [World.cell?, hA.box]
        have hpl := hA.pv.lt
        have hql := hA.pb.lt
        clear hbt hct hbl hl0 hl1 hl2
        cases hth : th k with
        | true =>
          have HE := Lib.hid (show F k = (l k, true) by rw [← HFF.out]; exact fillL_th hth)
          rw [hth] at dt
          clear hth hA
          go_wp2_with fail
          go_roundw
          case rel => exact ⟨k + 1, by omega, by go_num, HA.out.put hlt HE.out⟩
          case measure => simp [intOf]; omega
        | false =>
          rw [hth] at dt
          by_cases hk3 : kind = 3
          · by_cases h0 : 0 < k
            · have HE0 := Lib.hid (show F k = F (k - 1) by rw [← HFF.out]; exact fillL_prev hth hk3 h0)
              obtain ⟨r0, r1, r2⟩ := hA.pv.cells (j := k - 1) (by omega)
              have r3 := hA.pb.cells (j := k - 1) (by omega)
              have hgv : gV F k (k - 1) = (F (k - 1)).1 := if_pos (by omega)
              have hgb : gB F k (k - 1) = (F (k - 1)).2 := if_pos (by omega)
              rw [hgv] at r0 r1 r2
              rw [hgb] at r3
              obtain ⟨⟨x, b⟩, hx⟩ : ∃ x, F (k - 1) = x := ⟨_, rfl⟩
              rw [hx] at r0 r1 r2 r3
              have HE := Lib.hid (show F k = (x, b) by rw [HE0.out, hx])
              have hkb : (kind == 3) = true := by simp [hk3]
              have j1 : IntKind.i64.wrap ((k : Int) - 1) = (k : Int) - 1 := IntWalk.i64_in _ (by omega)
              have j2 : 0 ≤ (k : Int) - 1 := by omega
              have j3 : ((k : Int) - 1).toNat = k - 1 := by omega
              have j4 : (k : Int) - 1 < n := by omega
              clear hth hA hk3 hgv hgb hx HE0
              go_wp2_with fail
              go_region
              all_goals
                clear j1 j3
                go_wp2_with fail
                go_roundw
                case rel => first | exact ⟨k + 1, by omega, by go_num, (HA.out.drewN _).put hlt HE.out⟩ | exact ⟨k + 1, by omega, by go_num, (HA.out.drewN _).put' hlt HE.out⟩
                case measure => simp [intOf]; omega
            · have hk0 : k = 0 := by omega
              have HE := Lib.hid (show F k = (zV, false) by rw [← HFF.out]; exact fillL_no hth (fun h => h0 h.2) (by omega))
              have hkb : (kind == 3) = true := by simp [hk3]
              have hkc : (kind == 4) = false := by simp; omega
              have hle : (k : Int) ≤ 0 := by omega
              clear hth hA hk3 hk0
              go_wp2_with fail
              go_roundw
              case rel => exact ⟨k + 1, by omega, by go_num, HA.out.skip HE.out⟩
              case measure => simp [intOf]; omega
          · have hkb : (kind == 3) = false := by simp [hk3]
            by_cases hk4 : kind = 4
            · have HE := Lib.hid (show F k = (num, true) by rw [← HFF.out]; exact fillL_num hth hk4)
              have hkc : (kind == 4) = true := by simp [hk4]
              clear hth hA hk3 hk4
              go_wp2_with fail
              go_roundw
              case rel => exact ⟨k + 1, by omega, by go_num, HA.out.put hlt HE.out⟩
              case measure => simp [intOf]; omega
            · have HE := Lib.hid (show F k = (zV, false) by rw [← HFF.out]; exact fillL_no hth (fun h => hk3 h.1) hk4)
              have hkc : (kind == 4) = false := by simp [hk4]
              clear hth hA hk3 hk4
              go_wp2_with fail
              go_roundw
              case rel => exact ⟨k + 1, by omega, by go_num, HA.out.skip HE.out⟩
              case measure => simp [intOf]; omega
      · have hkn : n = k := by omega
        have HK := Lib.hid hkn
        clear hkn hA
        go_wp2_with fail
        go_ret2
        refine ⟨_, _, rfl, (HA.out.pv.row n).congr fun i hi => ?_, (HA.out.pb.row n).congr fun i hi => ?_, HA.out.below⟩
        · exact if_pos (by have := HK.out; omega)
        · exact if_pos (by have := HK.out; omega)
end Go.Proofs.YtcpnmpemgkbanaaGreatDoor
