/- The document's disk: the names of its files; a file is made safe, or taken away. Condition: the files' number. -/
import Derived.Test.YtjkgcpbgacdgaaaAI
namespace Go.Proofs.Ytjkgcpbgacdgaaa
open Go.RowKit Go.Sort
/-- The document's disk behind a call: its files are those of L. -/
def capOk : Value → Prop
  | .slice _ n c => n ≤ c
  | _ => True
/-- No file's bytes pass their room. -/
def Caps (R : List RFile) : Prop := ∀ e ∈ R, capOk e.v
theorem Caps.set {R : List RFile} (h : Caps R) (k : Nat) {x : RFile} (hx : capOk x.v) : Caps (R.set k x) := fun e he => by
  rcases List.mem_or_eq_of_mem_set he with h1 | rfl
  · exact h e h1
  · exact hx
theorem Caps.erase {R : List RFile} (h : Caps R) (k : Nat) : Caps (R.eraseIdx k) := fun e he => h e (List.mem_of_mem_eraseIdx he)
theorem Caps.ins {R : List RFile} (h : Caps R) (k : Nat) {x : RFile} (hx : capOk x.v) : Caps (R.take k ++ x :: R.drop k) := fun e he => by
  rcases List.mem_append.1 he with he | he
  · exact h e (List.mem_of_mem_take he)
  · rcases List.mem_cons.1 he with rfl | he
    · exact hx
    · exact h e (List.mem_of_mem_drop he)
theorem Caps.at_ {R : List RFile} (h : Caps R) {k : Nat} {x : RFile} (hx : R[k]? = some x) : capOk x.v := h x (List.mem_of_getElem? hx)
def RefIs (w w' : World) (T : Nat → Prop) (r : Nat) (L : List Ent) (room fuse : Int) (down : Bool) : Prop := ∃ R', Like L R' ∧ Turns T w w' ∧ Caps R' ∧ RefAt w' (With T w w') r R' room fuse down
theorem OnlyD.ref {w w' : World} {T : Nat → Prop} {r : Nat} {L : List Ent} {R : List RFile} {room fuse : Int} {down : Bool} (ho : OnlyD r w w') (hr : RefAt w' T r R room fuse down) (hl : Like L R) (hc : Caps R) : RefIs w w' T r L room fuse down :=
  ⟨R, hl, ho.turns hr.here, hc, hr.more fun _ h => .inl h⟩
theorem RefIs.same {w : World} {T : Nat → Prop} {r : Nat} {L : List Ent} {R : List RFile} {room fuse : Int} {down : Bool} (hr : RefAt w T r R room fuse down) (hl : Like L R) (hc : Caps R) : RefIs w w T r L room fuse down :=
  ⟨R, hl, Turns.refl _ _, hc, hr.more fun _ h => .inl h⟩
theorem there_like {L : List Ent} {R : List RFile} (h : Like L R) (ha : Apart (L.map pE)) (down : Bool) (s : ByteArray) :
    (thereI R down s).2 = (getE L down s).2 ∧ ((thereI R down s).2 = 0 → down = false ∧ ∃ (k : Nat) (x : RFile) (e : Ent), (thereI R down s).1 = k ∧ R[k]? = some x ∧ x.name = s ∧ look L s = some e ∧ pE e = pR x ∧ (getE L down s).1 = some e) := by
  cases down with
  | true => exact ⟨rfl, fun h => by simp [thereI] at h⟩
  | false =>
    rcases find_like h ha s with ⟨k, x, e, h1, h2, _, h3, h4, h5⟩ | ⟨h1, h2, _⟩
    · have hn : ¬ findI R s < 0 := by rw [h1]; omega
      have h9 : thereI R false s = (findI R s, 0) := by simp [thereI, hn]
      refine ⟨by simp [thereI, hn, getE, h4], fun _ => ⟨rfl, k, x, e, (congrArg Prod.fst h9).trans h1, h2, h3, h4, h5, by simp [getE, h4]⟩⟩
    · have hn : findI R s < 0 := by rw [h1]; omega
      exact ⟨by simp [thereI, hn, getE, h2], fun h => by simp [thereI, hn] at h⟩
theorem zinfo9 : (Try.prog.info? 9).map (fun i => (i.zero, i.size, i.bytes)) = some (some (.string ⟨#[]⟩), 1, 16) := by kernel_rfl
def InList (w : World) (n : Nat) (R : List RFile) (u i : Value) (wr : World) : Prop :=
  ∃ k : Nat, k ≤ n ∧ i = .int .i64 k ∧ Below w.heap.size w wr ∧ ∃ a c, u = .slice a k c ∧ wr.ownsRow w.heap.size 9 1 (.slice a k c) k ((R.take k).map fun e => .string e.name)
set_option maxRecDepth 100000 in
theorem refList (w : World) (T : Nat → Prop) (r : Nat) (R : List RFile) (room fuse : Int) (down : Bool) (h : RefAt w T r R room fuse down) (hn : R.length ≤ 1000000000000) :
    Calls Try.prog 62 #[.pointer (some ⟨r, 0, none⟩)] w fun e w' => ∃ v, e = .returned v ∧ w'.ownsRow w.heap.size 9 1 v (if down then 0 else R.length) (if down then [] else R.map fun e => .string e.name) ∧ Below w.heap.size w w' := by
  obtain ⟨fv, fz, hb, _, hrow, _⟩ := h.blk
  obtain ⟨a, cap, rfl⟩ : ∃ a cap, fv = .slice a R.length cap := by
    rcases hrow.2 with ⟨rfl, h0⟩ | ⟨g, cap, cur, rfl, _⟩
    · exact ⟨none, 0, by rw [h0]⟩
    · exact ⟨_, cap, rfl⟩
  have c0 : w.cell? ⟨r, 0, none⟩ = some (.slice a R.length cap) := by simp [World.cell?, hb]
  have c4 : w.cell? ⟨r, 4, none⟩ = some (.bool down) := by simp [World.cell?, hb]
  have HRL := Lib.hid (show r < w.heap.size from World.block_lt_of_cell? w _ c0)
  obtain ⟨n, hN⟩ : ∃ n, R.length = n := ⟨_, rfl⟩
  have HN := Lib.hid hN
  have HROW := Lib.hid hrow
  have HC4 := Lib.hid c4
  have HC0 := Lib.hid c0
  rw [hN] at c0 hn HC0 HROW
  have hm := wpList_append_own_at (P := Try.prog)
  have HM := Lib.hid hm
  obtain ⟨i0, hi, hz0, hz1, hz2⟩ := info_parts zinfo9
  have HI := Lib.hid hi
  have HI0 := Lib.hid hz0
  have HI1 := Lib.hid hz1
  have HI2 := Lib.hid hz2
  rw [hN]
  clear h hb hrow hN hm hi hz0 hz1 hz2
  cases down with
  | true =>
    go_enter Try.func62, Try.ntmps62
    go_wp2_with fail
    go_loop [3, 10, 4] (fun u i _ => ∃ k : Nat, k ≤ n ∧ i = .int .i64 k ∧ u = .slice none 0 0) (fun _ i _ => n - (intOf i).toNat)
    case atStart => exact ⟨0, Nat.zero_le _, rfl, rfl⟩
    case round =>
      obtain ⟨k, hk, rfl, rfl⟩ := hrel
      by_cases hlt : k < n
      · go_wp2_with fail
        go_round
        case rel => exact ⟨k + 1, by omega, by go_num, rfl⟩
        case measure => simp [intOf]; omega
      · go_wp2_with fail
        go_ret
        exact ⟨_, rfl, World.ownsRow_nil _ _ _ _, Below.refl _ _⟩
  | false =>
    go_enter Try.func62, Try.ntmps62
    go_wp2_with fail
    clear c0 c4
    go_loopw [3, 10, 4] (fun u i _ wr => InList w n R u i wr) (fun _ i _ _ => n - (intOf i).toNat)
    case atStart => exact ⟨0, Nat.zero_le _, rfl, Below.refl _ _, none, 0, rfl, World.ownsRow_nil _ _ _ _⟩
    case round =>
      obtain ⟨k, hk, rfl, hbl, ua, uc, rfl, hu⟩ := hrel
      have c0 := (hbl.cell (p := ⟨r, 0, none⟩) HRL.out).trans HC0.out
      have c4 := (hbl.cell (p := ⟨r, 4, none⟩) HRL.out).trans HC4.out
      have HBL := Lib.hid hbl
      have HU := Lib.hid hu
      clear hbl hu
      by_cases hlt : k < n
      · obtain ⟨x, hx⟩ : ∃ x, R[k]? = some x := ⟨_, List.getElem?_eq_getElem (by rw [HN.out]; exact hlt)⟩
        obtain ⟨g, rfl, hc⟩ : ∃ g, a = some ⟨g, 0, none⟩ ∧ wr.cell? ⟨g, k * 3, none⟩ = some (.string x.name) := by
          have hr := HROW.out
          rcases hr.2 with ⟨_, h0⟩ | ⟨g, cap', cur, hv, _⟩
          · omega
          · injection hv with e1 e2 e3
            subst e1
            refine ⟨g, rfl, ?_⟩
            rw [HBL.out.cell (p := ⟨g, k * 3, none⟩) (hr.lt g rfl).2, hr.cellAt (k * 3) (by omega)]
            exact (refCells_at R k x hx).1
        have HX := Lib.hid hx
        clear hx
        go_wp2_with (at_builtin; refine HM.out _ rfl _ _ 48 rfl w.heap.size 9 i0 _ 1 16 Try.underlying48 HI.out HI0.out HI1.out HI2.out rfl (by omega) (.slice ua k uc) k _ rfl (HU.out.alloc _) ⟨wr.heap.size, 0, none⟩ 1 1 [.string x.name] rfl rfl (cell_one_new _ _ _) (by simp [Value.oneCell']) (by unfold maxLen; omega) (by omega) (by have := HBL.out.size; simp; omega) ?_; intro v3 w3 hr3 hg3 _ hat3)
        have hform : ∃ a' c', v3 = .slice a' (k + 1) c' := by
          rcases hr3.2 with ⟨rfl, h0⟩ | ⟨g, cap, cur, rfl, _⟩
          · exact ⟨none, 0, by rw [h0]⟩
          · exact ⟨_, cap, rfl⟩
        obtain ⟨a', c', rfl⟩ := hform
        have hbl' : Below w.heap.size w w3 := (HBL.out.alloc HBL.out.size _).grown hg3 (by have := HBL.out.size; simp; omega) (fun b hb => (HU.out.lt b hb).1)
        have hu' : w3.ownsRow w.heap.size 9 1 (.slice a' (k + 1) c') (k + 1) ((R.take (k + 1)).map fun e => .string e.name) := by
          have e1 : R.take (k + 1) = R.take k ++ [x] := by
            have h2 := HX.out
            obtain ⟨h3, h4⟩ := List.getElem?_eq_some_iff.1 h2
            rw [List.take_succ_eq_append_getElem h3, h4]
          rw [e1, List.map_append]
          exact hr3
        have HU' := Lib.hid hu'
        have HBL' := Lib.hid hbl'
        clear hu' hbl' hr3 hg3 hat3 c0 c4 hc
        go_wp2_with fail
        go_roundw
        case rel => exact ⟨k + 1, by omega, by go_num, HBL'.out, a', c', rfl, HU'.out⟩
        case measure => simp [intOf]; omega
      · have hkn : k = n := by omega
        subst hkn
        clear c0 c4
        go_wp2_with fail
        go_ret
        refine ⟨_, rfl, ?_, HBL.out⟩
        have h1 := HU.out
        rw [← HN.out, List.take_length] at h1
        rw [HN.out] at h1
        exact h1
end Go.Proofs.Ytjkgcpbgacdgaaa
