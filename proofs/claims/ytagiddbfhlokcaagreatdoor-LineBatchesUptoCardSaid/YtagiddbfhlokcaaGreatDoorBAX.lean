/- Several texts of this proof, laid together. Conditions: as each says. -/
import Derived.Test.YtagiddbfhlokcaaGreatDoorBAW
import Derived.Test.YtagiddbfhlokcaaGreatDoorBAQ
import Derived.Laws.RangeAny
import Derived.Laws.Runes
import Derived.Lib.DecodeN
import Derived.Lib.IndexAny
import Derived.WalkMore
import Derived.Lib.OthersKept
/- The reference's way to put a row in order: the walk. No condition. -/
namespace Go.Proofs.YtagiddbfhlokcaaGreatDoor.Ser
open Go.RowKit Go.Sort
set_option maxRecDepth 100000
theorem grown_set (w : World) (a : Addr) (u : Value) {g : Nat} (h : a.block = g) : w.grownBy (w.setCell a u) (some g) :=
  ⟨rfl, rfl, rfl, by simp [World.setCell], fun k hk hne => Below.heap_setCell _ _ _ _ (fun e => hne (by rw [e, h]))⟩
theorem grown_trans {a b c : World} {r : Option Nat} (h : a.grownBy b r) (k : b.grownBy c r) : a.grownBy c r :=
  ⟨k.os.trans h.os, k.tape.trans h.tape, k.output.trans h.output, Nat.le_trans h.size k.size, fun i hi hn => (k.block i (Nat.lt_of_lt_of_le hi h.size) hn).trans (h.block i hi hn)⟩
structure SMem (B : Nat) (name : ByteArray) (tags : List Tg) (fields : List Fd) (v vf : Value) (tm : Int) (w wr : World) : Prop where
  base : B ≤ w.heap.size
  box : wr.heap[w.heap.size]? = some (.cells #[.string name, v, vf, .int .i64 tm] 27 (0, 0))
  res : wr.heap[w.heap.size + 1]? = some (.cells #[.string ⟨#[]⟩, .slice none 0 0, .slice none 0 0, .int .i64 0] 27 (0, 0))
  rt : RT wr B v tags
  rf : RF wr B vf fields
  lt : ∀ g, v.ownBlock = some g → g < w.heap.size
  lf : ∀ g, vf.ownBlock = some g → g < w.heap.size
  ap : ∀ g, v.ownBlock = some g → vf.ownBlock ≠ some g
  bel : Below B w wr
section
variable {B : Nat} {name : ByteArray} {tags : List Tg} {fields : List Fd} {v vf : Value} {tm : Int} {w wr : World}
theorem SMem.size (h : SMem B name tags fields v vf tm w wr) : w.heap.size + 1 < wr.heap.size := lt_of_block h.res
theorem SMem.start (hb : B ≤ w.heap.size) (hrt : RT w B v tags) (hrf : RF w B vf fields) (hap : ∀ g, v.ownBlock = some g → vf.ownBlock ≠ some g) :
    SMem B name tags fields v vf tm w ((w.alloc (.cells #[.string name, v, vf, .int .i64 tm] 27)).alloc (.cells #[.string ⟨#[]⟩, .slice none 0 0, .slice none 0 0, .int .i64 0] 27)) := by
  have h1 : Below w.heap.size w ((w.alloc (.cells #[.string name, v, vf, .int .i64 tm] 27)).alloc (.cells #[.string ⟨#[]⟩, .slice none 0 0, .slice none 0 0, .int .i64 0] 27)) := ((Below.refl _ _).alloc (Nat.le_refl _) _).alloc (by simp) _
  refine ⟨hb, ?_, ?_, own_later hrt h1, own_later hrf h1, fun g hg => (hrt.lt g hg).2, fun g hg => (hrf.lt g hg).2, hap, h1.mono hb⟩
  · rw [Below.heap_alloc _ _ _ (by simp)]; exact Array.getElem?_push_size
  · have : (w.alloc (.cells #[.string name, v, vf, .int .i64 tm] 27)).heap.size = w.heap.size + 1 := by simp
    rw [← this]; exact Array.getElem?_push_size
theorem SMem.later {w' : World} (h : SMem B name tags fields v vf tm w wr) (hb : Below wr.heap.size wr w') : SMem B name tags fields v vf tm w w' :=
  ⟨h.base, (hb.block _ (lt_of_block h.box)).trans h.box, (hb.block _ (lt_of_block h.res)).trans h.res, own_later h.rt hb, own_later h.rf hb, h.lt, h.lf, h.ap, h.bel.trans (hb.mono (by have := h.size; have := h.base; omega))⟩
theorem SMem.cells (h : SMem B name tags fields v vf tm w wr) :
    wr.cell? ⟨w.heap.size, 0, none⟩ = some (.string name) ∧ wr.cell? ⟨w.heap.size, 1, none⟩ = some v ∧ wr.cell? ⟨w.heap.size, 2, none⟩ = some vf ∧ wr.cell? ⟨w.heap.size, 3, none⟩ = some (.int .i64 tm) :=
  ⟨Lib.cell_of_heap h.box 0, Lib.cell_of_heap h.box 1, Lib.cell_of_heap h.box 2, Lib.cell_of_heap h.box 3⟩
theorem SMem.rcells (h : SMem B name tags fields v vf tm w wr) :
    wr.cell? ⟨w.heap.size + 1, 0, none⟩ = some (.string ⟨#[]⟩) ∧ wr.cell? ⟨w.heap.size + 1, 1, none⟩ = some (.slice none 0 0) ∧ wr.cell? ⟨w.heap.size + 1, 2, none⟩ = some (.slice none 0 0) ∧ wr.cell? ⟨w.heap.size + 1, 3, none⟩ = some (.int .i64 0) ∧
      wr.frozen? ⟨w.heap.size + 1, 0, none⟩ = false ∧ wr.frozen? ⟨w.heap.size + 1, 1, none⟩ = false ∧ wr.frozen? ⟨w.heap.size + 1, 2, none⟩ = false ∧ wr.frozen? ⟨w.heap.size + 1, 3, none⟩ = false :=
  ⟨Lib.cell_of_heap h.res 0, Lib.cell_of_heap h.res 1, Lib.cell_of_heap h.res 2, Lib.cell_of_heap h.res 3, Lib.frozen_of_heap h.res 0, Lib.frozen_of_heap h.res 1, Lib.frozen_of_heap h.res 2, Lib.frozen_of_heap h.res 3⟩
theorem SMem.setT {ts : List Tg} {w2 : World} {g n cap : Nat} (h : SMem B name tags fields (.slice (some ⟨g, 0, none⟩) n cap) vf tm w wr) (ho : RT w2 B (.slice (some ⟨g, 0, none⟩) n cap) ts) (hg : wr.grownBy w2 (some g)) : SMem B name ts fields (.slice (some ⟨g, 0, none⟩) n cap) vf tm w w2 := by
  have l3 := h.size
  have lg := h.lt g rfl
  have lb := (h.rt.lt g rfl).1
  have ne : ∀ j, w.heap.size ≤ j → some j ≠ some g := fun j hj e => by cases e; omega
  refine ⟨h.base, (hg.block _ (by omega) (ne _ (by omega))).trans h.box, (hg.block _ (by omega) (ne _ (by omega))).trans h.res, ho, h.rf.kept hg ?_, h.lt, h.lf, h.ap, h.bel.grown hg (by have := h.base; omega) (fun j hj => by cases hj; exact lb)⟩
  cases hv : vf.ownBlock with
  | none => exact .inl rfl
  | some g' => exact .inr fun e => h.ap g rfl (hv.trans e)
theorem SMem.setF {fs : List Fd} {w2 : World} {g n cap : Nat} (h : SMem B name tags fields v (.slice (some ⟨g, 0, none⟩) n cap) tm w wr) (ho : RF w2 B (.slice (some ⟨g, 0, none⟩) n cap) fs) (hg : wr.grownBy w2 (some g)) : SMem B name tags fs v (.slice (some ⟨g, 0, none⟩) n cap) tm w w2 := by
  have l3 := h.size
  have lg := h.lf g rfl
  have lb := (h.rf.lt g rfl).1
  have ne : ∀ j, w.heap.size ≤ j → some j ≠ some g := fun j hj e => by cases e; omega
  refine ⟨h.base, (hg.block _ (by omega) (ne _ (by omega))).trans h.box, (hg.block _ (by omega) (ne _ (by omega))).trans h.res, h.rt.kept hg ?_, ho, h.lt, h.lf, h.ap, h.bel.grown hg (by have := h.base; omega) (fun j hj => by cases hj; exact lb)⟩
  cases hv : v.ownBlock with
  | none => exact .inl rfl
  | some g' => exact .inr fun e => h.ap g (hv.trans e) rfl
end
/-- Rows put in order: what the reference answers. -/
def RowPostB (o : LR) (B : Nat) (w : World) (e : Ending) (w' : World) : Prop :=
  Below B w w' ∧ match o.2 with
    | none => e = .returned (.tuple #[.agg #[.string ⟨#[]⟩, .slice none 0 0, .slice none 0 0, .int .i64 0], .int .i64 o.1])
    | some r => ∃ v vf, e = .returned (.tuple #[.agg #[.string r.1, v, vf, .int .i64 r.2.2.2], .int .i64 o.1]) ∧ RT w' B v r.2.1 ∧ RF w' B vf r.2.2.1 ∧ ∀ g, v.ownBlock = some g → vf.ownBlock ≠ some g
/-- A round of the reference's insertion: the loop's inner state. -/
def InT (B : Nat) (name : ByteArray) (tags : List Tg) (fields : List Fd) (v vf : Value) (tm : Int) (w : World) (i : Nat) (j : Value) (wr : World) : Prop :=
  ∃ A x C D, j = .int .i64 (A.length : Nat) ∧ Ins keyT tags i A x C D ∧ SMem B name (A ++ x :: (C ++ D)) fields v vf tm w wr
def OutT (B : Nat) (name : ByteArray) (tags : List Tg) (fields : List Fd) (v vf : Value) (tm : Int) (w : World) (i : Value) (wr : World) : Prop :=
  ∃ ts, ∃ k : Nat, i = .int .i64 k ∧ k ≤ tags.length ∧ ts.Perm tags ∧ Weak keyT (ts.take k) ∧ SMem B name ts fields v vf tm w wr
def InF (B : Nat) (name : ByteArray) (tags : List Tg) (fields : List Fd) (v vf : Value) (tm : Int) (w : World) (i : Nat) (j : Value) (wr : World) : Prop :=
  ∃ A x C D, j = .int .i64 (A.length : Nat) ∧ Ins keyF fields i A x C D ∧ SMem B name tags (A ++ x :: (C ++ D)) v vf tm w wr
def OutF (B : Nat) (name : ByteArray) (tags : List Tg) (fields : List Fd) (v vf : Value) (tm : Int) (w : World) (i : Value) (wr : World) : Prop :=
  ∃ fs, ∃ k : Nat, i = .int .i64 k ∧ k ≤ fields.length ∧ fs.Perm fields ∧ Weak keyF (fs.take k) ∧ SMem B name tags fs v vf tm w wr
theorem outT_done {B : Nat} {name : ByteArray} {tags : List Tg} {fields : List Fd} {v vf : Value} {tm : Int} {w wr : World} {k : Nat} {A : List Tg} {x : Tg} {C D : List Tg} (hk : k < tags.length)
    (hI : Ins keyT tags k A x C D) (hw : Weak keyT (A ++ x :: C)) (hm : SMem B name (A ++ x :: (C ++ D)) fields v vf tm w wr) : OutT B name tags fields v vf tm w (.int .i64 ((k : Int) + 1)) wr :=
  ⟨_, k + 1, by go_num, hk, hI.pm, by rw [take_ins hI]; exact hw, hm⟩
theorem outF_done {B : Nat} {name : ByteArray} {tags : List Tg} {fields : List Fd} {v vf : Value} {tm : Int} {w wr : World} {k : Nat} {A : List Fd} {x : Fd} {C D : List Fd} (hk : k < fields.length)
    (hI : Ins keyF fields k A x C D) (hw : Weak keyF (A ++ x :: C)) (hm : SMem B name tags (A ++ x :: (C ++ D)) v vf tm w wr) : OutF B name tags fields v vf tm w (.int .i64 ((k : Int) + 1)) wr :=
  ⟨_, k + 1, by go_num, hk, hI.pm, by rw [take_ins hI]; exact hw, hm⟩
theorem insT_start {B : Nat} {name : ByteArray} {tags ts : List Tg} {fields : List Fd} {v vf : Value} {tm : Int} {w wr : World} {k : Nat} (hk : k < tags.length) (hp : ts.Perm tags) (hw : Weak keyT (ts.take k)) (hm : SMem B name ts fields v vf tm w wr) : InT B name tags fields v vf tm w k (.int .i64 k) wr := by
  have hl := hp.length_eq
  have hI := Ins.start hp (by omega : k < ts.length) hw
  refine ⟨_, _, _, _, ?_, hI, ?_⟩
  · rw [List.length_take, Nat.min_eq_left (by omega)]
  · rw [List.nil_append, ← List.drop_eq_getElem_cons, List.take_append_drop]; exact hm
theorem insF_start {B : Nat} {name : ByteArray} {tags : List Tg} {fields fs : List Fd} {v vf : Value} {tm : Int} {w wr : World} {k : Nat} (hk : k < fields.length) (hp : fs.Perm fields) (hw : Weak keyF (fs.take k)) (hm : SMem B name tags fs v vf tm w wr) : InF B name tags fields v vf tm w k (.int .i64 k) wr := by
  have hl := hp.length_eq
  have hI := Ins.start hp (by omega : k < fs.length) hw
  refine ⟨_, _, _, _, ?_, hI, ?_⟩
  · rw [List.length_take, Nat.min_eq_left (by omega)]
  · rw [List.nil_append, ← List.drop_eq_getElem_cons, List.take_append_drop]; exact hm
theorem results38 {tmps : Array Value} {wr : World} {B : Nat} {x y z u : Value} (hb : tmps.getD 2 undef = .pointer (some ⟨B, 0, none⟩)) (hk : wr.heap[B]? = some (.cells #[x, y, z, u] 27 (0, 0))) :
    (results Tryz.f38 tmps).run Tryz.prog wr = .ok (.tuple #[.agg #[x, y, z, u], tmps.getD 3 undef]) wr := by
  have hb' : tmps[2]?.getD undef = .pointer (some ⟨B, 0, none⟩) := by simpa using hb
  have h0 : wr.cell? ⟨B, 0, none⟩ = some x := Lib.cell_of_heap hk 0
  have h1 : wr.cell? ⟨B, 1, none⟩ = some y := Lib.cell_of_heap hk 1
  have h2 : wr.cell? ⟨B, 2, none⟩ = some z := Lib.cell_of_heap hk 2
  have h3 : wr.cell? ⟨B, 3, none⟩ = some u := Lib.cell_of_heap hk 3
  simp [results, hb', h0, h1, h2, h3, go_sem]
end Go.Proofs.YtagiddbfhlokcaaGreatDoor.Ser
/- strings.IndexAny at a comma and a blank, whatever the bytes; a value's text cut off a line. Condition: the text's length. -/
namespace Go.Proofs.YtagiddbfhlokcaaGreatDoor.Ser
open Go.RowKit Go.Sort
set_option maxRecDepth 100000
theorem get_bang (l : List UInt8) (i : Nat) (h : i < l.length) : (bs l).get! i = l[i] := by
  show (bs l).data[i]! = _
  rw [getElem!_pos _ _ (by simpa [bs] using h)]
  simp [bs]
theorem dec_high (n b0 b1 b2 b3 : Nat) (hn : 1 ≤ n) (h0 : 128 ≤ b0) : (128 ≤ (Lib.decodeN n b0 b1 b2 b3).1 ∧ (Utf8.valid ((Lib.decodeN n b0 b1 b2 b3).1 : Int) = true) ∧ 1 ≤ (Lib.decodeN n b0 b1 b2 b3).2 ∧ (Lib.decodeN n b0 b1 b2 b3).2 ≤ n ∧
    (2 ≤ (Lib.decodeN n b0 b1 b2 b3).2 → 128 ≤ b1) ∧ (3 ≤ (Lib.decodeN n b0 b1 b2 b3).2 → 128 ≤ b2) ∧ (4 ≤ (Lib.decodeN n b0 b1 b2 b3).2 → 128 ≤ b3) ∧ (Lib.decodeN n b0 b1 b2 b3).2 ≤ 4) := by
  unfold Lib.decodeN Utf8.valid
  repeat' split
  all_goals simp
  all_goals omega
theorem decode_high2 (s : ByteArray) (i : Nat) (hi : i < s.size) (h : 128 ≤ (s.get! i).toNat) : 128 ≤ (Utf8.decode s i).1 ∧ Utf8.valid ((Utf8.decode s i).1 : Int) = true ∧ 1 ≤ (Utf8.decode s i).2 ∧ i + (Utf8.decode s i).2 ≤ s.size ∧ ∀ j, i ≤ j → j < i + (Utf8.decode s i).2 → 128 ≤ (s.get! j).toNat := by
  rw [Lib.decode_at]
  obtain ⟨h1, h2, h3, h4, h5, h6, h7, h8⟩ := dec_high (s.size - i) (s.get! i).toNat (s.get! (i + 1)).toNat (s.get! (i + 2)).toNat (s.get! (i + 3)).toNat (by omega) h
  refine ⟨h1, h2, h3, by omega, fun j hj1 hj2 => ?_⟩
  obtain ⟨k, rfl⟩ : ∃ k, j = i + k := ⟨j - i, by omega⟩
  match k, hj2 with
  | 0, _ => exact h
  | 1, hj2 => exact h5 (by omega)
  | 2, hj2 => exact h6 (by omega)
  | 3, hj2 => exact h7 (by omega)
  | k + 4, hj2 => omega
set_option maxHeartbeats 2000000 in
theorem rune116 (r : Nat) (hv : Utf8.valid (r : Int) = true) (h128 : 128 ≤ r) (w : World) : Calls Tryz.prog 116 #[.string ⟨#[44, 32]⟩, .int .i32 (r : Int)] w fun e w' => e = .returned (.int .i64 (-1)) ∧ Below w.heap.size w w' := by
  have h1 : ¬ (r : Int) < 128 := by omega
  have h0 : (0 : Int) ≤ (r : Int) := by omega
  have hval : Lib.validRune (r : Int) = true := by
    unfold Utf8.valid at hv
    unfold Lib.validRune
    simp at hv ⊢
    omega
  by_cases h : r = 65533
  · have hr : ((r : Int) == 65533) = true := by rw [h]; rfl
    clear h hv hval h128
    go_enter Tryz.func116, Tryz.ntmps116
    go_wp2_with fail
    go_loopg [5, 6] 2 (fun g _ _ wx => ∃ i : Nat, i + g = 2 ∧ wx = w.iter ⟨#[44, 32]⟩ i)
    case atStart => exact ⟨0, rfl, rfl⟩
    case round =>
      obtain ⟨i, hig, rfl⟩ := hrel
      match i, hig with
      | 0, hig =>
        obtain rfl : gk = 2 := by omega
        have hnx := fun ty => run_next_ascii (P := Tryz.prog) w ⟨#[44, 32]⟩ 0 ty (by decide) (by decide)
        go_wp2_with fail
        go_roundg 1
        case measure => omega
        case rel => exact ⟨1, rfl, rfl⟩
      | 1, hig =>
        obtain rfl : gk = 1 := by omega
        have hnx := fun ty => run_next_ascii (P := Tryz.prog) w ⟨#[44, 32]⟩ 1 ty (by decide) (by decide)
        go_wp2_with fail
        go_roundg 0
        case measure => omega
        case rel => exact ⟨2, rfl, rfl⟩
      | i + 2, hig =>
        obtain rfl : i = 0 := by omega
        have hnx := fun ty => run_next_end (P := Tryz.prog) w ⟨#[44, 32]⟩ 2 ty (by decide)
        go_wp2_with fail
        go_ret
        exact ⟨rfl, (Below.refl _ _).alloc (Nat.le_refl _) _⟩
  · have hr : ((r : Int) == 65533) = false := by rw [beq_eq_false_iff_ne]; omega
    obtain ⟨e1, e2, e3⟩ := encode_facts (r : Int) hv (by omega)
    obtain ⟨rs, hrs⟩ : ∃ rs, Utf8.encode (r : Int) = rs := ⟨_, rfl⟩
    have hconv : ∀ w, (convert 21 9 (.int .i32 (r : Int))).run Tryz.prog w = .ok (.string rs) w := fun w => by
      rw [← hrs]; exact run_convert_int_string w 21 9 .i32 (r : Int) (by rw [Tryz.underlying21]; rfl) Tryz.underlying9
    rw [hrs] at e1 e2 e3
    have MV := Lib.hid (Tryz.utf8_ValidRune (r : Int) w)
    rw [hval] at MV
    clear h h128 hv hval hrs
    obtain ⟨n, hn⟩ : ∃ n, rs.size = n + 1 := ⟨rs.size - 1, by omega⟩
    have hi0 : (rs.size : Int) - 1 = (n : Int) := by omega
    have hn1 : 1 ≤ n := by omega
    have hn3 : n ≤ 3 := by omega
    by_cases h2 : n = 1
    · subst h2
      have hlt : 1 < rs.size := by omega
      obtain ⟨c, hc⟩ : ∃ c, rs[1] = c := ⟨_, rfl⟩
      have hc128 : 128 ≤ c.toNat := by
        have := e3 (by omega)
        simp only [hn] at this
        rw [← hc]
        exact this
      have hne : ((((⟨#[44, 32]⟩ : ByteArray)[1]'(by decide)).toNat : Int) != (c.toNat : Int)) = true := by
        have : (((⟨#[44, 32]⟩ : ByteArray)[1]'(by decide)).toNat : Int) = 32 := by decide
        rw [this]; simp; omega
      have MI : ∀ w, Calls Tryz.prog 70 #[.string ByteArray.empty, .int .u8 (c.toNat : Int)] w fun e w' => e = .returned (.int .i64 (-1)) ∧ w' = w := fun w => Tryz.strings_IndexByte ⟨#[]⟩ (c.toNat : Int) w
      have M70 := Lib.hid MI
      have hw2 : IntKind.i64.wrap 2 = 2 := by kernel_rfl
      have hsl : ByteArray.extract ⟨#[44, 32]⟩ 2 2 = ⟨#[]⟩ := by decide
      clear e1 e2 e3 hc128 MI
      go_enter Tryz.func116, Tryz.ntmps116
      go_wp2_with fail
      refine MV.out.mono ?_
      rintro e w' ⟨rfl, rfl⟩
      go_wp2_with fail
      go_step3
      go_wp2_with fail
      go_loopw [9] (fun v wr => v = .int .i64 1 ∧ w' = wr) (fun _ _ => 0)
      case atStart => exact ⟨rfl, rfl⟩
      case round =>
        obtain ⟨rfl, rfl⟩ := hrel
        go_wp2_with fail
        go_step3
        go_wp2_with fail
        go_quiet (fail)
        go_wp2_with fail
        have MQ : Hid (∀ n, Calls Tryz.prog 70 #[.string ByteArray.empty, .int .u8 (c.toNat : Int)] (w'.drewN (nq + n)) fun e w2 => e = .returned (.int .i64 (-1)) ∧ ∃ m, w2 = w'.drewN (nq + m)) := Lib.hid fun n => (M70.out _).mono fun e w2 ⟨h1, h2⟩ => ⟨h1, n, h2⟩
        go_quiet ((go_at_call 70; with_reducible exact MQ.out _))
        go_wp2_with fail
        simp (config := { zetaDelta := true }) only [Exit.noGoto, Exit.inBlock, Exit.then]
        go_ret
        exact ⟨rfl, below_drewN (Below.refl _ _) _⟩
    · have hge : (2 : Int) ≤ (n : Int) := by omega
      clear e1 e2 e3
      go_enter Tryz.func116, Tryz.ntmps116
      go_wp2_with fail
      refine MV.out.mono ?_
      rintro e w' ⟨rfl, rfl⟩
      go_wp2_with fail
      go_step3
      go_wp2_with fail
      go_loopw [9] (fun v wr => v = .int .i64 (n : Int) ∧ w' = wr) (fun _ _ => 0)
      case atStart => exact ⟨rfl, rfl⟩
      case round =>
        obtain ⟨rfl, rfl⟩ := hrel
        have hge2 : ¬ (n : Int) < 2 := by omega
        go_wp2_with fail
        go_ret
        exact ⟨rfl, Below.refl _ _⟩
theorem h171 : (Tryz.prog.info? 171).map (fun i => (i.zero, i.size)) = some (some (.agg (Array.replicate 256 (.bool false))), 256) := by kernel_rfl
theorem sep_contains (c : UInt8) : [44, 32].contains c = !nsep c := by
  unfold nsep
  rw [Bool.eq_iff_iff]
  simp
theorem high_nsep {c : UInt8} (h : 128 ≤ c.toNat) : nsep c = true := by
  unfold nsep
  simp
  constructor <;> (rintro rfl; simp at h)
theorem any_tw : ∀ l : List UInt8, (Lib.indexAny l [44, 32] = -1 ∧ l.takeWhile nsep = l) ∨ (Lib.indexAny l [44, 32] = ((l.takeWhile nsep).length : Int))
  | [] => .inl ⟨rfl, rfl⟩
  | c :: l => by
    cases h : nsep c with
    | true =>
      have hc : [44, 32].contains c = false := by rw [sep_contains, h]; rfl
      rcases any_tw l with ⟨h1, h2⟩ | h1
      · left
        refine ⟨?_, by rw [List.takeWhile_cons, if_pos h, h2]⟩
        unfold Lib.indexAny
        rw [hc, h1]; rfl
      · right
        unfold Lib.indexAny
        rw [hc, List.takeWhile_cons, if_pos h, h1]
        have : (((l.takeWhile nsep).length : Int) == -1) = false := by rw [beq_eq_false_iff_ne]; omega
        rw [this]
        simp
    | false =>
      right
      have hc : [44, 32].contains c = true := by rw [sep_contains, h]; rfl
      unfold Lib.indexAny
      rw [hc, List.takeWhile_cons, h]
      rfl
theorem noAny_run {s : ByteArray} {i n : Nat} (h : Lib.NoAny s.data.toList [44, 32] i) (hd : ∀ j, i ≤ j → j < i + n → 128 ≤ (s.get! j).toNat) : Lib.NoAny s.data.toList [44, 32] (i + n) := by
  intro j b hj hb
  by_cases h1 : j < i
  · exact h j b h1 hb
  · have h2 := hd j (by omega) hj
    have h3 : s.get! j = b := by
      show s.data[j]! = b
      rw [Array.getElem?_toList] at hb
      rw [getElem!_def, hb]
    rw [h3] at h2
    rw [sep_contains, high_nsep h2]; rfl
set_option maxHeartbeats 2000000 in
theorem any82s (s : ByteArray) (hl : s.size ≤ 8) (w : World) : Calls Tryz.prog 82 #[.string s, .string ⟨#[44, 32]⟩] w fun e w' => e = .returned (.int .i64 (Lib.indexAny s.data.toList [44, 32])) ∧ Below w.heap.size w w' := by
  have h8 : decide ((8 : Int) < (s.size : Int)) = false := decide_eq_false (by omega)
  have h8n : ¬ (8 : Int) < (s.size : Int) := by omega
  have M117 : Hid (∀ w, Calls Tryz.prog 117 #[.int .i64 (s.size : Int)] w fun e w' => e = .returned (.bool (decide ((8 : Int) < (s.size : Int)))) ∧ w' = w) := Lib.hid fun w => Tryz.strings_shouldUseASCIISet _ w
  rw [h8] at M117
  go_enter Tryz.func82, Tryz.ntmps82
  go_wp2_with fail
  refine (M117.out _).mono ?_
  rintro e w' ⟨rfl, rfl⟩
  go_wp2_with fail
  go_loopg [9, 10] s.size (fun g _ _ wx => ∃ i : Nat, i + g = s.size ∧ wx.heap[w'.heap.size]? = some (.stringIter s i) ∧ Below w'.heap.size w' wx ∧ Lib.NoAny s.data.toList [44, 32] i)
  case atStart => exact ⟨0, by omega, World.iter_heap _ _ _, (Below.refl _ _).alloc (Nat.le_refl _) _, Lib.NoAny.zero _ _⟩
  case round =>
    obtain ⟨i, hig, hk, hb, hno⟩ := hrel
    have HN := Lib.hid hno
    have HB := Lib.hid hb
    have HK := Lib.hid hk
    clear hno hb hk
    cases gk with
    | zero =>
      obtain rfl : i = s.size := by omega
      have hnx := fun ty => Lib.run_next_end_at (P := Tryz.prog) wr w'.heap.size s s.size ty HK.out (by omega)
      go_wp2_with fail
      go_ret
      exact ⟨by rw [Lib.indexAny_none (by rw [← Lib.size_eq]; exact HN.out)]; rfl, HB.out⟩
    | succ g =>
      have hi : i < s.size := by omega
      obtain ⟨x, hx⟩ : ∃ x : UInt8, s[i]'hi = x := ⟨_, rfl⟩
      have hxl : s.data.toList[i]? = some x := by rw [← hx]; exact Lib.data_getElem? s i hi
      have hxb : s.get! i = x := by
        show s.data[i]! = x
        rw [Array.getElem?_toList] at hxl
        rw [getElem!_def, hxl]
      have Hx := Lib.hid hxl
      by_cases h128 : x.toNat < 128
      · have hnx := fun ty => Lib.run_next_ascii_at (P := Tryz.prog) wr w'.heap.size s i ty HK.out hi (by rw [hx]; exact h128)
        rw [hx] at hnx
        obtain ⟨wi, hwi⟩ : ∃ wi, wr.iterAt w'.heap.size s (i + 1) = wi := ⟨_, rfl⟩
        rw [hwi] at hnx
        have HBI : Hid (Below w'.heap.size w' wi) := Lib.hid (by rw [← hwi]; exact Lib.below_iterAt HB.out (Nat.le_refl _) _ _)
        have HKI : Hid (wi.heap[w'.heap.size]? = some (.stringIter s (i + 1))) := Lib.hid (by rw [← hwi]; exact Lib.iterAt_heap _ _ _ _ _ HK.out)
        have MR := Lib.hid (fun w => Tryz.strings_IndexRune_ascii ⟨#[44, 32]⟩ (x.toNat : Int) w (by omega) (by omega))
        have hback : ((x.toNat : Int)).toNat.toUInt8 = x := by simp
        rw [hback] at MR
        have hcon := Lib.contains_iff_indexByte [44, 32] x
        obtain ⟨n, hn⟩ : ∃ n, Lib.indexByte [44, 32] x = n := ⟨_, rfl⟩
        have MR2 : Hid (∀ w, Calls Tryz.prog 116 #[.string ⟨#[44, 32]⟩, .int .i32 (x.toNat : Int)] w fun e w' => e = .returned (.int .i64 n) ∧ w' = w) := Lib.hid (fun w => by rw [← hn]; exact MR.out w)
        rw [hn] at hcon
        clear hxl hx hxb h128 hback MR hn hwi
        cases hin : [44, 32].contains x
        · rw [hin] at hcon
          have hlt : ¬ ((0 : Int) ≤ n) := of_decide_eq_false hcon.symm
          have HIN := Lib.hid hin
          clear hcon hin
          go_wp2_with fail
          refine (MR2.out _).mono ?_
          rintro e w2 ⟨rfl, rfl⟩
          go_wp2_with fail
          go_roundg g
          case measure => omega
          case rel => exact ⟨i + 1, by omega, HKI.out, HBI.out, HN.out.succ Hx.out HIN.out⟩
        · rw [hin] at hcon
          have hlt : ((0 : Int) ≤ n) := of_decide_eq_true hcon.symm
          have HIN := Lib.hid hin
          clear hcon hin
          go_wp2_with fail
          refine (MR2.out _).mono ?_
          rintro e w2 ⟨rfl, rfl⟩
          go_wp2_with fail
          go_ret
          exact ⟨by rw [Lib.indexAny_hit HN.out Hx.out HIN.out]; rfl, HBI.out⟩
      · have hnx := fun ty => Lib.run_next_any_at (P := Tryz.prog) wr w'.heap.size s i ty HK.out hi
        obtain ⟨d1, d2, d3, d4, d5⟩ := decode_high2 s i hi (by rw [hxb]; omega)
        obtain ⟨p, hp⟩ : ∃ p, Utf8.decode s i = p := ⟨_, rfl⟩
        rw [hp] at hnx d1 d2 d3 d4 d5
        obtain ⟨r, n⟩ := p
        simp only at hnx d1 d2 d3 d4 d5
        obtain ⟨wi, hwi⟩ : ∃ wi, wr.iterAt w'.heap.size s (i + n) = wi := ⟨_, rfl⟩
        rw [hwi] at hnx
        have HBI : Hid (Below w'.heap.size w' wi) := Lib.hid (by rw [← hwi]; exact Lib.below_iterAt HB.out (Nat.le_refl _) _ _)
        have HKI : Hid (wi.heap[w'.heap.size]? = some (.stringIter s (i + n))) := Lib.hid (by rw [← hwi]; exact Lib.iterAt_heap _ _ _ _ _ HK.out)
        have HSI : Hid (w'.heap.size < wi.heap.size) := Lib.hid (Array.getElem?_eq_some_iff.1 HKI.out).1
        have MR := Lib.hid (fun w => rune116 r d2 d1 w)
        have HNN := Lib.hid (noAny_run HN.out d5)
        clear hxl hx hxb h128 d1 d2 d5 hp hwi
        go_wp2_with fail
        refine (MR.out _).mono ?_
        rintro e w2 ⟨rfl, hb2⟩
        have HB2 : Hid (Below w'.heap.size w' w2) := Lib.hid (HBI.out.trans (hb2.mono HBI.out.size))
        have HK2 : Hid (w2.heap[w'.heap.size]? = some (.stringIter s (i + n))) := Lib.hid ((hb2.block _ HSI.out).trans HKI.out)
        clear hb2
        go_wp2_with fail
        go_roundg (s.size - (i + n))
        case measure => omega
        case rel => exact ⟨i + n, by omega, HK2.out, HB2.out, HNN.out⟩
theorem any82 (s : ByteArray) (hl : s.size < 4294967281) (w : World) : Calls Tryz.prog 82 #[.string s, .string ⟨#[44, 32]⟩] w fun e w' => e = .returned (.int .i64 (Lib.indexAny s.data.toList [44, 32])) ∧ Below w.heap.size w w' := by
  by_cases h : s.size ≤ 8
  · exact any82s s h w
  · refine (Tryz.strings_IndexAny_long (zero_of_info h171).1 s ⟨#[44, 32]⟩ w (by decide) (by omega) hl (by decide) (fun j b hb => ?_)).mono ?_
    · match j, hb with
      | 0, hb => cases hb; decide
      | 1, hb => cases hb; decide
      | j + 2, hb => simp at hb
    · rintro e w' ⟨rfl, rfl⟩
      exact ⟨rfl, ((Below.refl _ _).alloc (Nat.le_refl _) _).alloc (by simp) _⟩
end Go.Proofs.YtagiddbfhlokcaaGreatDoor.Ser
