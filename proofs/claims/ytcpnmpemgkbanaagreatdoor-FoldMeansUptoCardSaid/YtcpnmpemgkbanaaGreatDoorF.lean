/- The walk of take: a value is taken into the state of an aggregate. No condition. -/
import Derived.Test.YtcpnmpemgkbanaaGreatDoorD
import Derived.Lib.QuietBelow
import Derived.BigQuiet
import Derived.Deep.RegionWith
import Derived.RegionTactic
import Derived.StillTailTactics
import Derived.Deep.Light
namespace Go.Proofs.YtcpnmpemgkbanaaGreatDoor
open Go.RowKit Go.Sort
/-- The blocks of S apart, nothing of w has turned. -/
structure Turns (S : Nat → Prop) (w w' : World) : Prop where
  os : w'.os = w.os
  tape : w'.tape = w.tape
  output : w'.output = w.output
  size : w.heap.size ≤ w'.heap.size
  block : ∀ k, k < w.heap.size → ¬ S k → w'.heap[k]? = w.heap[k]?
/-- .. and what S' has more is new. -/
def Steps (S S' : Nat → Prop) (w w' : World) : Prop := Turns S w w' ∧ ∀ k, S' k → S k ∨ w.heap.size ≤ k
theorem Turns.refl (S : Nat → Prop) (w : World) : Turns S w w := ⟨rfl, rfl, rfl, Nat.le_refl _, fun _ _ _ => rfl⟩
theorem Turns.trans {S S' : Nat → Prop} {a b c : World} (h : Turns S a b) (k : Turns S' b c) (hs : ∀ x, S' x → S x ∨ a.heap.size ≤ x) : Turns S a c :=
  ⟨k.os.trans h.os, k.tape.trans h.tape, k.output.trans h.output, Nat.le_trans h.size k.size, fun i hi hn => (k.block i (Nat.lt_of_lt_of_le hi h.size) (fun e => by
    rcases hs i e with h1 | h1
    · exact hn h1
    · omega)).trans (h.block i hi hn)⟩
theorem Steps.refl (S : Nat → Prop) (w : World) : Steps S S w w := ⟨Turns.refl _ _, fun _ h => .inl h⟩
theorem Steps.trans {S S' S'' : Nat → Prop} {a b c : World} (h : Steps S S' a b) (k : Steps S' S'' b c) : Steps S S'' a c :=
  ⟨h.1.trans k.1 h.2, fun x hx => by
    rcases k.2 x hx with h1 | h1
    · exact h.2 x h1
    · exact .inr (Nat.le_trans h.1.size h1)⟩
theorem Turns.below {S : Nat → Prop} {w w' : World} (h : Turns S w w') {B : Nat} (hB : B ≤ w.heap.size) (hS : ∀ x, S x → B ≤ x) : Below B w w' :=
  ⟨h.os, h.tape, h.output, h.size, fun k hk => h.block k (by omega) (fun e => by have := hS k e; omega)⟩
theorem Turns.of_below {S : Nat → Prop} {w w' : World} (h : Below w.heap.size w w') : Turns S w w' :=
  ⟨h.os, h.tape, h.output, h.size, fun k hk _ => h.block k hk⟩
theorem Turns.of_grown {S : Nat → Prop} {w w' : World} {row : Option Nat} (h : w.grownBy w' row) (hr : ∀ k, row = some k → S k) : Turns S w w' :=
  ⟨h.os, h.tape, h.output, h.size, fun k hk hn => h.block k hk (fun e => hn (hr k e.symm))⟩
theorem Turns.cell {S : Nat → Prop} {w w' : World} (h : Turns S w w') {a : Addr} {v : Value} (hc : w.cell? a = some v) (hn : ¬ S a.block) : w'.cell? a = some v :=
  (World.cell?_of_block (h.block a.block (World.block_lt_of_cell? w a hc) hn)).trans hc

theorem wp_gen {P : Program} {c : Code} {Q : Exit → Act → World → Prop} {a : Act} {W : World} (R : World → Prop) (h : R W) (k : ∀ w, R w → Code.wp P c Q a w) : Code.wp P c Q a W := k W h
/-- The state of an aggregate. -/
def stA (n f : Nat) (whole : Int) (re im : Nat) (kl bl kh bh : Int) : Array Value :=
  #[.int .i64 n, .float .f64 f, .int .u64 whole, .complex .f64 re im, .int .i64 kl, .int .u64 bl, .string ⟨#[]⟩, .int .i64 kh, .int .u64 bh, .string ⟨#[]⟩]
/-- On the way through take: the state's block s reads cs, the boxed value lies in block B. -/
structure Mid (w : World) (s B : Nat) (b : Int) (cs : Array Value) (w' : World) : Prop where
  turns : Turns (fun k => k = s) w w'
  st : w'.heap[s]? = some (.cells cs 53 (0, 0))
  box : w'.heap[B]? = some (.cells #[.int .i64 2, .int .u64 b, .string ⟨#[]⟩] 27 (0, 0))
theorem turns_alloc {S : Nat → Prop} {w w' : World} (h : Turns S w w') (o : Obj) : Turns S w (w'.alloc o) :=
  h.trans (Turns.of_below (S := S) ((Below.refl _ _).alloc (Nat.le_refl _) o)) (fun _ h => .inl h)
theorem turns_drewN {S : Nat → Prop} {w w' : World} (h : Turns S w w') (n : Nat) : Turns S w (w'.drewN n) := ⟨h.os, h.tape, h.output, h.size, h.block⟩
theorem turns_set {S : Nat → Prop} {w w' : World} (h : Turns S w w') {s i : Nat} (hs : S s) (u : Value) : Turns S w (w'.setCell ⟨s, i, none⟩ u) :=
  ⟨h.os, h.tape, h.output, by simpa using h.size, fun k hk hn => by rw [Below.heap_setCell w' ⟨s, i, none⟩ u k (fun e => hn (by rw [e]; exact hs))]; exact h.block k hk hn⟩
theorem heap_lt {w : World} {k : Nat} {o : Obj} (h : w.heap[k]? = some o) : k < w.heap.size := by
  rcases Nat.lt_or_ge k w.heap.size with h1 | h1
  · exact h1
  · rw [Array.getElem?_eq_none h1] at h; cases h
section
variable {w w' : World} {s B : Nat} {b : Int} {cs : Array Value}
theorem Mid.alloc (h : Mid w s B b cs w') (o : Obj) : Mid w s B b cs (w'.alloc o) :=
  ⟨turns_alloc h.turns o, (Below.heap_alloc w' o s (heap_lt h.st)).trans h.st, (Below.heap_alloc w' o B (heap_lt h.box)).trans h.box⟩
theorem Mid.drewN (h : Mid w s B b cs w') (n : Nat) : Mid w s B b cs (w'.drewN n) := ⟨turns_drewN h.turns n, h.st, h.box⟩
theorem Mid.ne (h : Mid w s B b cs w') : B ≠ s := by
  rintro rfl
  have := h.st
  rw [h.box] at this
  simp at this
theorem Mid.set (h : Mid w s B b cs w') (i : Nat) (u : Value) : Mid w s B b (cs.setIfInBounds i u) (w'.setCell ⟨s, i, none⟩ u) :=
  ⟨turns_set h.turns rfl u, by have := h.st; simp [World.setCell, Array.getElem?_modify, this], (Below.heap_setCell w' ⟨s, i, none⟩ u B h.ne).trans h.box⟩
theorem Mid.below {w2 : World} (h : Mid w s B b cs w') (hb : Below w'.heap.size w' w2) : Mid w s B b cs w2 :=
  ⟨h.turns.trans (Turns.of_below (S := fun k => k = s) hb) (fun _ h => .inl h), (hb.block s (heap_lt h.st)).trans h.st, (hb.block B (heap_lt h.box)).trans h.box⟩
end
/-- The rest of take, behind the least and the greatest. -/
def TakePost (w : World) (s : Nat) (cs : Array Value) (e : Ending) (w' : World) : Prop := e = .returned (.tuple #[]) ∧ Turns (fun k => k = s) w w' ∧ w'.heap[s]? = some (.cells cs 53 (0, 0))
set_option maxRecDepth 100000 in
set_option maxHeartbeats 1000000 in
theorem take_first (w : World) (s f : Nat) (whole : Int) (re im : Nat) (v : Int) (hv : lo63 ≤ v ∧ v ≤ 9223372036854775807) (hs : w.heap[s]? = some (.cells (stA 0 f whole re im 0 0 0 0) 53 (0, 0)))
    (hf : noNaN (Ieee.double.read f)) (hr : noNaN (Ieee.double.read re)) (hi : noNaN (Ieee.double.read im)) :
    Calls Tryz.prog 20 #[.pointer (some ⟨s, 0, none⟩), vInt v] w (TakePost w s (stA 1 (fadd f (floatOfInt .f64 v)) (IntKind.u64.wrap (whole + uw v)) (stepV 0 re im (floatOfInt .f64 v)).1 (stepV 0 re im (floatOfInt .f64 v)).2 2 (uw v) 2 (uw v))) := by
  have hnum := floatOf_num v (by unfold lo63 at hv; omega)
  have hlt := floatOf_lt v
  have hadd := run_add Tryz.prog 35 f (floatOfInt .f64 v) hf hnum
  have HST := Lib.hid (fun w => wstep re im (floatOfInt .f64 v) 0 w (by omega) hr hi hnum hlt)
  have HNB := Lib.hid (fun w => number_int v w hv)
  obtain ⟨g, hg⟩ : ∃ g, floatOfInt .f64 v = g := ⟨_, rfl⟩
  rw [hg] at hadd HST HNB ⊢
  obtain ⟨b, hb⟩ : ∃ b, uw v = b := ⟨_, rfl⟩
  unfold vInt cInt at HNB
  unfold vInt
  rw [hb] at HNB ⊢
  obtain ⟨q, hq⟩ : ∃ q, fadd f g = q := ⟨_, rfl⟩
  rw [hq] at hadd ⊢
  obtain ⟨r1, hr1⟩ : ∃ r1, (stepV 0 re im g).1 = r1 := ⟨_, rfl⟩
  obtain ⟨r2, hr2⟩ : ∃ r2, (stepV 0 re im g).2 = r2 := ⟨_, rfl⟩
  rw [Nat.zero_mod, hr1, hr2] at HST
  rw [hr1, hr2]
  have st1 := fun (w : World) (a : Addr) (m : Mode) => run_store Tryz.prog w a (.float .f64 q) m rfl
  have st2 := fun (w : World) (a : Addr) (m : Mode) => run_store Tryz.prog w a (.complex .f64 r1 r2) m rfl
  obtain ⟨B, hB⟩ : ∃ B, w.heap.size = B := ⟨_, rfl⟩
  have HM0 := Lib.hid (show Mid w s B b (stA 0 f whole re im 0 0 0 0) (w.alloc (.cells #[.int .i64 2, .int .u64 b, .string ⟨#[]⟩] 27)) from
    ⟨turns_alloc (Turns.refl _ _) _, (Below.heap_alloc w _ s (heap_lt hs)).trans hs, by rw [← hB]; exact heap_alloc_new w _⟩)
  have HB := Lib.hid hB
  clear hs hnum hlt hf hr hi hg hb hq hr1 hr2 hB
  go_enter Tryz.func20, Tryz.ntmps20
  go_wp2_with fail
  rw [HB.out]
  refine (HNB.out _).mono ?_
  rintro e w1 ⟨rfl, rfl⟩
  go_wp2_with fail
  refine wp_gen (Mid w s B b (stA 0 f whole re im 0 0 0 0)) (HM0.out.alloc _) ?_
  intro w1 hm
  have HM1 := Lib.hid hm
  clear hm HM0
  obtain ⟨hT, hs, hbx⟩ := HM1.out
  unfold stA at hs
  have c0 : w1.cell? ⟨s, 0, none⟩ = some (.int .i64 (0 : Nat)) := by simp [World.cell?, hs]
  have c1 : w1.cell? ⟨s, 1, none⟩ = some (.float .f64 f) := by simp [World.cell?, hs]
  have c2 : w1.cell? ⟨s, 2, none⟩ = some (.int .u64 whole) := by simp [World.cell?, hs]
  have c3 : w1.cell? ⟨s, 3, none⟩ = some (.complex .f64 re im) := by simp [World.cell?, hs]
  have c4 : w1.cell? ⟨s, 4, none⟩ = some (.int .i64 0) := by simp [World.cell?, hs]
  have c5 : w1.cell? ⟨s, 5, none⟩ = some (.int .u64 0) := by simp [World.cell?, hs]
  have c6 : w1.cell? ⟨s, 6, none⟩ = some (.string ⟨#[]⟩) := by simp [World.cell?, hs]
  have c7 : w1.cell? ⟨s, 7, none⟩ = some (.int .i64 0) := by simp [World.cell?, hs]
  have c8 : w1.cell? ⟨s, 8, none⟩ = some (.int .u64 0) := by simp [World.cell?, hs]
  have c9 : w1.cell? ⟨s, 9, none⟩ = some (.string ⟨#[]⟩) := by simp [World.cell?, hs]
  have zz : ∀ i, w1.frozen? ⟨s, i, none⟩ = false := fun i => by simp [World.frozen?, hs]
  have hsl : s < w1.heap.size := World.block_lt_of_cell? w1 _ c0
  have b0 : w1.cell? ⟨B, 0, none⟩ = some (.int .i64 2) := by simp [World.cell?, hbx]
  have b1 : w1.cell? ⟨B, 1, none⟩ = some (.int .u64 b) := by simp [World.cell?, hbx]
  have b2 : w1.cell? ⟨B, 2, none⟩ = some (.string ⟨#[]⟩) := by simp [World.cell?, hbx]
  have hBl : B < w1.heap.size := World.block_lt_of_cell? w1 _ b0
  clear hT hs hbx
  go_quiet (fail)
  go_wp2_with fail
  refine wp_gen (Mid w s B b (stA 0 f whole re im 2 b 0 0)) ((((HM1.out.drewN _).set 4 _).set 5 _).set 6 _) ?_
  clear c0 c1 c2 c3 c4 c5 c6 c7 c8 c9 zz hsl b0 b1 b2 hBl
  intro w2 hm
  have HM2 := Lib.hid hm
  clear hm HM1 w1
  obtain ⟨hT, hs, hbx⟩ := HM2.out
  unfold stA at hs
  have c0 : w2.cell? ⟨s, 0, none⟩ = some (.int .i64 (0 : Nat)) := by simp [World.cell?, hs]
  have c1 : w2.cell? ⟨s, 1, none⟩ = some (.float .f64 f) := by simp [World.cell?, hs]
  have c2 : w2.cell? ⟨s, 2, none⟩ = some (.int .u64 whole) := by simp [World.cell?, hs]
  have c3 : w2.cell? ⟨s, 3, none⟩ = some (.complex .f64 re im) := by simp [World.cell?, hs]
  have c4 : w2.cell? ⟨s, 4, none⟩ = some (.int .i64 2) := by simp [World.cell?, hs]
  have c5 : w2.cell? ⟨s, 5, none⟩ = some (.int .u64 b) := by simp [World.cell?, hs]
  have c6 : w2.cell? ⟨s, 6, none⟩ = some (.string ⟨#[]⟩) := by simp [World.cell?, hs]
  have c7 : w2.cell? ⟨s, 7, none⟩ = some (.int .i64 0) := by simp [World.cell?, hs]
  have c8 : w2.cell? ⟨s, 8, none⟩ = some (.int .u64 0) := by simp [World.cell?, hs]
  have c9 : w2.cell? ⟨s, 9, none⟩ = some (.string ⟨#[]⟩) := by simp [World.cell?, hs]
  have zz : ∀ i, w2.frozen? ⟨s, i, none⟩ = false := fun i => by simp [World.frozen?, hs]
  have hsl : s < w2.heap.size := World.block_lt_of_cell? w2 _ c0
  have b0 : w2.cell? ⟨B, 0, none⟩ = some (.int .i64 2) := by simp [World.cell?, hbx]
  have b1 : w2.cell? ⟨B, 1, none⟩ = some (.int .u64 b) := by simp [World.cell?, hbx]
  have b2 : w2.cell? ⟨B, 2, none⟩ = some (.string ⟨#[]⟩) := by simp [World.cell?, hbx]
  have hBl : B < w2.heap.size := World.block_lt_of_cell? w2 _ b0
  clear hT hs hbx
  go_quiet (fail)
  go_wp2_with fail
  refine wp_gen (Mid w s B b (stA 0 q whole re im 2 b 2 b)) (((((HM2.out.drewN _).set 7 _).set 8 _).set 9 _).set 1 _) ?_
  clear c0 c1 c2 c3 c4 c5 c6 c7 c8 c9 zz hsl b0 b1 b2 hBl
  intro w3 hm
  have HM3 := Lib.hid hm
  clear hm HM2 w2
  obtain ⟨hT, hs, hbx⟩ := HM3.out
  unfold stA at hs
  have c0 : w3.cell? ⟨s, 0, none⟩ = some (.int .i64 (0 : Nat)) := by simp [World.cell?, hs]
  have c1 : w3.cell? ⟨s, 1, none⟩ = some (.float .f64 q) := by simp [World.cell?, hs]
  have c2 : w3.cell? ⟨s, 2, none⟩ = some (.int .u64 whole) := by simp [World.cell?, hs]
  have c3 : w3.cell? ⟨s, 3, none⟩ = some (.complex .f64 re im) := by simp [World.cell?, hs]
  have c4 : w3.cell? ⟨s, 4, none⟩ = some (.int .i64 2) := by simp [World.cell?, hs]
  have c5 : w3.cell? ⟨s, 5, none⟩ = some (.int .u64 b) := by simp [World.cell?, hs]
  have c6 : w3.cell? ⟨s, 6, none⟩ = some (.string ⟨#[]⟩) := by simp [World.cell?, hs]
  have c7 : w3.cell? ⟨s, 7, none⟩ = some (.int .i64 2) := by simp [World.cell?, hs]
  have c8 : w3.cell? ⟨s, 8, none⟩ = some (.int .u64 b) := by simp [World.cell?, hs]
  have c9 : w3.cell? ⟨s, 9, none⟩ = some (.string ⟨#[]⟩) := by simp [World.cell?, hs]
  have zz : ∀ i, w3.frozen? ⟨s, i, none⟩ = false := fun i => by simp [World.frozen?, hs]
  have hsl : s < w3.heap.size := World.block_lt_of_cell? w3 _ c0
  have b0 : w3.cell? ⟨B, 0, none⟩ = some (.int .i64 2) := by simp [World.cell?, hbx]
  have b1 : w3.cell? ⟨B, 1, none⟩ = some (.int .u64 b) := by simp [World.cell?, hbx]
  have b2 : w3.cell? ⟨B, 2, none⟩ = some (.string ⟨#[]⟩) := by simp [World.cell?, hbx]
  have hBl : B < w3.heap.size := World.block_lt_of_cell? w3 _ b0
  clear hT hs hbx
  go_region
  go_wp2_with fail
  refine wp_gen (Mid w s B b (stA 0 q (IntKind.u64.wrap (whole + b)) re im 2 b 2 b)) ((HM3.out.drewN _).set 2 _) ?_
  clear c0 c1 c2 c3 c4 c5 c6 c7 c8 c9 zz hsl b0 b1 b2 hBl
  intro w4 hm
  have HM4 := Lib.hid hm
  clear hm HM3 w3
  obtain ⟨hT, hs, hbx⟩ := HM4.out
  unfold stA at hs
  have c0 : w4.cell? ⟨s, 0, none⟩ = some (.int .i64 (0 : Nat)) := by simp [World.cell?, hs]
  have c1 : w4.cell? ⟨s, 1, none⟩ = some (.float .f64 q) := by simp [World.cell?, hs]
  have c2 : w4.cell? ⟨s, 2, none⟩ = some (.int .u64 (IntKind.u64.wrap (whole + b))) := by simp [World.cell?, hs]
  have c3 : w4.cell? ⟨s, 3, none⟩ = some (.complex .f64 re im) := by simp [World.cell?, hs]
  have c4 : w4.cell? ⟨s, 4, none⟩ = some (.int .i64 2) := by simp [World.cell?, hs]
  have c5 : w4.cell? ⟨s, 5, none⟩ = some (.int .u64 b) := by simp [World.cell?, hs]
  have c6 : w4.cell? ⟨s, 6, none⟩ = some (.string ⟨#[]⟩) := by simp [World.cell?, hs]
  have c7 : w4.cell? ⟨s, 7, none⟩ = some (.int .i64 2) := by simp [World.cell?, hs]
  have c8 : w4.cell? ⟨s, 8, none⟩ = some (.int .u64 b) := by simp [World.cell?, hs]
  have c9 : w4.cell? ⟨s, 9, none⟩ = some (.string ⟨#[]⟩) := by simp [World.cell?, hs]
  have zz : ∀ i, w4.frozen? ⟨s, i, none⟩ = false := fun i => by simp [World.frozen?, hs]
  have hsl : s < w4.heap.size := World.block_lt_of_cell? w4 _ c0
  have b0 : w4.cell? ⟨B, 0, none⟩ = some (.int .i64 2) := by simp [World.cell?, hbx]
  have b1 : w4.cell? ⟨B, 1, none⟩ = some (.int .u64 b) := by simp [World.cell?, hbx]
  have b2 : w4.cell? ⟨B, 2, none⟩ = some (.string ⟨#[]⟩) := by simp [World.cell?, hbx]
  have hBl : B < w4.heap.size := World.block_lt_of_cell? w4 _ b0
  clear hT hs hbx
  go_region_with ((go_at_call 32; refine (HST.out _).mono ?_; rintro e w' ⟨rfl, rfl⟩))
  all_goals
    go_wp2_with fail
    go_end0
    refine ⟨rfl, ?_⟩
    have hfin := fun n => ((HM4.out.drewN n).set 3 (.complex .f64 r1 r2)).set 0 (.int .i64 1)
    exact ⟨(hfin _).turns, (hfin _).st⟩
theorem below_of_regrown {w w' : World} (h : ∃ p : Regrown, w' = grow (redrawn w p.d) p.os) : Below w.heap.size w w' := by
  obtain ⟨p, rfl⟩ := h; exact below_regrown w p.d p.os
def ltV (a b : Int) : Int := if a < b then a else b
def gtV (a b : Int) : Int := if b < a then a else b
theorem cmpI_lt {a b : Int} (h : a < b) : cmpI a b < 0 := by unfold cmpI; rw [if_pos h]; omega
theorem cmpI_ge {a b : Int} (h : ¬ a < b) : 0 ≤ cmpI a b := by unfold cmpI; rw [if_neg h]; split <;> omega
theorem cmpI_gt {a b : Int} (h : b < a) : 0 < cmpI a b := by unfold cmpI; rw [if_neg (by omega), if_pos h]; omega
theorem cmpI_le {a b : Int} (h : ¬ b < a) : cmpI a b ≤ 0 := by unfold cmpI; split <;> omega
set_option maxRecDepth 100000 in
set_option maxHeartbeats 1000000 in
theorem take_next_11 (w : World) (s n f : Nat) (whole : Int) (re im : Nat) (lo hi v : Int) (hn1 : 1 ≤ n) (hn2 : n < 4611686018427387904) (hv : lo63 ≤ v ∧ v ≤ 9223372036854775807) (hlo : lo63 ≤ lo ∧ lo ≤ 9223372036854775807) (hhi : lo63 ≤ hi ∧ hi ≤ 9223372036854775807)
    (hcl : v < lo) (hch : hi < v)
    (hs : w.heap[s]? = some (.cells (stA n f whole re im 2 (uw lo) 2 (uw hi)) 53 (0, 0)))
    (hf : noNaN (Ieee.double.read f)) (hr : noNaN (Ieee.double.read re)) (hi' : noNaN (Ieee.double.read im)) :
    Calls Tryz.prog 20 #[.pointer (some ⟨s, 0, none⟩), vInt v] w (TakePost w s (stA (n + 1) (fadd f (floatOfInt .f64 v)) (IntKind.u64.wrap (whole + uw v)) (stepV (n % 4) re im (floatOfInt .f64 v)).1 (stepV (n % 4) re im (floatOfInt .f64 v)).2 2 (uw v) 2 (uw v))) := by
  have hnum := floatOf_num v (by unfold lo63 at hv; omega)
  have hlt := floatOf_lt v
  have hadd := run_add Tryz.prog 35 f (floatOfInt .f64 v) hf hnum
  have HST := Lib.hid (fun w => wstep re im (floatOfInt .f64 v) n w (by omega) hr hi' hnum hlt)
  have HNB := Lib.hid (fun w => number_int v w hv)
  have k1 := cmpI_lt hcl
  have k2 := cmpI_gt hch
  have HC1 := Lib.hid (fun w => (compare_int v lo w hv hlo).mono fun e w' (h : e = _ ∧ _) => (⟨h.1, by rw [h.2]; exact ((Below.refl _ _).alloc (Nat.le_refl _) _).alloc (by simp) _⟩ : e = _ ∧ Below w.heap.size w w'))
  have HC2 := Lib.hid (fun w => (compare_int v hi w hv hhi).mono fun e w' (h : e = _ ∧ _) => (⟨h.1, by rw [h.2]; exact ((Below.refl _ _).alloc (Nat.le_refl _) _).alloc (by simp) _⟩ : e = _ ∧ Below w.heap.size w w'))
  obtain ⟨g, hg⟩ : ∃ g, floatOfInt .f64 v = g := ⟨_, rfl⟩
  rw [hg] at hadd HST HNB ⊢
  obtain ⟨b, hb⟩ : ∃ b, uw v = b := ⟨_, rfl⟩
  obtain ⟨bl, hbl⟩ : ∃ bl, uw lo = bl := ⟨_, rfl⟩
  obtain ⟨bh, hbh⟩ : ∃ bh, uw hi = bh := ⟨_, rfl⟩
  obtain ⟨cl, hcl'⟩ : ∃ cl, cmpI v lo = cl := ⟨_, rfl⟩
  obtain ⟨ch, hch'⟩ : ∃ ch, cmpI v hi = ch := ⟨_, rfl⟩
  unfold vInt cInt at HNB
  unfold vInt at HC1 HC2
  unfold vInt
  rw [hb] at HNB HC1 HC2 ⊢
  rw [hbl] at HC1 hs
  rw [hbh] at HC2 hs
  rw [hcl'] at HC1 k1
  rw [hch'] at HC2 k2
  obtain ⟨q, hq⟩ : ∃ q, fadd f g = q := ⟨_, rfl⟩
  rw [hq] at hadd ⊢
  obtain ⟨r1, hr1⟩ : ∃ r1, (stepV (n % 4) re im g).1 = r1 := ⟨_, rfl⟩
  obtain ⟨r2, hr2⟩ : ∃ r2, (stepV (n % 4) re im g).2 = r2 := ⟨_, rfl⟩
  rw [hr1, hr2] at HST
  rw [hr1, hr2]
  have st1 := fun (w : World) (a : Addr) (m : Mode) => run_store Tryz.prog w a (.float .f64 q) m rfl
  have st2 := fun (w : World) (a : Addr) (m : Mode) => run_store Tryz.prog w a (.complex .f64 r1 r2) m rfl
  have hn0 : ((n : Int) == 0) = false := by simp; omega
  obtain ⟨B, hB⟩ : ∃ B, w.heap.size = B := ⟨_, rfl⟩
  have HM0 := Lib.hid (show Mid w s B b (stA n f whole re im 2 bl 2 bh) (w.alloc (.cells #[.int .i64 2, .int .u64 b, .string ⟨#[]⟩] 27)) from
    ⟨turns_alloc (Turns.refl _ _) _, (Below.heap_alloc w _ s (heap_lt hs)).trans hs, by rw [← hB]; exact heap_alloc_new w _⟩)
  have HB := Lib.hid hB
  clear hs hnum hlt hf hr hi' hg hb hq hr1 hr2 hB hbl hbh hcl hch hv hlo hhi hcl' hch'
  go_enter Tryz.func20, Tryz.ntmps20
  go_wp2_with fail
  rw [HB.out]
  refine (HNB.out _).mono ?_
  rintro e w1 ⟨rfl, rfl⟩
  go_wp2_with fail
  refine wp_gen (Mid w s B b (stA n f whole re im 2 bl 2 bh)) (HM0.out.alloc _) ?_
  intro w1 hm
  have HM1 := Lib.hid hm
  clear hm HM0
  obtain ⟨hT, hs, hbx⟩ := HM1.out
  unfold stA at hs
  have c0 : w1.cell? ⟨s, 0, none⟩ = some (.int .i64 (n : Nat)) := by simp [World.cell?, hs]
  have c1 : w1.cell? ⟨s, 1, none⟩ = some (.float .f64 f) := by simp [World.cell?, hs]
  have c2 : w1.cell? ⟨s, 2, none⟩ = some (.int .u64 whole) := by simp [World.cell?, hs]
  have c3 : w1.cell? ⟨s, 3, none⟩ = some (.complex .f64 re im) := by simp [World.cell?, hs]
  have c4 : w1.cell? ⟨s, 4, none⟩ = some (.int .i64 2) := by simp [World.cell?, hs]
  have c5 : w1.cell? ⟨s, 5, none⟩ = some (.int .u64 bl) := by simp [World.cell?, hs]
  have c6 : w1.cell? ⟨s, 6, none⟩ = some (.string ⟨#[]⟩) := by simp [World.cell?, hs]
  have c7 : w1.cell? ⟨s, 7, none⟩ = some (.int .i64 2) := by simp [World.cell?, hs]
  have c8 : w1.cell? ⟨s, 8, none⟩ = some (.int .u64 bh) := by simp [World.cell?, hs]
  have c9 : w1.cell? ⟨s, 9, none⟩ = some (.string ⟨#[]⟩) := by simp [World.cell?, hs]
  have zz : ∀ i, w1.frozen? ⟨s, i, none⟩ = false := fun i => by simp [World.frozen?, hs]
  have hsl : s < w1.heap.size := World.block_lt_of_cell? w1 _ c0
  have b0 : w1.cell? ⟨B, 0, none⟩ = some (.int .i64 2) := by simp [World.cell?, hbx]
  have b1 : w1.cell? ⟨B, 1, none⟩ = some (.int .u64 b) := by simp [World.cell?, hbx]
  have b2 : w1.cell? ⟨B, 2, none⟩ = some (.string ⟨#[]⟩) := by simp [World.cell?, hbx]
  have hBl : B < w1.heap.size := World.block_lt_of_cell? w1 _ b0
  clear hT hs hbx
  have cC4 := fun d os => Calls.regrown_of (HC1.out (grow (redrawn w1 d) os))
  have g0 := cell_regrown c0
  have g4 := cell_regrown c4
  have g5 := cell_regrown c5
  have g6 := cell_regrown c6
  have h0 := cell_regrown b0
  have h1 := cell_regrown b1
  have h2 := cell_regrown b2
  refine wp_region_quiet_below (by kernel_rfl) (by kernel_rfl) ?_
  repeat (go_big_quiet_step ((first | with_reducible exact cC4 _ _)))
  refine wpQuiet_nil ?_
  intro w2 hw2
  have hb2 := below_of_regrown hw2
  have HM1b := Lib.hid (HM1.out.below hb2)
  clear g0 g4 g5 g6 h0 h1 h2 hw2 hb2 cC4
  clear c0 c1 c2 c3 c4 c5 c6 c7 c8 c9 zz hsl b0 b1 b2 hBl
  clear HM1
  obtain ⟨hT, hs, hbx⟩ := HM1b.out
  unfold stA at hs
  have c0 : w2.cell? ⟨s, 0, none⟩ = some (.int .i64 (n : Nat)) := by simp [World.cell?, hs]
  have c1 : w2.cell? ⟨s, 1, none⟩ = some (.float .f64 f) := by simp [World.cell?, hs]
  have c2 : w2.cell? ⟨s, 2, none⟩ = some (.int .u64 whole) := by simp [World.cell?, hs]
  have c3 : w2.cell? ⟨s, 3, none⟩ = some (.complex .f64 re im) := by simp [World.cell?, hs]
  have c4 : w2.cell? ⟨s, 4, none⟩ = some (.int .i64 2) := by simp [World.cell?, hs]
  have c5 : w2.cell? ⟨s, 5, none⟩ = some (.int .u64 bl) := by simp [World.cell?, hs]
  have c6 : w2.cell? ⟨s, 6, none⟩ = some (.string ⟨#[]⟩) := by simp [World.cell?, hs]
  have c7 : w2.cell? ⟨s, 7, none⟩ = some (.int .i64 2) := by simp [World.cell?, hs]
  have c8 : w2.cell? ⟨s, 8, none⟩ = some (.int .u64 bh) := by simp [World.cell?, hs]
  have c9 : w2.cell? ⟨s, 9, none⟩ = some (.string ⟨#[]⟩) := by simp [World.cell?, hs]
  have zz : ∀ i, w2.frozen? ⟨s, i, none⟩ = false := fun i => by simp [World.frozen?, hs]
  have hsl : s < w2.heap.size := World.block_lt_of_cell? w2 _ c0
  have b0 : w2.cell? ⟨B, 0, none⟩ = some (.int .i64 2) := by simp [World.cell?, hbx]
  have b1 : w2.cell? ⟨B, 1, none⟩ = some (.int .u64 b) := by simp [World.cell?, hbx]
  have b2 : w2.cell? ⟨B, 2, none⟩ = some (.string ⟨#[]⟩) := by simp [World.cell?, hbx]
  have hBl : B < w2.heap.size := World.block_lt_of_cell? w2 _ b0
  clear hT hs hbx
  go_wp2_with fail
  refine wp_gen (Mid w s B b (stA n f whole re im 2 b 2 bh)) (((HM1b.out.set 4 _).set 5 _).set 6 _) ?_
  clear c0 c1 c2 c3 c4 c5 c6 c7 c8 c9 zz hsl b0 b1 b2 hBl
  intro w3 hm
  have HM2 := Lib.hid hm
  clear hm HM1b w2 w1
  obtain ⟨hT, hs, hbx⟩ := HM2.out
  unfold stA at hs
  have c0 : w3.cell? ⟨s, 0, none⟩ = some (.int .i64 (n : Nat)) := by simp [World.cell?, hs]
  have c1 : w3.cell? ⟨s, 1, none⟩ = some (.float .f64 f) := by simp [World.cell?, hs]
  have c2 : w3.cell? ⟨s, 2, none⟩ = some (.int .u64 whole) := by simp [World.cell?, hs]
  have c3 : w3.cell? ⟨s, 3, none⟩ = some (.complex .f64 re im) := by simp [World.cell?, hs]
  have c4 : w3.cell? ⟨s, 4, none⟩ = some (.int .i64 2) := by simp [World.cell?, hs]
  have c5 : w3.cell? ⟨s, 5, none⟩ = some (.int .u64 b) := by simp [World.cell?, hs]
  have c6 : w3.cell? ⟨s, 6, none⟩ = some (.string ⟨#[]⟩) := by simp [World.cell?, hs]
  have c7 : w3.cell? ⟨s, 7, none⟩ = some (.int .i64 2) := by simp [World.cell?, hs]
  have c8 : w3.cell? ⟨s, 8, none⟩ = some (.int .u64 bh) := by simp [World.cell?, hs]
  have c9 : w3.cell? ⟨s, 9, none⟩ = some (.string ⟨#[]⟩) := by simp [World.cell?, hs]
  have zz : ∀ i, w3.frozen? ⟨s, i, none⟩ = false := fun i => by simp [World.frozen?, hs]
  have hsl : s < w3.heap.size := World.block_lt_of_cell? w3 _ c0
  have b0 : w3.cell? ⟨B, 0, none⟩ = some (.int .i64 2) := by simp [World.cell?, hbx]
  have b1 : w3.cell? ⟨B, 1, none⟩ = some (.int .u64 b) := by simp [World.cell?, hbx]
  have b2 : w3.cell? ⟨B, 2, none⟩ = some (.string ⟨#[]⟩) := by simp [World.cell?, hbx]
  have hBl : B < w3.heap.size := World.block_lt_of_cell? w3 _ b0
  clear hT hs hbx
  have cC7 := fun d os => Calls.regrown_of (HC2.out (grow (redrawn w3 d) os))
  have g0 := cell_regrown c0
  have g4 := cell_regrown c7
  have g5 := cell_regrown c8
  have g6 := cell_regrown c9
  have h0 := cell_regrown b0
  have h1 := cell_regrown b1
  have h2 := cell_regrown b2
  refine wp_region_quiet_below (by kernel_rfl) (by kernel_rfl) ?_
  repeat (go_big_quiet_step ((first | with_reducible exact cC7 _ _)))
  refine wpQuiet_nil ?_
  intro w2 hw2
  have hb2 := below_of_regrown hw2
  have HM2b := Lib.hid (HM2.out.below hb2)
  clear g0 g4 g5 g6 h0 h1 h2 hw2 hb2 cC7
  clear c0 c1 c2 c3 c4 c5 c6 c7 c8 c9 zz hsl b0 b1 b2 hBl
  clear HM2
  obtain ⟨hT, hs, hbx⟩ := HM2b.out
  unfold stA at hs
  have c0 : w2.cell? ⟨s, 0, none⟩ = some (.int .i64 (n : Nat)) := by simp [World.cell?, hs]
  have c1 : w2.cell? ⟨s, 1, none⟩ = some (.float .f64 f) := by simp [World.cell?, hs]
  have c2 : w2.cell? ⟨s, 2, none⟩ = some (.int .u64 whole) := by simp [World.cell?, hs]
  have c3 : w2.cell? ⟨s, 3, none⟩ = some (.complex .f64 re im) := by simp [World.cell?, hs]
  have c4 : w2.cell? ⟨s, 4, none⟩ = some (.int .i64 2) := by simp [World.cell?, hs]
  have c5 : w2.cell? ⟨s, 5, none⟩ = some (.int .u64 b) := by simp [World.cell?, hs]
  have c6 : w2.cell? ⟨s, 6, none⟩ = some (.string ⟨#[]⟩) := by simp [World.cell?, hs]
  have c7 : w2.cell? ⟨s, 7, none⟩ = some (.int .i64 2) := by simp [World.cell?, hs]
  have c8 : w2.cell? ⟨s, 8, none⟩ = some (.int .u64 bh) := by simp [World.cell?, hs]
  have c9 : w2.cell? ⟨s, 9, none⟩ = some (.string ⟨#[]⟩) := by simp [World.cell?, hs]
  have zz : ∀ i, w2.frozen? ⟨s, i, none⟩ = false := fun i => by simp [World.frozen?, hs]
  have hsl : s < w2.heap.size := World.block_lt_of_cell? w2 _ c0
  have b0 : w2.cell? ⟨B, 0, none⟩ = some (.int .i64 2) := by simp [World.cell?, hbx]
  have b1 : w2.cell? ⟨B, 1, none⟩ = some (.int .u64 b) := by simp [World.cell?, hbx]
  have b2 : w2.cell? ⟨B, 2, none⟩ = some (.string ⟨#[]⟩) := by simp [World.cell?, hbx]
  have hBl : B < w2.heap.size := World.block_lt_of_cell? w2 _ b0
  clear hT hs hbx
  go_wp2_with fail
  refine wp_gen (Mid w s B b (stA n q whole re im 2 b 2 b)) ((((HM2b.out.set 7 _).set 8 _).set 9 _).set 1 _) ?_
  clear c0 c1 c2 c3 c4 c5 c6 c7 c8 c9 zz hsl b0 b1 b2 hBl
  intro w4 hm
  have HM3 := Lib.hid hm
  clear hm HM2b w2 w3
  obtain ⟨hT, hs, hbx⟩ := HM3.out
  unfold stA at hs
  have c0 : w4.cell? ⟨s, 0, none⟩ = some (.int .i64 (n : Nat)) := by simp [World.cell?, hs]
  have c1 : w4.cell? ⟨s, 1, none⟩ = some (.float .f64 q) := by simp [World.cell?, hs]
  have c2 : w4.cell? ⟨s, 2, none⟩ = some (.int .u64 whole) := by simp [World.cell?, hs]
  have c3 : w4.cell? ⟨s, 3, none⟩ = some (.complex .f64 re im) := by simp [World.cell?, hs]
  have c4 : w4.cell? ⟨s, 4, none⟩ = some (.int .i64 2) := by simp [World.cell?, hs]
  have c5 : w4.cell? ⟨s, 5, none⟩ = some (.int .u64 b) := by simp [World.cell?, hs]
  have c6 : w4.cell? ⟨s, 6, none⟩ = some (.string ⟨#[]⟩) := by simp [World.cell?, hs]
  have c7 : w4.cell? ⟨s, 7, none⟩ = some (.int .i64 2) := by simp [World.cell?, hs]
  have c8 : w4.cell? ⟨s, 8, none⟩ = some (.int .u64 b) := by simp [World.cell?, hs]
  have c9 : w4.cell? ⟨s, 9, none⟩ = some (.string ⟨#[]⟩) := by simp [World.cell?, hs]
  have zz : ∀ i, w4.frozen? ⟨s, i, none⟩ = false := fun i => by simp [World.frozen?, hs]
  have hsl : s < w4.heap.size := World.block_lt_of_cell? w4 _ c0
  have b0 : w4.cell? ⟨B, 0, none⟩ = some (.int .i64 2) := by simp [World.cell?, hbx]
  have b1 : w4.cell? ⟨B, 1, none⟩ = some (.int .u64 b) := by simp [World.cell?, hbx]
  have b2 : w4.cell? ⟨B, 2, none⟩ = some (.string ⟨#[]⟩) := by simp [World.cell?, hbx]
  have hBl : B < w4.heap.size := World.block_lt_of_cell? w4 _ b0
  clear hT hs hbx
  go_region
  go_wp2_with fail
  refine wp_gen (Mid w s B b (stA n q (IntKind.u64.wrap (whole + b)) re im 2 b 2 b)) ((HM3.out.drewN _).set 2 _) ?_
  clear c0 c1 c2 c3 c4 c5 c6 c7 c8 c9 zz hsl b0 b1 b2 hBl
  intro w5 hm
  have HM4 := Lib.hid hm
  clear hm HM3 w4
  obtain ⟨hT, hs, hbx⟩ := HM4.out
  unfold stA at hs
  have c0 : w5.cell? ⟨s, 0, none⟩ = some (.int .i64 (n : Nat)) := by simp [World.cell?, hs]
  have c1 : w5.cell? ⟨s, 1, none⟩ = some (.float .f64 q) := by simp [World.cell?, hs]
  have c2 : w5.cell? ⟨s, 2, none⟩ = some (.int .u64 (IntKind.u64.wrap (whole + b))) := by simp [World.cell?, hs]
  have c3 : w5.cell? ⟨s, 3, none⟩ = some (.complex .f64 re im) := by simp [World.cell?, hs]
  have c4 : w5.cell? ⟨s, 4, none⟩ = some (.int .i64 2) := by simp [World.cell?, hs]
  have c5 : w5.cell? ⟨s, 5, none⟩ = some (.int .u64 b) := by simp [World.cell?, hs]
  have c6 : w5.cell? ⟨s, 6, none⟩ = some (.string ⟨#[]⟩) := by simp [World.cell?, hs]
  have c7 : w5.cell? ⟨s, 7, none⟩ = some (.int .i64 2) := by simp [World.cell?, hs]
  have c8 : w5.cell? ⟨s, 8, none⟩ = some (.int .u64 b) := by simp [World.cell?, hs]
  have c9 : w5.cell? ⟨s, 9, none⟩ = some (.string ⟨#[]⟩) := by simp [World.cell?, hs]
  have zz : ∀ i, w5.frozen? ⟨s, i, none⟩ = false := fun i => by simp [World.frozen?, hs]
  have hsl : s < w5.heap.size := World.block_lt_of_cell? w5 _ c0
  have b0 : w5.cell? ⟨B, 0, none⟩ = some (.int .i64 2) := by simp [World.cell?, hbx]
  have b1 : w5.cell? ⟨B, 1, none⟩ = some (.int .u64 b) := by simp [World.cell?, hbx]
  have b2 : w5.cell? ⟨B, 2, none⟩ = some (.string ⟨#[]⟩) := by simp [World.cell?, hbx]
  have hBl : B < w5.heap.size := World.block_lt_of_cell? w5 _ b0
  clear hT hs hbx
  go_region_with ((go_at_call 32; refine (HST.out _).mono ?_; rintro e w' ⟨rfl, rfl⟩))
  all_goals
    go_wp2_with fail
    go_end0
    refine ⟨rfl, ?_⟩
    have hfin := fun m => ((HM4.out.drewN m).set 3 (.complex .f64 r1 r2)).set 0 (.int .i64 ((n : Int) + 1))
    exact ⟨(hfin _).turns, (hfin _).st⟩
set_option maxRecDepth 100000 in
set_option maxHeartbeats 1000000 in
theorem take_next_10 (w : World) (s n f : Nat) (whole : Int) (re im : Nat) (lo hi v : Int) (hn1 : 1 ≤ n) (hn2 : n < 4611686018427387904) (hv : lo63 ≤ v ∧ v ≤ 9223372036854775807) (hlo : lo63 ≤ lo ∧ lo ≤ 9223372036854775807) (hhi : lo63 ≤ hi ∧ hi ≤ 9223372036854775807)
    (hcl : v < lo) (hch : ¬ hi < v)
    (hs : w.heap[s]? = some (.cells (stA n f whole re im 2 (uw lo) 2 (uw hi)) 53 (0, 0)))
    (hf : noNaN (Ieee.double.read f)) (hr : noNaN (Ieee.double.read re)) (hi' : noNaN (Ieee.double.read im)) :
    Calls Tryz.prog 20 #[.pointer (some ⟨s, 0, none⟩), vInt v] w (TakePost w s (stA (n + 1) (fadd f (floatOfInt .f64 v)) (IntKind.u64.wrap (whole + uw v)) (stepV (n % 4) re im (floatOfInt .f64 v)).1 (stepV (n % 4) re im (floatOfInt .f64 v)).2 2 (uw v) 2 (uw hi))) := by
  have hnum := floatOf_num v (by unfold lo63 at hv; omega)
  have hlt := floatOf_lt v
  have hadd := run_add Tryz.prog 35 f (floatOfInt .f64 v) hf hnum
  have HST := Lib.hid (fun w => wstep re im (floatOfInt .f64 v) n w (by omega) hr hi' hnum hlt)
  have HNB := Lib.hid (fun w => number_int v w hv)
  have k1 := cmpI_lt hcl
  have k2 := cmpI_le hch
  have HC1 := Lib.hid (fun w => (compare_int v lo w hv hlo).mono fun e w' (h : e = _ ∧ _) => (⟨h.1, by rw [h.2]; exact ((Below.refl _ _).alloc (Nat.le_refl _) _).alloc (by simp) _⟩ : e = _ ∧ Below w.heap.size w w'))
  have HC2 := Lib.hid (fun w => (compare_int v hi w hv hhi).mono fun e w' (h : e = _ ∧ _) => (⟨h.1, by rw [h.2]; exact ((Below.refl _ _).alloc (Nat.le_refl _) _).alloc (by simp) _⟩ : e = _ ∧ Below w.heap.size w w'))
  obtain ⟨g, hg⟩ : ∃ g, floatOfInt .f64 v = g := ⟨_, rfl⟩
  rw [hg] at hadd HST HNB ⊢
  obtain ⟨b, hb⟩ : ∃ b, uw v = b := ⟨_, rfl⟩
  obtain ⟨bl, hbl⟩ : ∃ bl, uw lo = bl := ⟨_, rfl⟩
  obtain ⟨bh, hbh⟩ : ∃ bh, uw hi = bh := ⟨_, rfl⟩
  obtain ⟨cl, hcl'⟩ : ∃ cl, cmpI v lo = cl := ⟨_, rfl⟩
  obtain ⟨ch, hch'⟩ : ∃ ch, cmpI v hi = ch := ⟨_, rfl⟩
  unfold vInt cInt at HNB
  unfold vInt at HC1 HC2
  unfold vInt
  rw [hb] at HNB HC1 HC2 ⊢
  rw [hbl] at HC1 hs
  rw [hbh] at HC2 hs ⊢
  rw [hcl'] at HC1 k1
  rw [hch'] at HC2 k2
  obtain ⟨q, hq⟩ : ∃ q, fadd f g = q := ⟨_, rfl⟩
  rw [hq] at hadd ⊢
  obtain ⟨r1, hr1⟩ : ∃ r1, (stepV (n % 4) re im g).1 = r1 := ⟨_, rfl⟩
  obtain ⟨r2, hr2⟩ : ∃ r2, (stepV (n % 4) re im g).2 = r2 := ⟨_, rfl⟩
  rw [hr1, hr2] at HST
  rw [hr1, hr2]
  have st1 := fun (w : World) (a : Addr) (m : Mode) => run_store Tryz.prog w a (.float .f64 q) m rfl
  have st2 := fun (w : World) (a : Addr) (m : Mode) => run_store Tryz.prog w a (.complex .f64 r1 r2) m rfl
  have hn0 : ((n : Int) == 0) = false := by simp; omega
  obtain ⟨B, hB⟩ : ∃ B, w.heap.size = B := ⟨_, rfl⟩
  have HM0 := Lib.hid (show Mid w s B b (stA n f whole re im 2 bl 2 bh) (w.alloc (.cells #[.int .i64 2, .int .u64 b, .string ⟨#[]⟩] 27)) from
    ⟨turns_alloc (Turns.refl _ _) _, (Below.heap_alloc w _ s (heap_lt hs)).trans hs, by rw [← hB]; exact heap_alloc_new w _⟩)
  have HB := Lib.hid hB
  clear hs hnum hlt hf hr hi' hg hb hq hr1 hr2 hB hbl hbh hcl hch hv hlo hhi hcl' hch'
  go_enter Tryz.func20, Tryz.ntmps20
  go_wp2_with fail
  rw [HB.out]
  refine (HNB.out _).mono ?_
  rintro e w1 ⟨rfl, rfl⟩
  go_wp2_with fail
  refine wp_gen (Mid w s B b (stA n f whole re im 2 bl 2 bh)) (HM0.out.alloc _) ?_
  intro w1 hm
  have HM1 := Lib.hid hm
  clear hm HM0
  obtain ⟨hT, hs, hbx⟩ := HM1.out
  unfold stA at hs
  have c0 : w1.cell? ⟨s, 0, none⟩ = some (.int .i64 (n : Nat)) := by simp [World.cell?, hs]
  have c1 : w1.cell? ⟨s, 1, none⟩ = some (.float .f64 f) := by simp [World.cell?, hs]
  have c2 : w1.cell? ⟨s, 2, none⟩ = some (.int .u64 whole) := by simp [World.cell?, hs]
  have c3 : w1.cell? ⟨s, 3, none⟩ = some (.complex .f64 re im) := by simp [World.cell?, hs]
  have c4 : w1.cell? ⟨s, 4, none⟩ = some (.int .i64 2) := by simp [World.cell?, hs]
  have c5 : w1.cell? ⟨s, 5, none⟩ = some (.int .u64 bl) := by simp [World.cell?, hs]
  have c6 : w1.cell? ⟨s, 6, none⟩ = some (.string ⟨#[]⟩) := by simp [World.cell?, hs]
  have c7 : w1.cell? ⟨s, 7, none⟩ = some (.int .i64 2) := by simp [World.cell?, hs]
  have c8 : w1.cell? ⟨s, 8, none⟩ = some (.int .u64 bh) := by simp [World.cell?, hs]
  have c9 : w1.cell? ⟨s, 9, none⟩ = some (.string ⟨#[]⟩) := by simp [World.cell?, hs]
  have zz : ∀ i, w1.frozen? ⟨s, i, none⟩ = false := fun i => by simp [World.frozen?, hs]
  have hsl : s < w1.heap.size := World.block_lt_of_cell? w1 _ c0
  have b0 : w1.cell? ⟨B, 0, none⟩ = some (.int .i64 2) := by simp [World.cell?, hbx]
  have b1 : w1.cell? ⟨B, 1, none⟩ = some (.int .u64 b) := by simp [World.cell?, hbx]
  have b2 : w1.cell? ⟨B, 2, none⟩ = some (.string ⟨#[]⟩) := by simp [World.cell?, hbx]
  have hBl : B < w1.heap.size := World.block_lt_of_cell? w1 _ b0
  clear hT hs hbx
  have cC4 := fun d os => Calls.regrown_of (HC1.out (grow (redrawn w1 d) os))
  have g0 := cell_regrown c0
  have g4 := cell_regrown c4
  have g5 := cell_regrown c5
  have g6 := cell_regrown c6
  have h0 := cell_regrown b0
  have h1 := cell_regrown b1
  have h2 := cell_regrown b2
  refine wp_region_quiet_below (by kernel_rfl) (by kernel_rfl) ?_
  repeat (go_big_quiet_step ((first | with_reducible exact cC4 _ _)))
  refine wpQuiet_nil ?_
  intro w2 hw2
  have hb2 := below_of_regrown hw2
  have HM1b := Lib.hid (HM1.out.below hb2)
  clear g0 g4 g5 g6 h0 h1 h2 hw2 hb2 cC4
  clear c0 c1 c2 c3 c4 c5 c6 c7 c8 c9 zz hsl b0 b1 b2 hBl
  clear HM1
  obtain ⟨hT, hs, hbx⟩ := HM1b.out
  unfold stA at hs
  have c0 : w2.cell? ⟨s, 0, none⟩ = some (.int .i64 (n : Nat)) := by simp [World.cell?, hs]
  have c1 : w2.cell? ⟨s, 1, none⟩ = some (.float .f64 f) := by simp [World.cell?, hs]
  have c2 : w2.cell? ⟨s, 2, none⟩ = some (.int .u64 whole) := by simp [World.cell?, hs]
  have c3 : w2.cell? ⟨s, 3, none⟩ = some (.complex .f64 re im) := by simp [World.cell?, hs]
  have c4 : w2.cell? ⟨s, 4, none⟩ = some (.int .i64 2) := by simp [World.cell?, hs]
  have c5 : w2.cell? ⟨s, 5, none⟩ = some (.int .u64 bl) := by simp [World.cell?, hs]
  have c6 : w2.cell? ⟨s, 6, none⟩ = some (.string ⟨#[]⟩) := by simp [World.cell?, hs]
  have c7 : w2.cell? ⟨s, 7, none⟩ = some (.int .i64 2) := by simp [World.cell?, hs]
  have c8 : w2.cell? ⟨s, 8, none⟩ = some (.int .u64 bh) := by simp [World.cell?, hs]
  have c9 : w2.cell? ⟨s, 9, none⟩ = some (.string ⟨#[]⟩) := by simp [World.cell?, hs]
  have zz : ∀ i, w2.frozen? ⟨s, i, none⟩ = false := fun i => by simp [World.frozen?, hs]
  have hsl : s < w2.heap.size := World.block_lt_of_cell? w2 _ c0
  have b0 : w2.cell? ⟨B, 0, none⟩ = some (.int .i64 2) := by simp [World.cell?, hbx]
  have b1 : w2.cell? ⟨B, 1, none⟩ = some (.int .u64 b) := by simp [World.cell?, hbx]
  have b2 : w2.cell? ⟨B, 2, none⟩ = some (.string ⟨#[]⟩) := by simp [World.cell?, hbx]
  have hBl : B < w2.heap.size := World.block_lt_of_cell? w2 _ b0
  clear hT hs hbx
  go_wp2_with fail
  refine wp_gen (Mid w s B b (stA n f whole re im 2 b 2 bh)) (((HM1b.out.set 4 _).set 5 _).set 6 _) ?_
  clear c0 c1 c2 c3 c4 c5 c6 c7 c8 c9 zz hsl b0 b1 b2 hBl
  intro w3 hm
  have HM2 := Lib.hid hm
  clear hm HM1b w2 w1
  obtain ⟨hT, hs, hbx⟩ := HM2.out
  unfold stA at hs
  have c0 : w3.cell? ⟨s, 0, none⟩ = some (.int .i64 (n : Nat)) := by simp [World.cell?, hs]
  have c1 : w3.cell? ⟨s, 1, none⟩ = some (.float .f64 f) := by simp [World.cell?, hs]
  have c2 : w3.cell? ⟨s, 2, none⟩ = some (.int .u64 whole) := by simp [World.cell?, hs]
  have c3 : w3.cell? ⟨s, 3, none⟩ = some (.complex .f64 re im) := by simp [World.cell?, hs]
  have c4 : w3.cell? ⟨s, 4, none⟩ = some (.int .i64 2) := by simp [World.cell?, hs]
  have c5 : w3.cell? ⟨s, 5, none⟩ = some (.int .u64 b) := by simp [World.cell?, hs]
  have c6 : w3.cell? ⟨s, 6, none⟩ = some (.string ⟨#[]⟩) := by simp [World.cell?, hs]
  have c7 : w3.cell? ⟨s, 7, none⟩ = some (.int .i64 2) := by simp [World.cell?, hs]
  have c8 : w3.cell? ⟨s, 8, none⟩ = some (.int .u64 bh) := by simp [World.cell?, hs]
  have c9 : w3.cell? ⟨s, 9, none⟩ = some (.string ⟨#[]⟩) := by simp [World.cell?, hs]
  have zz : ∀ i, w3.frozen? ⟨s, i, none⟩ = false := fun i => by simp [World.frozen?, hs]
  have hsl : s < w3.heap.size := World.block_lt_of_cell? w3 _ c0
  have b0 : w3.cell? ⟨B, 0, none⟩ = some (.int .i64 2) := by simp [World.cell?, hbx]
  have b1 : w3.cell? ⟨B, 1, none⟩ = some (.int .u64 b) := by simp [World.cell?, hbx]
  have b2 : w3.cell? ⟨B, 2, none⟩ = some (.string ⟨#[]⟩) := by simp [World.cell?, hbx]
  have hBl : B < w3.heap.size := World.block_lt_of_cell? w3 _ b0
  clear hT hs hbx
  have cC7 := fun d os => Calls.regrown_of (HC2.out (grow (redrawn w3 d) os))
  have g0 := cell_regrown c0
  have g4 := cell_regrown c7
  have g5 := cell_regrown c8
  have g6 := cell_regrown c9
  have h0 := cell_regrown b0
  have h1 := cell_regrown b1
  have h2 := cell_regrown b2
  refine wp_region_quiet_below (by kernel_rfl) (by kernel_rfl) ?_
  repeat (go_big_quiet_step ((first | with_reducible exact cC7 _ _)))
  refine wpQuiet_nil ?_
  intro w2 hw2
  have hb2 := below_of_regrown hw2
  have HM2b := Lib.hid (HM2.out.below hb2)
  clear g0 g4 g5 g6 h0 h1 h2 hw2 hb2 cC7
  clear c0 c1 c2 c3 c4 c5 c6 c7 c8 c9 zz hsl b0 b1 b2 hBl
  clear HM2
  obtain ⟨hT, hs, hbx⟩ := HM2b.out
  unfold stA at hs
  have c0 : w2.cell? ⟨s, 0, none⟩ = some (.int .i64 (n : Nat)) := by simp [World.cell?, hs]
  have c1 : w2.cell? ⟨s, 1, none⟩ = some (.float .f64 f) := by simp [World.cell?, hs]
  have c2 : w2.cell? ⟨s, 2, none⟩ = some (.int .u64 whole) := by simp [World.cell?, hs]
  have c3 : w2.cell? ⟨s, 3, none⟩ = some (.complex .f64 re im) := by simp [World.cell?, hs]
  have c4 : w2.cell? ⟨s, 4, none⟩ = some (.int .i64 2) := by simp [World.cell?, hs]
  have c5 : w2.cell? ⟨s, 5, none⟩ = some (.int .u64 b) := by simp [World.cell?, hs]
  have c6 : w2.cell? ⟨s, 6, none⟩ = some (.string ⟨#[]⟩) := by simp [World.cell?, hs]
  have c7 : w2.cell? ⟨s, 7, none⟩ = some (.int .i64 2) := by simp [World.cell?, hs]
  have c8 : w2.cell? ⟨s, 8, none⟩ = some (.int .u64 bh) := by simp [World.cell?, hs]
  have c9 : w2.cell? ⟨s, 9, none⟩ = some (.string ⟨#[]⟩) := by simp [World.cell?, hs]
  have zz : ∀ i, w2.frozen? ⟨s, i, none⟩ = false := fun i => by simp [World.frozen?, hs]
  have hsl : s < w2.heap.size := World.block_lt_of_cell? w2 _ c0
  have b0 : w2.cell? ⟨B, 0, none⟩ = some (.int .i64 2) := by simp [World.cell?, hbx]
  have b1 : w2.cell? ⟨B, 1, none⟩ = some (.int .u64 b) := by simp [World.cell?, hbx]
  have b2 : w2.cell? ⟨B, 2, none⟩ = some (.string ⟨#[]⟩) := by simp [World.cell?, hbx]
  have hBl : B < w2.heap.size := World.block_lt_of_cell? w2 _ b0
  clear hT hs hbx
  go_wp2_with fail
  refine wp_gen (Mid w s B b (stA n q whole re im 2 b 2 bh)) (HM2b.out.set 1 _) ?_
  clear c0 c1 c2 c3 c4 c5 c6 c7 c8 c9 zz hsl b0 b1 b2 hBl
  intro w4 hm
  have HM3 := Lib.hid hm
  clear hm HM2b w2 w3
  obtain ⟨hT, hs, hbx⟩ := HM3.out
  unfold stA at hs
  have c0 : w4.cell? ⟨s, 0, none⟩ = some (.int .i64 (n : Nat)) := by simp [World.cell?, hs]
  have c1 : w4.cell? ⟨s, 1, none⟩ = some (.float .f64 q) := by simp [World.cell?, hs]
  have c2 : w4.cell? ⟨s, 2, none⟩ = some (.int .u64 whole) := by simp [World.cell?, hs]
  have c3 : w4.cell? ⟨s, 3, none⟩ = some (.complex .f64 re im) := by simp [World.cell?, hs]
  have c4 : w4.cell? ⟨s, 4, none⟩ = some (.int .i64 2) := by simp [World.cell?, hs]
  have c5 : w4.cell? ⟨s, 5, none⟩ = some (.int .u64 b) := by simp [World.cell?, hs]
  have c6 : w4.cell? ⟨s, 6, none⟩ = some (.string ⟨#[]⟩) := by simp [World.cell?, hs]
  have c7 : w4.cell? ⟨s, 7, none⟩ = some (.int .i64 2) := by simp [World.cell?, hs]
  have c8 : w4.cell? ⟨s, 8, none⟩ = some (.int .u64 bh) := by simp [World.cell?, hs]
  have c9 : w4.cell? ⟨s, 9, none⟩ = some (.string ⟨#[]⟩) := by simp [World.cell?, hs]
  have zz : ∀ i, w4.frozen? ⟨s, i, none⟩ = false := fun i => by simp [World.frozen?, hs]
  have hsl : s < w4.heap.size := World.block_lt_of_cell? w4 _ c0
  have b0 : w4.cell? ⟨B, 0, none⟩ = some (.int .i64 2) := by simp [World.cell?, hbx]
  have b1 : w4.cell? ⟨B, 1, none⟩ = some (.int .u64 b) := by simp [World.cell?, hbx]
  have b2 : w4.cell? ⟨B, 2, none⟩ = some (.string ⟨#[]⟩) := by simp [World.cell?, hbx]
  have hBl : B < w4.heap.size := World.block_lt_of_cell? w4 _ b0
  clear hT hs hbx
  go_region
  go_wp2_with fail
  refine wp_gen (Mid w s B b (stA n q (IntKind.u64.wrap (whole + b)) re im 2 b 2 bh)) ((HM3.out.drewN _).set 2 _) ?_
  clear c0 c1 c2 c3 c4 c5 c6 c7 c8 c9 zz hsl b0 b1 b2 hBl
  intro w5 hm
  have HM4 := Lib.hid hm
  clear hm HM3 w4
  obtain ⟨hT, hs, hbx⟩ := HM4.out
  unfold stA at hs
  have c0 : w5.cell? ⟨s, 0, none⟩ = some (.int .i64 (n : Nat)) := by simp [World.cell?, hs]
  have c1 : w5.cell? ⟨s, 1, none⟩ = some (.float .f64 q) := by simp [World.cell?, hs]
  have c2 : w5.cell? ⟨s, 2, none⟩ = some (.int .u64 (IntKind.u64.wrap (whole + b))) := by simp [World.cell?, hs]
  have c3 : w5.cell? ⟨s, 3, none⟩ = some (.complex .f64 re im) := by simp [World.cell?, hs]
  have c4 : w5.cell? ⟨s, 4, none⟩ = some (.int .i64 2) := by simp [World.cell?, hs]
  have c5 : w5.cell? ⟨s, 5, none⟩ = some (.int .u64 b) := by simp [World.cell?, hs]
  have c6 : w5.cell? ⟨s, 6, none⟩ = some (.string ⟨#[]⟩) := by simp [World.cell?, hs]
  have c7 : w5.cell? ⟨s, 7, none⟩ = some (.int .i64 2) := by simp [World.cell?, hs]
  have c8 : w5.cell? ⟨s, 8, none⟩ = some (.int .u64 bh) := by simp [World.cell?, hs]
  have c9 : w5.cell? ⟨s, 9, none⟩ = some (.string ⟨#[]⟩) := by simp [World.cell?, hs]
  have zz : ∀ i, w5.frozen? ⟨s, i, none⟩ = false := fun i => by simp [World.frozen?, hs]
  have hsl : s < w5.heap.size := World.block_lt_of_cell? w5 _ c0
  have b0 : w5.cell? ⟨B, 0, none⟩ = some (.int .i64 2) := by simp [World.cell?, hbx]
  have b1 : w5.cell? ⟨B, 1, none⟩ = some (.int .u64 b) := by simp [World.cell?, hbx]
  have b2 : w5.cell? ⟨B, 2, none⟩ = some (.string ⟨#[]⟩) := by simp [World.cell?, hbx]
  have hBl : B < w5.heap.size := World.block_lt_of_cell? w5 _ b0
  clear hT hs hbx
  go_region_with ((go_at_call 32; refine (HST.out _).mono ?_; rintro e w' ⟨rfl, rfl⟩))
  all_goals
    go_wp2_with fail
    go_end0
    refine ⟨rfl, ?_⟩
    have hfin := fun m => ((HM4.out.drewN m).set 3 (.complex .f64 r1 r2)).set 0 (.int .i64 ((n : Int) + 1))
    exact ⟨(hfin _).turns, (hfin _).st⟩
set_option maxRecDepth 100000 in
set_option maxHeartbeats 1000000 in
theorem take_next_01 (w : World) (s n f : Nat) (whole : Int) (re im : Nat) (lo hi v : Int) (hn1 : 1 ≤ n) (hn2 : n < 4611686018427387904) (hv : lo63 ≤ v ∧ v ≤ 9223372036854775807) (hlo : lo63 ≤ lo ∧ lo ≤ 9223372036854775807) (hhi : lo63 ≤ hi ∧ hi ≤ 9223372036854775807)
    (hcl : ¬ v < lo) (hch : hi < v)
    (hs : w.heap[s]? = some (.cells (stA n f whole re im 2 (uw lo) 2 (uw hi)) 53 (0, 0)))
    (hf : noNaN (Ieee.double.read f)) (hr : noNaN (Ieee.double.read re)) (hi' : noNaN (Ieee.double.read im)) :
    Calls Tryz.prog 20 #[.pointer (some ⟨s, 0, none⟩), vInt v] w (TakePost w s (stA (n + 1) (fadd f (floatOfInt .f64 v)) (IntKind.u64.wrap (whole + uw v)) (stepV (n % 4) re im (floatOfInt .f64 v)).1 (stepV (n % 4) re im (floatOfInt .f64 v)).2 2 (uw lo) 2 (uw v))) := by
  have hnum := floatOf_num v (by unfold lo63 at hv; omega)
  have hlt := floatOf_lt v
  have hadd := run_add Tryz.prog 35 f (floatOfInt .f64 v) hf hnum
  have HST := Lib.hid (fun w => wstep re im (floatOfInt .f64 v) n w (by omega) hr hi' hnum hlt)
  have HNB := Lib.hid (fun w => number_int v w hv)
  have k1 := cmpI_ge hcl
  have k2 := cmpI_gt hch
  have HC1 := Lib.hid (fun w => (compare_int v lo w hv hlo).mono fun e w' (h : e = _ ∧ _) => (⟨h.1, by rw [h.2]; exact ((Below.refl _ _).alloc (Nat.le_refl _) _).alloc (by simp) _⟩ : e = _ ∧ Below w.heap.size w w'))
  have HC2 := Lib.hid (fun w => (compare_int v hi w hv hhi).mono fun e w' (h : e = _ ∧ _) => (⟨h.1, by rw [h.2]; exact ((Below.refl _ _).alloc (Nat.le_refl _) _).alloc (by simp) _⟩ : e = _ ∧ Below w.heap.size w w'))
  obtain ⟨g, hg⟩ : ∃ g, floatOfInt .f64 v = g := ⟨_, rfl⟩
  rw [hg] at hadd HST HNB ⊢
  obtain ⟨b, hb⟩ : ∃ b, uw v = b := ⟨_, rfl⟩
  obtain ⟨bl, hbl⟩ : ∃ bl, uw lo = bl := ⟨_, rfl⟩
  obtain ⟨bh, hbh⟩ : ∃ bh, uw hi = bh := ⟨_, rfl⟩
  obtain ⟨cl, hcl'⟩ : ∃ cl, cmpI v lo = cl := ⟨_, rfl⟩
  obtain ⟨ch, hch'⟩ : ∃ ch, cmpI v hi = ch := ⟨_, rfl⟩
  unfold vInt cInt at HNB
  unfold vInt at HC1 HC2
  unfold vInt
  rw [hb] at HNB HC1 HC2 ⊢
  rw [hbl] at HC1 hs ⊢
  rw [hbh] at HC2 hs
  rw [hcl'] at HC1 k1
  rw [hch'] at HC2 k2
  obtain ⟨q, hq⟩ : ∃ q, fadd f g = q := ⟨_, rfl⟩
  rw [hq] at hadd ⊢
  obtain ⟨r1, hr1⟩ : ∃ r1, (stepV (n % 4) re im g).1 = r1 := ⟨_, rfl⟩
  obtain ⟨r2, hr2⟩ : ∃ r2, (stepV (n % 4) re im g).2 = r2 := ⟨_, rfl⟩
  rw [hr1, hr2] at HST
  rw [hr1, hr2]
  have st1 := fun (w : World) (a : Addr) (m : Mode) => run_store Tryz.prog w a (.float .f64 q) m rfl
  have st2 := fun (w : World) (a : Addr) (m : Mode) => run_store Tryz.prog w a (.complex .f64 r1 r2) m rfl
  have hn0 : ((n : Int) == 0) = false := by simp; omega
  obtain ⟨B, hB⟩ : ∃ B, w.heap.size = B := ⟨_, rfl⟩
  have HM0 := Lib.hid (show Mid w s B b (stA n f whole re im 2 bl 2 bh) (w.alloc (.cells #[.int .i64 2, .int .u64 b, .string ⟨#[]⟩] 27)) from
    ⟨turns_alloc (Turns.refl _ _) _, (Below.heap_alloc w _ s (heap_lt hs)).trans hs, by rw [← hB]; exact heap_alloc_new w _⟩)
  have HB := Lib.hid hB
  clear hs hnum hlt hf hr hi' hg hb hq hr1 hr2 hB hbl hbh hcl hch hv hlo hhi hcl' hch'
  go_enter Tryz.func20, Tryz.ntmps20
  go_wp2_with fail
  rw [HB.out]
  refine (HNB.out _).mono ?_
  rintro e w1 ⟨rfl, rfl⟩
  go_wp2_with fail
  refine wp_gen (Mid w s B b (stA n f whole re im 2 bl 2 bh)) (HM0.out.alloc _) ?_
  intro w1 hm
  have HM1 := Lib.hid hm
  clear hm HM0
  obtain ⟨hT, hs, hbx⟩ := HM1.out
  unfold stA at hs
  have c0 : w1.cell? ⟨s, 0, none⟩ = some (.int .i64 (n : Nat)) := by simp [World.cell?, hs]
  have c1 : w1.cell? ⟨s, 1, none⟩ = some (.float .f64 f) := by simp [World.cell?, hs]
  have c2 : w1.cell? ⟨s, 2, none⟩ = some (.int .u64 whole) := by simp [World.cell?, hs]
  have c3 : w1.cell? ⟨s, 3, none⟩ = some (.complex .f64 re im) := by simp [World.cell?, hs]
  have c4 : w1.cell? ⟨s, 4, none⟩ = some (.int .i64 2) := by simp [World.cell?, hs]
  have c5 : w1.cell? ⟨s, 5, none⟩ = some (.int .u64 bl) := by simp [World.cell?, hs]
  have c6 : w1.cell? ⟨s, 6, none⟩ = some (.string ⟨#[]⟩) := by simp [World.cell?, hs]
  have c7 : w1.cell? ⟨s, 7, none⟩ = some (.int .i64 2) := by simp [World.cell?, hs]
  have c8 : w1.cell? ⟨s, 8, none⟩ = some (.int .u64 bh) := by simp [World.cell?, hs]
  have c9 : w1.cell? ⟨s, 9, none⟩ = some (.string ⟨#[]⟩) := by simp [World.cell?, hs]
  have zz : ∀ i, w1.frozen? ⟨s, i, none⟩ = false := fun i => by simp [World.frozen?, hs]
  have hsl : s < w1.heap.size := World.block_lt_of_cell? w1 _ c0
  have b0 : w1.cell? ⟨B, 0, none⟩ = some (.int .i64 2) := by simp [World.cell?, hbx]
  have b1 : w1.cell? ⟨B, 1, none⟩ = some (.int .u64 b) := by simp [World.cell?, hbx]
  have b2 : w1.cell? ⟨B, 2, none⟩ = some (.string ⟨#[]⟩) := by simp [World.cell?, hbx]
  have hBl : B < w1.heap.size := World.block_lt_of_cell? w1 _ b0
  clear hT hs hbx
  have cC4 := fun d os => Calls.regrown_of (HC1.out (grow (redrawn w1 d) os))
  have g0 := cell_regrown c0
  have g4 := cell_regrown c4
  have g5 := cell_regrown c5
  have g6 := cell_regrown c6
  have h0 := cell_regrown b0
  have h1 := cell_regrown b1
  have h2 := cell_regrown b2
  refine wp_region_quiet_below (by kernel_rfl) (by kernel_rfl) ?_
  repeat (go_big_quiet_step ((first | with_reducible exact cC4 _ _)))
  refine wpQuiet_nil ?_
  intro w2 hw2
  have hb2 := below_of_regrown hw2
  have HM1b := Lib.hid (HM1.out.below hb2)
  clear g0 g4 g5 g6 h0 h1 h2 hw2 hb2 cC4
  clear c0 c1 c2 c3 c4 c5 c6 c7 c8 c9 zz hsl b0 b1 b2 hBl
  clear HM1
  obtain ⟨hT, hs, hbx⟩ := HM1b.out
  unfold stA at hs
  have c0 : w2.cell? ⟨s, 0, none⟩ = some (.int .i64 (n : Nat)) := by simp [World.cell?, hs]
  have c1 : w2.cell? ⟨s, 1, none⟩ = some (.float .f64 f) := by simp [World.cell?, hs]
  have c2 : w2.cell? ⟨s, 2, none⟩ = some (.int .u64 whole) := by simp [World.cell?, hs]
  have c3 : w2.cell? ⟨s, 3, none⟩ = some (.complex .f64 re im) := by simp [World.cell?, hs]
  have c4 : w2.cell? ⟨s, 4, none⟩ = some (.int .i64 2) := by simp [World.cell?, hs]
  have c5 : w2.cell? ⟨s, 5, none⟩ = some (.int .u64 bl) := by simp [World.cell?, hs]
  have c6 : w2.cell? ⟨s, 6, none⟩ = some (.string ⟨#[]⟩) := by simp [World.cell?, hs]
  have c7 : w2.cell? ⟨s, 7, none⟩ = some (.int .i64 2) := by simp [World.cell?, hs]
  have c8 : w2.cell? ⟨s, 8, none⟩ = some (.int .u64 bh) := by simp [World.cell?, hs]
  have c9 : w2.cell? ⟨s, 9, none⟩ = some (.string ⟨#[]⟩) := by simp [World.cell?, hs]
  have zz : ∀ i, w2.frozen? ⟨s, i, none⟩ = false := fun i => by simp [World.frozen?, hs]
  have hsl : s < w2.heap.size := World.block_lt_of_cell? w2 _ c0
  have b0 : w2.cell? ⟨B, 0, none⟩ = some (.int .i64 2) := by simp [World.cell?, hbx]
  have b1 : w2.cell? ⟨B, 1, none⟩ = some (.int .u64 b) := by simp [World.cell?, hbx]
  have b2 : w2.cell? ⟨B, 2, none⟩ = some (.string ⟨#[]⟩) := by simp [World.cell?, hbx]
  have hBl : B < w2.heap.size := World.block_lt_of_cell? w2 _ b0
  clear hT hs hbx
  go_wp2_with fail
  refine wp_gen (Mid w s B b (stA n f whole re im 2 bl 2 bh)) HM1b.out ?_
  clear c0 c1 c2 c3 c4 c5 c6 c7 c8 c9 zz hsl b0 b1 b2 hBl
  intro w3 hm
  have HM2 := Lib.hid hm
  clear hm HM1b w2 w1
  obtain ⟨hT, hs, hbx⟩ := HM2.out
  unfold stA at hs
  have c0 : w3.cell? ⟨s, 0, none⟩ = some (.int .i64 (n : Nat)) := by simp [World.cell?, hs]
  have c1 : w3.cell? ⟨s, 1, none⟩ = some (.float .f64 f) := by simp [World.cell?, hs]
  have c2 : w3.cell? ⟨s, 2, none⟩ = some (.int .u64 whole) := by simp [World.cell?, hs]
  have c3 : w3.cell? ⟨s, 3, none⟩ = some (.complex .f64 re im) := by simp [World.cell?, hs]
  have c4 : w3.cell? ⟨s, 4, none⟩ = some (.int .i64 2) := by simp [World.cell?, hs]
  have c5 : w3.cell? ⟨s, 5, none⟩ = some (.int .u64 bl) := by simp [World.cell?, hs]
  have c6 : w3.cell? ⟨s, 6, none⟩ = some (.string ⟨#[]⟩) := by simp [World.cell?, hs]
  have c7 : w3.cell? ⟨s, 7, none⟩ = some (.int .i64 2) := by simp [World.cell?, hs]
  have c8 : w3.cell? ⟨s, 8, none⟩ = some (.int .u64 bh) := by simp [World.cell?, hs]
  have c9 : w3.cell? ⟨s, 9, none⟩ = some (.string ⟨#[]⟩) := by simp [World.cell?, hs]
  have zz : ∀ i, w3.frozen? ⟨s, i, none⟩ = false := fun i => by simp [World.frozen?, hs]
  have hsl : s < w3.heap.size := World.block_lt_of_cell? w3 _ c0
  have b0 : w3.cell? ⟨B, 0, none⟩ = some (.int .i64 2) := by simp [World.cell?, hbx]
  have b1 : w3.cell? ⟨B, 1, none⟩ = some (.int .u64 b) := by simp [World.cell?, hbx]
  have b2 : w3.cell? ⟨B, 2, none⟩ = some (.string ⟨#[]⟩) := by simp [World.cell?, hbx]
  have hBl : B < w3.heap.size := World.block_lt_of_cell? w3 _ b0
  clear hT hs hbx
  have cC7 := fun d os => Calls.regrown_of (HC2.out (grow (redrawn w3 d) os))
  have g0 := cell_regrown c0
  have g4 := cell_regrown c7
  have g5 := cell_regrown c8
  have g6 := cell_regrown c9
  have h0 := cell_regrown b0
  have h1 := cell_regrown b1
  have h2 := cell_regrown b2
  refine wp_region_quiet_below (by kernel_rfl) (by kernel_rfl) ?_
  repeat (go_big_quiet_step ((first | with_reducible exact cC7 _ _)))
  refine wpQuiet_nil ?_
  intro w2 hw2
  have hb2 := below_of_regrown hw2
  have HM2b := Lib.hid (HM2.out.below hb2)
  clear g0 g4 g5 g6 h0 h1 h2 hw2 hb2 cC7
  clear c0 c1 c2 c3 c4 c5 c6 c7 c8 c9 zz hsl b0 b1 b2 hBl
  clear HM2
  obtain ⟨hT, hs, hbx⟩ := HM2b.out
  unfold stA at hs
  have c0 : w2.cell? ⟨s, 0, none⟩ = some (.int .i64 (n : Nat)) := by simp [World.cell?, hs]
  have c1 : w2.cell? ⟨s, 1, none⟩ = some (.float .f64 f) := by simp [World.cell?, hs]
  have c2 : w2.cell? ⟨s, 2, none⟩ = some (.int .u64 whole) := by simp [World.cell?, hs]
  have c3 : w2.cell? ⟨s, 3, none⟩ = some (.complex .f64 re im) := by simp [World.cell?, hs]
  have c4 : w2.cell? ⟨s, 4, none⟩ = some (.int .i64 2) := by simp [World.cell?, hs]
  have c5 : w2.cell? ⟨s, 5, none⟩ = some (.int .u64 bl) := by simp [World.cell?, hs]
  have c6 : w2.cell? ⟨s, 6, none⟩ = some (.string ⟨#[]⟩) := by simp [World.cell?, hs]
  have c7 : w2.cell? ⟨s, 7, none⟩ = some (.int .i64 2) := by simp [World.cell?, hs]
  have c8 : w2.cell? ⟨s, 8, none⟩ = some (.int .u64 bh) := by simp [World.cell?, hs]
  have c9 : w2.cell? ⟨s, 9, none⟩ = some (.string ⟨#[]⟩) := by simp [World.cell?, hs]
  have zz : ∀ i, w2.frozen? ⟨s, i, none⟩ = false := fun i => by simp [World.frozen?, hs]
  have hsl : s < w2.heap.size := World.block_lt_of_cell? w2 _ c0
  have b0 : w2.cell? ⟨B, 0, none⟩ = some (.int .i64 2) := by simp [World.cell?, hbx]
  have b1 : w2.cell? ⟨B, 1, none⟩ = some (.int .u64 b) := by simp [World.cell?, hbx]
  have b2 : w2.cell? ⟨B, 2, none⟩ = some (.string ⟨#[]⟩) := by simp [World.cell?, hbx]
  have hBl : B < w2.heap.size := World.block_lt_of_cell? w2 _ b0
  clear hT hs hbx
  go_wp2_with fail
  refine wp_gen (Mid w s B b (stA n q whole re im 2 bl 2 b)) ((((HM2b.out.set 7 _).set 8 _).set 9 _).set 1 _) ?_
  clear c0 c1 c2 c3 c4 c5 c6 c7 c8 c9 zz hsl b0 b1 b2 hBl
  intro w4 hm
  have HM3 := Lib.hid hm
  clear hm HM2b w2 w3
  obtain ⟨hT, hs, hbx⟩ := HM3.out
  unfold stA at hs
  have c0 : w4.cell? ⟨s, 0, none⟩ = some (.int .i64 (n : Nat)) := by simp [World.cell?, hs]
  have c1 : w4.cell? ⟨s, 1, none⟩ = some (.float .f64 q) := by simp [World.cell?, hs]
  have c2 : w4.cell? ⟨s, 2, none⟩ = some (.int .u64 whole) := by simp [World.cell?, hs]
  have c3 : w4.cell? ⟨s, 3, none⟩ = some (.complex .f64 re im) := by simp [World.cell?, hs]
  have c4 : w4.cell? ⟨s, 4, none⟩ = some (.int .i64 2) := by simp [World.cell?, hs]
  have c5 : w4.cell? ⟨s, 5, none⟩ = some (.int .u64 bl) := by simp [World.cell?, hs]
  have c6 : w4.cell? ⟨s, 6, none⟩ = some (.string ⟨#[]⟩) := by simp [World.cell?, hs]
  have c7 : w4.cell? ⟨s, 7, none⟩ = some (.int .i64 2) := by simp [World.cell?, hs]
  have c8 : w4.cell? ⟨s, 8, none⟩ = some (.int .u64 b) := by simp [World.cell?, hs]
  have c9 : w4.cell? ⟨s, 9, none⟩ = some (.string ⟨#[]⟩) := by simp [World.cell?, hs]
  have zz : ∀ i, w4.frozen? ⟨s, i, none⟩ = false := fun i => by simp [World.frozen?, hs]
  have hsl : s < w4.heap.size := World.block_lt_of_cell? w4 _ c0
  have b0 : w4.cell? ⟨B, 0, none⟩ = some (.int .i64 2) := by simp [World.cell?, hbx]
  have b1 : w4.cell? ⟨B, 1, none⟩ = some (.int .u64 b) := by simp [World.cell?, hbx]
  have b2 : w4.cell? ⟨B, 2, none⟩ = some (.string ⟨#[]⟩) := by simp [World.cell?, hbx]
  have hBl : B < w4.heap.size := World.block_lt_of_cell? w4 _ b0
  clear hT hs hbx
  go_region
  go_wp2_with fail
  refine wp_gen (Mid w s B b (stA n q (IntKind.u64.wrap (whole + b)) re im 2 bl 2 b)) ((HM3.out.drewN _).set 2 _) ?_
  clear c0 c1 c2 c3 c4 c5 c6 c7 c8 c9 zz hsl b0 b1 b2 hBl
  intro w5 hm
  have HM4 := Lib.hid hm
  clear hm HM3 w4
  obtain ⟨hT, hs, hbx⟩ := HM4.out
  unfold stA at hs
  have c0 : w5.cell? ⟨s, 0, none⟩ = some (.int .i64 (n : Nat)) := by simp [World.cell?, hs]
  have c1 : w5.cell? ⟨s, 1, none⟩ = some (.float .f64 q) := by simp [World.cell?, hs]
  have c2 : w5.cell? ⟨s, 2, none⟩ = some (.int .u64 (IntKind.u64.wrap (whole + b))) := by simp [World.cell?, hs]
  have c3 : w5.cell? ⟨s, 3, none⟩ = some (.complex .f64 re im) := by simp [World.cell?, hs]
  have c4 : w5.cell? ⟨s, 4, none⟩ = some (.int .i64 2) := by simp [World.cell?, hs]
  have c5 : w5.cell? ⟨s, 5, none⟩ = some (.int .u64 bl) := by simp [World.cell?, hs]
  have c6 : w5.cell? ⟨s, 6, none⟩ = some (.string ⟨#[]⟩) := by simp [World.cell?, hs]
  have c7 : w5.cell? ⟨s, 7, none⟩ = some (.int .i64 2) := by simp [World.cell?, hs]
  have c8 : w5.cell? ⟨s, 8, none⟩ = some (.int .u64 b) := by simp [World.cell?, hs]
  have c9 : w5.cell? ⟨s, 9, none⟩ = some (.string ⟨#[]⟩) := by simp [World.cell?, hs]
  have zz : ∀ i, w5.frozen? ⟨s, i, none⟩ = false := fun i => by simp [World.frozen?, hs]
  have hsl : s < w5.heap.size := World.block_lt_of_cell? w5 _ c0
  have b0 : w5.cell? ⟨B, 0, none⟩ = some (.int .i64 2) := by simp [World.cell?, hbx]
  have b1 : w5.cell? ⟨B, 1, none⟩ = some (.int .u64 b) := by simp [World.cell?, hbx]
  have b2 : w5.cell? ⟨B, 2, none⟩ = some (.string ⟨#[]⟩) := by simp [World.cell?, hbx]
  have hBl : B < w5.heap.size := World.block_lt_of_cell? w5 _ b0
  clear hT hs hbx
  go_region_with ((go_at_call 32; refine (HST.out _).mono ?_; rintro e w' ⟨rfl, rfl⟩))
  all_goals
    go_wp2_with fail
    go_end0
    refine ⟨rfl, ?_⟩
    have hfin := fun m => ((HM4.out.drewN m).set 3 (.complex .f64 r1 r2)).set 0 (.int .i64 ((n : Int) + 1))
    exact ⟨(hfin _).turns, (hfin _).st⟩
set_option maxRecDepth 100000 in
set_option maxHeartbeats 1000000 in
theorem take_next_00 (w : World) (s n f : Nat) (whole : Int) (re im : Nat) (lo hi v : Int) (hn1 : 1 ≤ n) (hn2 : n < 4611686018427387904) (hv : lo63 ≤ v ∧ v ≤ 9223372036854775807) (hlo : lo63 ≤ lo ∧ lo ≤ 9223372036854775807) (hhi : lo63 ≤ hi ∧ hi ≤ 9223372036854775807)
    (hcl : ¬ v < lo) (hch : ¬ hi < v)
    (hs : w.heap[s]? = some (.cells (stA n f whole re im 2 (uw lo) 2 (uw hi)) 53 (0, 0)))
    (hf : noNaN (Ieee.double.read f)) (hr : noNaN (Ieee.double.read re)) (hi' : noNaN (Ieee.double.read im)) :
    Calls Tryz.prog 20 #[.pointer (some ⟨s, 0, none⟩), vInt v] w (TakePost w s (stA (n + 1) (fadd f (floatOfInt .f64 v)) (IntKind.u64.wrap (whole + uw v)) (stepV (n % 4) re im (floatOfInt .f64 v)).1 (stepV (n % 4) re im (floatOfInt .f64 v)).2 2 (uw lo) 2 (uw hi))) := by
  have hnum := floatOf_num v (by unfold lo63 at hv; omega)
  have hlt := floatOf_lt v
  have hadd := run_add Tryz.prog 35 f (floatOfInt .f64 v) hf hnum
  have HST := Lib.hid (fun w => wstep re im (floatOfInt .f64 v) n w (by omega) hr hi' hnum hlt)
  have HNB := Lib.hid (fun w => number_int v w hv)
  have k1 := cmpI_ge hcl
  have k2 := cmpI_le hch
  have HC1 := Lib.hid (fun w => (compare_int v lo w hv hlo).mono fun e w' (h : e = _ ∧ _) => (⟨h.1, by rw [h.2]; exact ((Below.refl _ _).alloc (Nat.le_refl _) _).alloc (by simp) _⟩ : e = _ ∧ Below w.heap.size w w'))
  have HC2 := Lib.hid (fun w => (compare_int v hi w hv hhi).mono fun e w' (h : e = _ ∧ _) => (⟨h.1, by rw [h.2]; exact ((Below.refl _ _).alloc (Nat.le_refl _) _).alloc (by simp) _⟩ : e = _ ∧ Below w.heap.size w w'))
  obtain ⟨g, hg⟩ : ∃ g, floatOfInt .f64 v = g := ⟨_, rfl⟩
  rw [hg] at hadd HST HNB ⊢
  obtain ⟨b, hb⟩ : ∃ b, uw v = b := ⟨_, rfl⟩
  obtain ⟨bl, hbl⟩ : ∃ bl, uw lo = bl := ⟨_, rfl⟩
  obtain ⟨bh, hbh⟩ : ∃ bh, uw hi = bh := ⟨_, rfl⟩
  obtain ⟨cl, hcl'⟩ : ∃ cl, cmpI v lo = cl := ⟨_, rfl⟩
  obtain ⟨ch, hch'⟩ : ∃ ch, cmpI v hi = ch := ⟨_, rfl⟩
  unfold vInt cInt at HNB
  unfold vInt at HC1 HC2
  unfold vInt
  rw [hb] at HNB HC1 HC2 ⊢
  rw [hbl] at HC1 hs ⊢
  rw [hbh] at HC2 hs ⊢
  rw [hcl'] at HC1 k1
  rw [hch'] at HC2 k2
  obtain ⟨q, hq⟩ : ∃ q, fadd f g = q := ⟨_, rfl⟩
  rw [hq] at hadd ⊢
  obtain ⟨r1, hr1⟩ : ∃ r1, (stepV (n % 4) re im g).1 = r1 := ⟨_, rfl⟩
  obtain ⟨r2, hr2⟩ : ∃ r2, (stepV (n % 4) re im g).2 = r2 := ⟨_, rfl⟩
  rw [hr1, hr2] at HST
  rw [hr1, hr2]
  have st1 := fun (w : World) (a : Addr) (m : Mode) => run_store Tryz.prog w a (.float .f64 q) m rfl
  have st2 := fun (w : World) (a : Addr) (m : Mode) => run_store Tryz.prog w a (.complex .f64 r1 r2) m rfl
  have hn0 : ((n : Int) == 0) = false := by simp; omega
  obtain ⟨B, hB⟩ : ∃ B, w.heap.size = B := ⟨_, rfl⟩
  have HM0 := Lib.hid (show Mid w s B b (stA n f whole re im 2 bl 2 bh) (w.alloc (.cells #[.int .i64 2, .int .u64 b, .string ⟨#[]⟩] 27)) from
    ⟨turns_alloc (Turns.refl _ _) _, (Below.heap_alloc w _ s (heap_lt hs)).trans hs, by rw [← hB]; exact heap_alloc_new w _⟩)
  have HB := Lib.hid hB
  clear hs hnum hlt hf hr hi' hg hb hq hr1 hr2 hB hbl hbh hcl hch hv hlo hhi hcl' hch'
  go_enter Tryz.func20, Tryz.ntmps20
  go_wp2_with fail
  rw [HB.out]
  refine (HNB.out _).mono ?_
  rintro e w1 ⟨rfl, rfl⟩
  go_wp2_with fail
  refine wp_gen (Mid w s B b (stA n f whole re im 2 bl 2 bh)) (HM0.out.alloc _) ?_
  intro w1 hm
  have HM1 := Lib.hid hm
  clear hm HM0
  obtain ⟨hT, hs, hbx⟩ := HM1.out
  unfold stA at hs
  have c0 : w1.cell? ⟨s, 0, none⟩ = some (.int .i64 (n : Nat)) := by simp [World.cell?, hs]
  have c1 : w1.cell? ⟨s, 1, none⟩ = some (.float .f64 f) := by simp [World.cell?, hs]
  have c2 : w1.cell? ⟨s, 2, none⟩ = some (.int .u64 whole) := by simp [World.cell?, hs]
  have c3 : w1.cell? ⟨s, 3, none⟩ = some (.complex .f64 re im) := by simp [World.cell?, hs]
  have c4 : w1.cell? ⟨s, 4, none⟩ = some (.int .i64 2) := by simp [World.cell?, hs]
  have c5 : w1.cell? ⟨s, 5, none⟩ = some (.int .u64 bl) := by simp [World.cell?, hs]
  have c6 : w1.cell? ⟨s, 6, none⟩ = some (.string ⟨#[]⟩) := by simp [World.cell?, hs]
  have c7 : w1.cell? ⟨s, 7, none⟩ = some (.int .i64 2) := by simp [World.cell?, hs]
  have c8 : w1.cell? ⟨s, 8, none⟩ = some (.int .u64 bh) := by simp [World.cell?, hs]
  have c9 : w1.cell? ⟨s, 9, none⟩ = some (.string ⟨#[]⟩) := by simp [World.cell?, hs]
  have zz : ∀ i, w1.frozen? ⟨s, i, none⟩ = false := fun i => by simp [World.frozen?, hs]
  have hsl : s < w1.heap.size := World.block_lt_of_cell? w1 _ c0
  have b0 : w1.cell? ⟨B, 0, none⟩ = some (.int .i64 2) := by simp [World.cell?, hbx]
  have b1 : w1.cell? ⟨B, 1, none⟩ = some (.int .u64 b) := by simp [World.cell?, hbx]
  have b2 : w1.cell? ⟨B, 2, none⟩ = some (.string ⟨#[]⟩) := by simp [World.cell?, hbx]
  have hBl : B < w1.heap.size := World.block_lt_of_cell? w1 _ b0
  clear hT hs hbx
  have cC4 := fun d os => Calls.regrown_of (HC1.out (grow (redrawn w1 d) os))
  have g0 := cell_regrown c0
  have g4 := cell_regrown c4
  have g5 := cell_regrown c5
  have g6 := cell_regrown c6
  have h0 := cell_regrown b0
  have h1 := cell_regrown b1
  have h2 := cell_regrown b2
  refine wp_region_quiet_below (by kernel_rfl) (by kernel_rfl) ?_
  repeat (go_big_quiet_step ((first | with_reducible exact cC4 _ _)))
  refine wpQuiet_nil ?_
  intro w2 hw2
  have hb2 := below_of_regrown hw2
  have HM1b := Lib.hid (HM1.out.below hb2)
  clear g0 g4 g5 g6 h0 h1 h2 hw2 hb2 cC4
  clear c0 c1 c2 c3 c4 c5 c6 c7 c8 c9 zz hsl b0 b1 b2 hBl
  clear HM1
  obtain ⟨hT, hs, hbx⟩ := HM1b.out
  unfold stA at hs
  have c0 : w2.cell? ⟨s, 0, none⟩ = some (.int .i64 (n : Nat)) := by simp [World.cell?, hs]
  have c1 : w2.cell? ⟨s, 1, none⟩ = some (.float .f64 f) := by simp [World.cell?, hs]
  have c2 : w2.cell? ⟨s, 2, none⟩ = some (.int .u64 whole) := by simp [World.cell?, hs]
  have c3 : w2.cell? ⟨s, 3, none⟩ = some (.complex .f64 re im) := by simp [World.cell?, hs]
  have c4 : w2.cell? ⟨s, 4, none⟩ = some (.int .i64 2) := by simp [World.cell?, hs]
  have c5 : w2.cell? ⟨s, 5, none⟩ = some (.int .u64 bl) := by simp [World.cell?, hs]
  have c6 : w2.cell? ⟨s, 6, none⟩ = some (.string ⟨#[]⟩) := by simp [World.cell?, hs]
  have c7 : w2.cell? ⟨s, 7, none⟩ = some (.int .i64 2) := by simp [World.cell?, hs]
  have c8 : w2.cell? ⟨s, 8, none⟩ = some (.int .u64 bh) := by simp [World.cell?, hs]
  have c9 : w2.cell? ⟨s, 9, none⟩ = some (.string ⟨#[]⟩) := by simp [World.cell?, hs]
  have zz : ∀ i, w2.frozen? ⟨s, i, none⟩ = false := fun i => by simp [World.frozen?, hs]
  have hsl : s < w2.heap.size := World.block_lt_of_cell? w2 _ c0
  have b0 : w2.cell? ⟨B, 0, none⟩ = some (.int .i64 2) := by simp [World.cell?, hbx]
  have b1 : w2.cell? ⟨B, 1, none⟩ = some (.int .u64 b) := by simp [World.cell?, hbx]
  have b2 : w2.cell? ⟨B, 2, none⟩ = some (.string ⟨#[]⟩) := by simp [World.cell?, hbx]
  have hBl : B < w2.heap.size := World.block_lt_of_cell? w2 _ b0
  clear hT hs hbx
  go_wp2_with fail
  refine wp_gen (Mid w s B b (stA n f whole re im 2 bl 2 bh)) HM1b.out ?_
  clear c0 c1 c2 c3 c4 c5 c6 c7 c8 c9 zz hsl b0 b1 b2 hBl
  intro w3 hm
  have HM2 := Lib.hid hm
  clear hm HM1b w2 w1
  obtain ⟨hT, hs, hbx⟩ := HM2.out
  unfold stA at hs
  have c0 : w3.cell? ⟨s, 0, none⟩ = some (.int .i64 (n : Nat)) := by simp [World.cell?, hs]
  have c1 : w3.cell? ⟨s, 1, none⟩ = some (.float .f64 f) := by simp [World.cell?, hs]
  have c2 : w3.cell? ⟨s, 2, none⟩ = some (.int .u64 whole) := by simp [World.cell?, hs]
  have c3 : w3.cell? ⟨s, 3, none⟩ = some (.complex .f64 re im) := by simp [World.cell?, hs]
  have c4 : w3.cell? ⟨s, 4, none⟩ = some (.int .i64 2) := by simp [World.cell?, hs]
  have c5 : w3.cell? ⟨s, 5, none⟩ = some (.int .u64 bl) := by simp [World.cell?, hs]
  have c6 : w3.cell? ⟨s, 6, none⟩ = some (.string ⟨#[]⟩) := by simp [World.cell?, hs]
  have c7 : w3.cell? ⟨s, 7, none⟩ = some (.int .i64 2) := by simp [World.cell?, hs]
  have c8 : w3.cell? ⟨s, 8, none⟩ = some (.int .u64 bh) := by simp [World.cell?, hs]
  have c9 : w3.cell? ⟨s, 9, none⟩ = some (.string ⟨#[]⟩) := by simp [World.cell?, hs]
  have zz : ∀ i, w3.frozen? ⟨s, i, none⟩ = false := fun i => by simp [World.frozen?, hs]
  have hsl : s < w3.heap.size := World.block_lt_of_cell? w3 _ c0
  have b0 : w3.cell? ⟨B, 0, none⟩ = some (.int .i64 2) := by simp [World.cell?, hbx]
  have b1 : w3.cell? ⟨B, 1, none⟩ = some (.int .u64 b) := by simp [World.cell?, hbx]
  have b2 : w3.cell? ⟨B, 2, none⟩ = some (.string ⟨#[]⟩) := by simp [World.cell?, hbx]
  have hBl : B < w3.heap.size := World.block_lt_of_cell? w3 _ b0
  clear hT hs hbx
  have cC7 := fun d os => Calls.regrown_of (HC2.out (grow (redrawn w3 d) os))
  have g0 := cell_regrown c0
  have g4 := cell_regrown c7
  have g5 := cell_regrown c8
  have g6 := cell_regrown c9
  have h0 := cell_regrown b0
  have h1 := cell_regrown b1
  have h2 := cell_regrown b2
  refine wp_region_quiet_below (by kernel_rfl) (by kernel_rfl) ?_
  repeat (go_big_quiet_step ((first | with_reducible exact cC7 _ _)))
  refine wpQuiet_nil ?_
  intro w2 hw2
  have hb2 := below_of_regrown hw2
  have HM2b := Lib.hid (HM2.out.below hb2)
  clear g0 g4 g5 g6 h0 h1 h2 hw2 hb2 cC7
  clear c0 c1 c2 c3 c4 c5 c6 c7 c8 c9 zz hsl b0 b1 b2 hBl
  clear HM2
  obtain ⟨hT, hs, hbx⟩ := HM2b.out
  unfold stA at hs
  have c0 : w2.cell? ⟨s, 0, none⟩ = some (.int .i64 (n : Nat)) := by simp [World.cell?, hs]
  have c1 : w2.cell? ⟨s, 1, none⟩ = some (.float .f64 f) := by simp [World.cell?, hs]
  have c2 : w2.cell? ⟨s, 2, none⟩ = some (.int .u64 whole) := by simp [World.cell?, hs]
  have c3 : w2.cell? ⟨s, 3, none⟩ = some (.complex .f64 re im) := by simp [World.cell?, hs]
  have c4 : w2.cell? ⟨s, 4, none⟩ = some (.int .i64 2) := by simp [World.cell?, hs]
  have c5 : w2.cell? ⟨s, 5, none⟩ = some (.int .u64 bl) := by simp [World.cell?, hs]
  have c6 : w2.cell? ⟨s, 6, none⟩ = some (.string ⟨#[]⟩) := by simp [World.cell?, hs]
  have c7 : w2.cell? ⟨s, 7, none⟩ = some (.int .i64 2) := by simp [World.cell?, hs]
  have c8 : w2.cell? ⟨s, 8, none⟩ = some (.int .u64 bh) := by simp [World.cell?, hs]
  have c9 : w2.cell? ⟨s, 9, none⟩ = some (.string ⟨#[]⟩) := by simp [World.cell?, hs]
  have zz : ∀ i, w2.frozen? ⟨s, i, none⟩ = false := fun i => by simp [World.frozen?, hs]
  have hsl : s < w2.heap.size := World.block_lt_of_cell? w2 _ c0
  have b0 : w2.cell? ⟨B, 0, none⟩ = some (.int .i64 2) := by simp [World.cell?, hbx]
  have b1 : w2.cell? ⟨B, 1, none⟩ = some (.int .u64 b) := by simp [World.cell?, hbx]
  have b2 : w2.cell? ⟨B, 2, none⟩ = some (.string ⟨#[]⟩) := by simp [World.cell?, hbx]
  have hBl : B < w2.heap.size := World.block_lt_of_cell? w2 _ b0
  clear hT hs hbx
  go_wp2_with fail
  refine wp_gen (Mid w s B b (stA n q whole re im 2 bl 2 bh)) (HM2b.out.set 1 _) ?_
  clear c0 c1 c2 c3 c4 c5 c6 c7 c8 c9 zz hsl b0 b1 b2 hBl
  intro w4 hm
  have HM3 := Lib.hid hm
  clear hm HM2b w2 w3
  obtain ⟨hT, hs, hbx⟩ := HM3.out
  unfold stA at hs
  have c0 : w4.cell? ⟨s, 0, none⟩ = some (.int .i64 (n : Nat)) := by simp [World.cell?, hs]
  have c1 : w4.cell? ⟨s, 1, none⟩ = some (.float .f64 q) := by simp [World.cell?, hs]
  have c2 : w4.cell? ⟨s, 2, none⟩ = some (.int .u64 whole) := by simp [World.cell?, hs]
  have c3 : w4.cell? ⟨s, 3, none⟩ = some (.complex .f64 re im) := by simp [World.cell?, hs]
  have c4 : w4.cell? ⟨s, 4, none⟩ = some (.int .i64 2) := by simp [World.cell?, hs]
  have c5 : w4.cell? ⟨s, 5, none⟩ = some (.int .u64 bl) := by simp [World.cell?, hs]
  have c6 : w4.cell? ⟨s, 6, none⟩ = some (.string ⟨#[]⟩) := by simp [World.cell?, hs]
  have c7 : w4.cell? ⟨s, 7, none⟩ = some (.int .i64 2) := by simp [World.cell?, hs]
  have c8 : w4.cell? ⟨s, 8, none⟩ = some (.int .u64 bh) := by simp [World.cell?, hs]
  have c9 : w4.cell? ⟨s, 9, none⟩ = some (.string ⟨#[]⟩) := by simp [World.cell?, hs]
  have zz : ∀ i, w4.frozen? ⟨s, i, none⟩ = false := fun i => by simp [World.frozen?, hs]
  have hsl : s < w4.heap.size := World.block_lt_of_cell? w4 _ c0
  have b0 : w4.cell? ⟨B, 0, none⟩ = some (.int .i64 2) := by simp [World.cell?, hbx]
  have b1 : w4.cell? ⟨B, 1, none⟩ = some (.int .u64 b) := by simp [World.cell?, hbx]
  have b2 : w4.cell? ⟨B, 2, none⟩ = some (.string ⟨#[]⟩) := by simp [World.cell?, hbx]
  have hBl : B < w4.heap.size := World.block_lt_of_cell? w4 _ b0
  clear hT hs hbx
  go_region
  go_wp2_with fail
  refine wp_gen (Mid w s B b (stA n q (IntKind.u64.wrap (whole + b)) re im 2 bl 2 bh)) ((HM3.out.drewN _).set 2 _) ?_
  clear c0 c1 c2 c3 c4 c5 c6 c7 c8 c9 zz hsl b0 b1 b2 hBl
  intro w5 hm
  have HM4 := Lib.hid hm
  clear hm HM3 w4
  obtain ⟨hT, hs, hbx⟩ := HM4.out
  unfold stA at hs
  have c0 : w5.cell? ⟨s, 0, none⟩ = some (.int .i64 (n : Nat)) := by simp [World.cell?, hs]
  have c1 : w5.cell? ⟨s, 1, none⟩ = some (.float .f64 q) := by simp [World.cell?, hs]
  have c2 : w5.cell? ⟨s, 2, none⟩ = some (.int .u64 (IntKind.u64.wrap (whole + b))) := by simp [World.cell?, hs]
  have c3 : w5.cell? ⟨s, 3, none⟩ = some (.complex .f64 re im) := by simp [World.cell?, hs]
  have c4 : w5.cell? ⟨s, 4, none⟩ = some (.int .i64 2) := by simp [World.cell?, hs]
  have c5 : w5.cell? ⟨s, 5, none⟩ = some (.int .u64 bl) := by simp [World.cell?, hs]
  have c6 : w5.cell? ⟨s, 6, none⟩ = some (.string ⟨#[]⟩) := by simp [World.cell?, hs]
  have c7 : w5.cell? ⟨s, 7, none⟩ = some (.int .i64 2) := by simp [World.cell?, hs]
  have c8 : w5.cell? ⟨s, 8, none⟩ = some (.int .u64 bh) := by simp [World.cell?, hs]
  have c9 : w5.cell? ⟨s, 9, none⟩ = some (.string ⟨#[]⟩) := by simp [World.cell?, hs]
  have zz : ∀ i, w5.frozen? ⟨s, i, none⟩ = false := fun i => by simp [World.frozen?, hs]
  have hsl : s < w5.heap.size := World.block_lt_of_cell? w5 _ c0
  have b0 : w5.cell? ⟨B, 0, none⟩ = some (.int .i64 2) := by simp [World.cell?, hbx]
  have b1 : w5.cell? ⟨B, 1, none⟩ = some (.int .u64 b) := by simp [World.cell?, hbx]
  have b2 : w5.cell? ⟨B, 2, none⟩ = some (.string ⟨#[]⟩) := by simp [World.cell?, hbx]
  have hBl : B < w5.heap.size := World.block_lt_of_cell? w5 _ b0
  clear hT hs hbx
  go_region_with ((go_at_call 32; refine (HST.out _).mono ?_; rintro e w' ⟨rfl, rfl⟩))
  all_goals
    go_wp2_with fail
    go_end0
    refine ⟨rfl, ?_⟩
    have hfin := fun m => ((HM4.out.drewN m).set 3 (.complex .f64 r1 r2)).set 0 (.int .i64 ((n : Int) + 1))
    exact ⟨(hfin _).turns, (hfin _).st⟩
end Go.Proofs.YtcpnmpemgkbanaaGreatDoor
