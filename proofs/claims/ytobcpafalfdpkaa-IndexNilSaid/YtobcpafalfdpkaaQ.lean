/- What is got of a name: a block with three maps, each there or nil. No condition. -/
import Derived.Test.YtobcpafalfdpkaaP
namespace Go.Proofs.Ytobcpafalfdpkaa
open Go.RowKit Go.WideMaps Go.Sort
def MapO {α : Type} (w : World) (K : VK α) (o : Option Nat) (L : List (BA × α)) : Prop := match o with | some b => MapS w K b L | none => L = []
theorem MapO.later {α : Type} {w w' : World} {K : VK α} {o : Option Nat} {L : List (BA × α)} (h : MapO w K o L) (hb : Below w.heap.size w w') : MapO w' K o L := by
  cases o with
  | none => exact h
  | some b => exact MapS.same h (hb.block _ (MapS.lt h))
theorem MapO.look {α : Type} {w : World} {K : VK α} {o : Option Nat} {L : List (BA × α)} (h : MapO w K o L) {mt et : TypeId} (ht : Try.prog.underlying mt = some (.map 9 et)) {z : Value} (hz : (zeroValue et).run Try.prog w = .ok z w) {zd : DataW Unit} (hzd : K.R z = some (zd, [])) (hzi : ∀ x p, K.R x = some (zd, p) → x = z) (s : BA) (hs : s.size ≤ maxLen) :
    (Instr.lookup mt (.map o) (.string s) false).run Try.prog w = .ok (getV K L s z) w := by
  cases o with
  | some b => exact MapS.look h ht hz hzd hzi s hs
  | none =>
    rw [Maps.look_nil false (Maps.string_keyed Try.underlying9) ht hz (WideMaps.keyOf_string_mk Try.underlying9 hs), show L = [] from h]
    rfl
theorem MapO.look_ok {α : Type} {w : World} {K : VK α} {o : Option Nat} {L : List (BA × α)} (h : MapO w K o L) {mt et : TypeId} (ht : Try.prog.underlying mt = some (.map 9 et)) {z : Value} (hz : (zeroValue et).run Try.prog w = .ok z w) {zd : DataW Unit} (hzd : K.R z = some (zd, [])) (hzi : ∀ x p, K.R x = some (zd, p) → x = z) (s : BA) (hs : s.size ≤ maxLen) :
    (Instr.lookup mt (.map o) (.string s) true).run Try.prog w = .ok (.tuple #[getV K L s z, .bool (get L s).isSome]) w := by
  cases o with
  | some b => exact MapS.look_ok h ht hz hzd hzi s hs
  | none =>
    rw [Maps.look_nil true (Maps.string_keyed Try.underlying9) ht hz (WideMaps.keyOf_string_mk Try.underlying9 hs), show L = [] from h]
    rfl
theorem MapO.len {α : Type} {w : World} {K : VK α} {o : Option Nat} {L : List (BA × α)} (h : MapO w K o L) {mt et : TypeId} (ht : Try.prog.underlying mt = some (.map 9 et)) (ty : TypeId) : (Builtin.len_ #[mt] ty #[.map o]).run Try.prog w = .ok (.int .i64 L.length) w := by
  cases o with
  | some b => exact MapS.len h ht ty
  | none =>
    rw [Maps.len_nil ht ty, show L = [] from h]
    rfl
theorem MapO.rising {α : Type} {w : World} {K : VK α} {o : Option Nat} {L : List (BA × α)} (h : MapO w K o L) : RisingK L := by
  cases o with
  | some b => exact MapS.rising h
  | none => rw [show L = [] from h]; exact List.Pairwise.nil
theorem MapO.sizes {α : Type} {w : World} {K : VK α} {o : Option Nat} {L : List (BA × α)} (h : MapO w K o L) : ∀ p ∈ L, p.1.size ≤ maxLen := by
  cases o with
  | some b => exact MapS.sizes h
  | none => rw [show L = [] from h]; intro p hp; cases hp
def me0 : Me := ⟨0, 0, 0, [], [], fun _ => [], fun _ _ => [], []⟩
structure View (w : World) (g : Nat) (a b c : Option Nat) (μ : Me) : Prop where
  blk : w.heap[g]? = some (.cells #[.map a, .map b, .map c] 72 (0, 0))
  ser : MapO w serK a μ.ss
  tgs : MapO w mapK b μ.A
  kin : MapO w intK c μ.kd
  key : ∀ p ∈ μ.A, MapS w mapK p.2 (μ.V p.1)
  val : ∀ p ∈ μ.A, ∀ q ∈ μ.V p.1, MapS w boolK q.2 (μ.X p.1 q.1)
  rows : ∀ p ∈ μ.ss, SerAt w p.2
theorem View.later {w w' : World} {g : Nat} {a b c : Option Nat} {μ : Me} (h : View w g a b c μ) (hb : Below w.heap.size w w') : View w' g a b c μ :=
  ⟨(hb.block _ (heap_lt h.blk)).trans h.blk, h.ser.later hb, h.tgs.later hb, h.kin.later hb, fun p hp => (h.key p hp).same (hb.block _ (h.key p hp).lt), fun p hp q hq => (h.val p hp q hq).same (hb.block _ (h.val p hp q hq).lt), fun p hp => (h.rows p hp).later hb⟩
theorem MeasAt.view {w : World} {ρ : Nat → Option Role} {nm : BA} {b : Nat} {μ : Me} (h : MeasAt w ρ nm b μ) : View w b (some μ.sm) (some μ.tm) (some μ.km) μ :=
  ⟨h.blk, h.ser, h.tgs, h.kin, fun p hp => (h.key p hp).2, fun p hp q hq => (h.val p hp q hq).2, fun p hp => (h.rows p hp).1⟩
theorem view0 (w : World) : View (w.alloc (.cells #[.map none, .map none, .map none] 72)) w.heap.size none none none me0 :=
  ⟨heap_alloc_new w _, rfl, rfl, rfl, (fun _ h => nomatch h), (fun _ h => nomatch h), (fun _ h => nomatch h)⟩
/-- What is known of a name, or nothing. -/
def meOf (L : List (BA × Nat)) (M : BA → Me) (nm : BA) : Me := match get L nm with | some _ => M nm | none => me0
def GotPost (w : World) (μ : Me) (e : Ending) (w' : World) : Prop := ∃ g a b c, e = .returned (.pointer (some ⟨g, 0, none⟩)) ∧ View w' g a b c μ ∧ Below w.heap.size w w'
theorem IdxAt.look {w : World} {ρ : Nat → Option Role} {x m : Nat} {L : List (BA × Nat)} {M : BA → Me} (h : IdxAt w ρ x m L M) (nm : BA) (hn : nm.size ≤ maxLen) : (Instr.lookup 60 (.map (some m)) (.string nm) false).run Try.prog w = .ok (getV ptrK L nm (.pointer none)) w :=
  h.out.look Try.underlying60 (zero65 w) (zd := .nil) rfl (fun _ _ => ptrE_nil) nm hn
set_option maxRecDepth 100000 in
theorem get32nil (nm : BA) (w : World) : Calls Try.prog 32 #[.pointer none, .string nm] w (GotPost w me0) := by
  go_enter Try.func32, Try.ntmps32
  go_wp2_with fail
  go_ret
  exact ⟨_, _, _, _, rfl, view0 w, (Below.refl _ _).alloc (Nat.le_refl _) _⟩
set_option maxRecDepth 100000 in
theorem get32 {w : World} {ρ : Nat → Option Role} {x m : Nat} {L : List (BA × Nat)} {M : BA → Me} (h : IdxAt w ρ x m L M) (nm : BA) (hn : nm.size ≤ maxLen) : Calls Try.prog 32 #[.pointer (some ⟨x, 0, none⟩), .string nm] w (GotPost w (meOf L M nm)) := by
  have hb := h.blk
  have c0 : w.cell? ⟨x, 0, none⟩ = some (.map (some m)) := by simp [World.cell?, hb]
  have hl := h.look nm hn
  unfold getV at hl
  cases hg : get L nm with
  | none =>
    have HM := Lib.hid (show meOf L M nm = me0 by unfold meOf; rw [hg])
    rw [hg] at hl
    simp only at hl
    clear hb hg h
    go_enter Try.func32, Try.ntmps32
    go_wp2_with fail
    go_ret
    rw [HM.out]
    exact ⟨_, _, _, _, rfl, view0 w, (Below.refl _ _).alloc (Nat.le_refl _) _⟩
  | some b =>
    have HM := Lib.hid (show meOf L M nm = M nm by unfold meOf; rw [hg])
    have HV := Lib.hid (h.meas _ (get_some hg)).view
    rw [hg] at hl
    have hl' : (Instr.lookup 60 (.map (some m)) (.string nm) false).run Try.prog w = .ok (.pointer (some ⟨b, 0, none⟩)) w := hl
    clear hb hg h hl
    go_enter Try.func32, Try.ntmps32
    go_wp2_with fail
    go_ret
    rw [HM.out]
    exact ⟨_, _, _, _, rfl, HV.out, Below.refl _ _⟩
end Go.Proofs.Ytobcpafalfdpkaa
