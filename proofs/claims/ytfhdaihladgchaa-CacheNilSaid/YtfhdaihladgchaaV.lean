/- The document's table: the place of a column. No condition. -/
import Derived.Test.YtfhdaihladgchaaU
namespace Go.Proofs.Ytfhdaihladgchaa
open Go.RowKit Go.WideMaps
/-- Does a column stand ahead of a key? -/
def atB (s f : ByteArray) (x : RC) : Bool := Op.bytesLess x.se.toList s.toList || (x.se.toList == s.toList && Op.bytesLess x.fi.toList f.toList)
def eqB (s f : ByteArray) (x : RC) : Bool := x.se.toList == s.toList && x.fi.toList == f.toList
def atI (R : List RC) (s f : ByteArray) : Nat := (R.takeWhile (atB s f)).length
def hereB (R : List RC) (s f : ByteArray) : Bool := match R[atI R s f]? with | some x => eqB s f x | none => false
theorem atI_next {R : List RC} {s f : ByteArray} {k : Nat} {x : RC} (hx : R[k]? = some x) (hlo : ∀ j, (hj : j < R.length) → j < k → atB s f R[j] = true) (h : atB s f x = true) : ∀ j, (hj : j < R.length) → j < k + 1 → atB s f R[j] = true := fun j hj h1 => by
  by_cases e : j = k
  · subst e
    rw [List.getElem?_eq_getElem hj] at hx
    rw [Option.some.inj hx]; exact h
  · exact hlo j hj (by omega)
theorem atI_stop {R : List RC} {s f : ByteArray} {k : Nat} {x : RC} (hx : R[k]? = some x) (hlo : ∀ j, (hj : j < R.length) → j < k → atB s f R[j] = true) (h : atB s f x = false) : atI R s f = k ∧ hereB R s f = eqB s f x := by
  obtain ⟨hk, he⟩ := List.getElem?_eq_some_iff.1 hx
  have h1 : atI R s f = k := takeWhile_len _ R k (by omega) hlo (fun _ => by rw [he]; exact h)
  exact ⟨h1, by unfold hereB; rw [h1, hx]⟩
theorem atI_end {R : List RC} {s f : ByteArray} (hlo : ∀ j, (hj : j < R.length) → j < R.length → atB s f R[j] = true) : atI R s f = R.length ∧ hereB R s f = false := by
  have h1 : atI R s f = R.length := takeWhile_len _ R _ (Nat.le_refl _) hlo (fun h => absurd h (Nat.lt_irrefl _))
  exact ⟨h1, by unfold hereB; rw [h1, List.getElem?_eq_none (Nat.le_refl _)]⟩
theorem ret_at {i j : Nat} {p q : Bool} (h : i = j ∧ q = p) : Ending.returned (.tuple #[.int .i64 (j : Int), .bool p]) = .returned (.tuple #[.int .i64 (i : Int), .bool q]) := by rw [h.1, h.2]
def InAt (w : World) (R : List RC) (s f : ByteArray) (n : Nat) (i : Value) (wr : World) : Prop := ∃ k : Nat, k ≤ n ∧ i = .int .i64 k ∧ (∀ j, (hj : j < R.length) → j < k → atB s f R[j] = true) ∧ Below w.heap.size w wr
set_option maxRecDepth 100000 in
theorem refAt (w : World) (T : Nat → Prop) (r : Nat) (R : List RC) (most : Int) (s f : ByteArray) (h : RefAt w T r R most) (hl : R.length ≤ 1000000000000) :
    Calls Try.prog 30 #[.pointer (some ⟨r, 0, none⟩), .string s, .string f] w fun e w' => e = .returned (.tuple #[.int .i64 (atI R s f), .bool (hereB R s f)]) ∧ Below w.heap.size w w' := by
  obtain ⟨v, h1, h2, _⟩ := h.blk
  have c0 : ∀ wr, Below w.heap.size w wr → wr.cell? ⟨r, 0, none⟩ = some v := fun wr hb => by simp [World.cell?, (hb.block r (heap_lt h1)).trans h1]
  obtain ⟨n, hN⟩ : ∃ n, R.length = n := ⟨_, rfl⟩
  rw [hN] at h2 hl
  obtain ⟨a, c, rfl⟩ := row55_form h2
  have HC := Lib.hid (row55_cells h2 hN)
  have HN := Lib.hid hN
  have HC0 := Lib.hid c0
  clear h h1 h2 hN c0
  go_enter Try.func30, Try.ntmps30
  go_wp2_with fail
  go_loopw [8] (fun i wr => InAt w R s f n i wr) (fun i _ => n - (intOf i).toNat)
  case atStart => exact ⟨0, Nat.zero_le _, rfl, fun j _ hj => by omega, Below.refl _ _⟩
  case round =>
    obtain ⟨k, hkn, rfl, hlo, hb⟩ := hrel
    have HLO := Lib.hid hlo
    have HB := Lib.hid hb
    have c0 := HC0.out _ hb
    clear hlo hb
    by_cases hlt : k < n
    · obtain ⟨x, hx⟩ : ∃ x, R[k]? = some x := ⟨_, List.getElem?_eq_getElem (by rw [HN.out]; exact hlt)⟩
      obtain ⟨g, rfl, hc⟩ := HC.out k x hx
      obtain ⟨q0, q1, q2⟩ := hc _ HB.out
      have HX := Lib.hid hx
      clear hc hx
      cases b1 : Op.bytesLess x.se.toList s.toList with
      | true =>
        go_wp2_with fail
        go_roundw
        case rel => exact ⟨k + 1, by omega, by go_num, atI_next HX.out HLO.out (by unfold atB; rw [b1]; rfl), HB.out⟩
        case measure => simp [intOf]; omega
      | false =>
        cases b2 : (x.se.toList == s.toList) with
        | true =>
          cases b3 : Op.bytesLess x.fi.toList f.toList with
          | true =>
            have B1 := Lib.hid b1
            have B2 := Lib.hid b2
            have B3 := Lib.hid b3
            go_wp2_with fail
            go_roundw
            case rel => exact ⟨k + 1, by omega, by go_num, atI_next HX.out HLO.out (by unfold atB; rw [B1.out, B2.out, B3.out]; rfl), HB.out⟩
            case measure => simp [intOf]; omega
          | false =>
            cases b4 : (x.fi.toList == f.toList) with
            | true =>
              have HS := Lib.hid (atI_stop HX.out HLO.out (by unfold atB; rw [b1, b2, b3]; rfl))
              have HE : Hid (eqB s f x = true) := Lib.hid (by unfold eqB; rw [b2, b4]; rfl)
              go_wp2_with fail
              go_quiet (fail)
              go_wp2_with fail
              go_ret2
              exact ⟨ret_at ⟨HS.out.1, by rw [HS.out.2, HE.out]⟩, below_drewN HB.out _⟩
            | false =>
              have HS := Lib.hid (atI_stop HX.out HLO.out (by unfold atB; rw [b1, b2, b3]; rfl))
              have HE : Hid (eqB s f x = false) := Lib.hid (by unfold eqB; rw [b4, Bool.and_false])
              go_wp2_with fail
              go_quiet (fail)
              go_wp2_with fail
              go_ret2
              exact ⟨ret_at ⟨HS.out.1, by rw [HS.out.2, HE.out]⟩, below_drewN HB.out _⟩
        | false =>
          have HS := Lib.hid (atI_stop HX.out HLO.out (by unfold atB; rw [b1, b2]; rfl))
          have HE : Hid (eqB s f x = false) := Lib.hid (by unfold eqB; rw [b2, Bool.false_and])
          go_wp2_with fail
          go_quiet (fail)
          go_wp2_with fail
          go_ret2
          exact ⟨ret_at ⟨HS.out.1, by rw [HS.out.2, HE.out]⟩, below_drewN HB.out _⟩
    · have hk : k = n := by omega
      have HS := Lib.hid (atI_end (s := s) (f := f) (R := R) (fun j hj _ => HLO.out j hj (by rw [HN.out] at hj; omega)))
      have hd : decide ((k : Int) < (n : Int)) = false := by simp; omega
      have HK := Lib.hid hk
      clear hk
      go_wp2_with fail
      go_quiet (fail)
      go_wp2_with fail
      go_ret2
      exact ⟨ret_at ⟨by rw [HS.out.1, HN.out, HK.out], HS.out.2⟩, below_drewN HB.out _⟩
end Go.Proofs.Ytfhdaihladgchaa
