/- The document's disk: a file is sought. No condition. -/
import Derived.Test.YtjkgcpbgacdgaaaX
namespace Go.Proofs.Ytjkgcpbgacdgaaa
open Go.RowKit Go.Sort
theorem refCells_len : ∀ R : List RFile, (refCells R).length = R.length * 3
  | [] => rfl
  | e :: r => by simp [refCells, refCells_len r]; omega
theorem refCells_at : ∀ (R : List RFile) (i : Nat) (e : RFile), R[i]? = some e → (refCells R)[i * 3]? = some (.string e.name) ∧ (refCells R)[i * 3 + 1]? = some e.v ∧ (refCells R)[i * 3 + 2]? = some (.int .i64 e.syn)
  | [], i, e, h => by simp at h
  | x :: r, 0, e, h => by
    simp at h
    subst h
    exact ⟨rfl, rfl, rfl⟩
  | x :: r, i + 1, e, h => by
    have := refCells_at r i e (by simpa using h)
    have e1 : (i + 1) * 3 = i * 3 + 3 := by omega
    rw [e1]
    exact this
/-- Where a file stands; -1 if nowhere. -/
def findI (R : List RFile) (s : ByteArray) : Int := match R.findIdx? (fun e => decide (e.name = s)) with | some i => i | none => -1
theorem findI_here {R : List RFile} {s : ByteArray} {k : Nat} (hk : k < R.length) (h : ∀ j, (hj : j < k) → R[j].name ≠ s) (hh : R[k].name = s) : findI R s = k := by
  have : R.findIdx? (fun e => decide (e.name = s)) = some k := by
    rw [List.findIdx?_eq_some_iff_getElem]
    exact ⟨hk, by simp [hh], fun j hj => by simp [h j hj]⟩
  simp [findI, this]
theorem findI_none {R : List RFile} {s : ByteArray} (h : ∀ j, (hj : j < R.length) → R[j].name ≠ s) : findI R s = -1 := by
  have : R.findIdx? (fun e => decide (e.name = s)) = none := by
    rw [List.findIdx?_eq_none_iff]
    intro x hx
    obtain ⟨j, hj, rfl⟩ := List.getElem_of_mem hx
    simp [h j hj]
  simp [findI, this]
set_option maxRecDepth 100000 in
theorem refFind (w : World) (T : Nat → Prop) (r : Nat) (R : List RFile) (room fuse : Int) (down : Bool) (s : ByteArray) (h : RefAt w T r R room fuse down) (hn : R.length ≤ 1000000000000) :
    Calls Try.prog 75 #[.pointer (some ⟨r, 0, none⟩), .string s] w fun e w' => e = .returned (.int .i64 (findI R s)) ∧ w = w' := by
  obtain ⟨fv, fz, hb, _, hrow, _⟩ := h.blk
  have hf : ∃ a cap, fv = .slice a R.length cap := by
    rcases hrow.2 with ⟨rfl, h0⟩ | ⟨g, cap, cur, rfl, _⟩
    · exact ⟨none, 0, by rw [h0]⟩
    · exact ⟨_, cap, rfl⟩
  obtain ⟨a, cap, rfl⟩ := hf
  have c0 : w.cell? ⟨r, 0, none⟩ = some (.slice a R.length cap) := by simp [World.cell?, hb]
  have HROW := Lib.hid hrow
  obtain ⟨n, hN⟩ : ∃ n, R.length = n := ⟨_, rfl⟩
  have HN := Lib.hid hN
  rw [hN] at c0 hn
  clear h hb hrow hN
  go_enter Try.func75, Try.ntmps75
  go_wp2_with fail
  go_loop [11] (fun i => ∃ k : Nat, k ≤ n ∧ i = .int .i64 k ∧ Hid (∀ j, (hj : j < k) → ∀ hj' : j < R.length, R[j].name ≠ s)) (fun i => n - (intOf i).toNat)
  case atStart => exact ⟨0, Nat.zero_le _, rfl, Lib.hid (fun j hj => by omega)⟩
  case round =>
    obtain ⟨k, hk, rfl, hall⟩ := hrel
    by_cases hlt : k < n
    · obtain ⟨x, hx⟩ : ∃ x, R[k]'(by rw [HN.out]; exact hlt) = x := ⟨_, rfl⟩
      have hx' : R[k]? = some x := by rw [List.getElem?_eq_getElem (by rw [HN.out]; exact hlt), hx]
      obtain ⟨g, cap', hv, hc⟩ : ∃ g cap', Value.slice a n cap = .slice (some ⟨g, 0, none⟩) n cap' ∧ w.cell? ⟨g, k * 3, none⟩ = some (.string x.name) := by
        have hr := HROW.out
        rw [HN.out] at hr
        rcases hr.2 with ⟨_, h0⟩ | ⟨g, cap', cur, hv, _⟩
        · omega
        · rw [hv] at hr
          refine ⟨g, cap', hv, ?_⟩
          rw [hr.cellAt (k * 3) (by omega)]
          exact (refCells_at R k x hx').1
      cases hv
      have HX := Lib.hid hx
      clear hx hx'
      by_cases heq : x.name = s
      · have hq : (x.name.toList == s.toList) = true := by rw [heq]; simp
        have HE := Lib.hid heq
        have HALL := Lib.hid hall
        clear heq hall
        go_wp2_with fail
        go_ret
        refine ⟨?_, rfl⟩
        have h1 : findI R s = k := findI_here (by rw [HN.out]; exact hlt) (fun j hj => HALL.out.out j hj (by rw [HN.out]; omega)) (by rw [HX.out]; exact HE.out)
        rw [h1]; rfl
      · have hq : (x.name.toList == s.toList) = false := by
          rw [ByteArray.toList_eq, ByteArray.toList_eq, beq_eq_false_iff_ne]
          intro h
          exact heq (ByteArray.ext (by simpa using h))
        have HE := Lib.hid heq
        have HALL := Lib.hid hall
        clear heq hall
        go_wp2_with fail
        refine ⟨⟨k + 1, by omega, by go_num, Lib.hid ?_⟩, by simp [intOf]; omega⟩
        intro j hj hj'
        by_cases hjk : j = k
        · subst hjk
          rw [HX.out]
          exact HE.out
        · exact HALL.out.out j (by omega) hj'
    · have hkn : k = n := by omega
      subst hkn
      have HALL := Lib.hid hall
      clear hall
      go_wp2_with fail
      go_ret
      refine ⟨?_, rfl⟩
      have h1 : findI R s = -1 := findI_none (fun j hj => HALL.out.out j (by rw [HN.out] at hj; exact hj) hj)
      rw [h1]; rfl
/-- Where a file stands, or why none. -/
def thereI (R : List RFile) (down : Bool) (s : ByteArray) : Int × Int := if down then (0, 8) else if findI R s < 0 then (0, 6) else (findI R s, 0)
set_option maxRecDepth 100000 in
theorem refThere (w : World) (T : Nat → Prop) (r : Nat) (R : List RFile) (room fuse : Int) (down : Bool) (s : ByteArray) (h : RefAt w T r R room fuse down) (hn : R.length ≤ 1000000000000) :
    Calls Try.prog 77 #[.pointer (some ⟨r, 0, none⟩), .string s] w fun e w' => e = .returned (.tuple #[.int .i64 (thereI R down s).1, .int .i64 (thereI R down s).2]) ∧ w = w' := by
  obtain ⟨fv, fz, hb, _⟩ := h.blk
  have c4 : w.cell? ⟨r, 4, none⟩ = some (.bool down) := by simp [World.cell?, hb]
  have HH := Lib.hid h
  clear h hb
  go_enter Try.func77, Try.ntmps77
  cases down with
  | true =>
    go_wp2_with fail
    go_ret2
    exact ⟨rfl, rfl⟩
  | false =>
    go_wp2_with fail
    refine (refFind w T r R room fuse false s HH.out hn).mono ?_
    rintro e w1 ⟨rfl, rfl⟩
    by_cases hneg : findI R s < 0
    · have h1 : thereI R false s = (0, 6) := by simp [thereI, hneg]
      have H1 := Lib.hid h1
      clear h1
      go_wp2_with fail
      go_ret2
      exact ⟨by rw [H1.out]; rfl, rfl⟩
    · have h1 : thereI R false s = (findI R s, 0) := by simp [thereI, hneg]
      have H1 := Lib.hid h1
      clear h1
      have hneg' : 0 ≤ findI R s := by omega
      go_wp2_with fail
      go_ret2
      exact ⟨by rw [H1.out]; rfl, rfl⟩
end Go.Proofs.Ytjkgcpbgacdgaaa
