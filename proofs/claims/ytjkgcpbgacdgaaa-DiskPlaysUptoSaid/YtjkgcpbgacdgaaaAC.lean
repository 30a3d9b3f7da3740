/- The document's disk: a file is read. Condition: the files' number. -/
import Derived.Test.YtjkgcpbgacdgaaaAB
namespace Go.Proofs.Ytjkgcpbgacdgaaa
open Go.RowKit Go.Sort
theorem findI_lt {R : List RFile} {s : ByteArray} (h : ¬ findI R s < 0) : ∃ k x, findI R s = (k : Nat) ∧ k < R.length ∧ R[k]? = some x ∧ x.name = s := by
  unfold findI at h ⊢
  cases hf : R.findIdx? (fun e => decide (e.name = s)) with
  | none => rw [hf] at h; exact absurd (by decide) h
  | some k =>
    rw [List.findIdx?_eq_some_iff_getElem] at hf
    obtain ⟨hk, h1, _⟩ := hf
    exact ⟨k, R[k], rfl, hk, List.getElem?_eq_getElem hk, by simpa using h1⟩
def readR (R : List RFile) (down : Bool) (s : ByteArray) : List Value := if (thereI R down s).2 = 0 then ((R[(findI R s).toNat]?).map (·.bs)).getD [] else []
set_option maxRecDepth 100000 in
theorem refRead (w : World) (T : Nat → Prop) (r : Nat) (R : List RFile) (room fuse : Int) (down : Bool) (s : ByteArray) (h : RefAt w T r R room fuse down) (hn : R.length ≤ 1000000000000) :
    Calls Try.prog 58 #[.pointer (some ⟨r, 0, none⟩), .string s] w fun e w' => ∃ v, e = .returned (.tuple #[v, .int .i64 (thereI R down s).2]) ∧ Src w v (readR R down s) ∧ w = w' := by
  obtain ⟨fv, fz, hb, _, hrow, _⟩ := h.blk
  have hf : ∃ a cap, fv = .slice a R.length cap := by
    rcases hrow.2 with ⟨rfl, h0⟩ | ⟨g, cap, cur, rfl, _⟩
    · exact ⟨none, 0, by rw [h0]⟩
    · exact ⟨_, cap, rfl⟩
  obtain ⟨a, cap, rfl⟩ := hf
  have c0 : w.cell? ⟨r, 0, none⟩ = some (.slice a R.length cap) := by simp [World.cell?, hb]
  have HROW := Lib.hid hrow
  have HBY := Lib.hid h.bytes
  have HH := Lib.hid h
  clear h hb hrow
  go_enter Try.func58, Try.ntmps58
  go_wp2_with fail
  refine (refThere w T r R room fuse down s HH.out hn).mono ?_
  rintro e w1 ⟨rfl, rfl⟩
  by_cases hz : (thereI R down s).2 = 0
  · have hzb : ((thereI R down s).2 != 0) = false := by simp [hz]
    have HZ := Lib.hid hz
    have hneg : ¬ findI R s < 0 ∧ (thereI R down s).1 = findI R s := by
      unfold thereI at hz ⊢
      cases down with
      | true => simp at hz
      | false =>
        by_cases h1 : findI R s < 0
        · simp [h1] at hz
        · exact ⟨h1, by simp [h1]⟩
    obtain ⟨hneg, hth⟩ := hneg
    obtain ⟨k, x, hk, hkl, hx, hxn⟩ := findI_lt hneg
    have hr : readR R down s = x.bs := by simp [readR, hz, hk, hx]
    have HR := Lib.hid hr
    obtain ⟨hsr, _⟩ := HBY.out x (List.mem_of_getElem? hx)
    obtain ⟨a', c', hxv⟩ : ∃ a' c', x.v = .slice a' x.bs.length c' := by
      rcases hsr with ⟨h1, h2⟩ | ⟨ad, c, h1, _⟩
      · exact ⟨none, 0, by rw [h1, h2]; rfl⟩
      · exact ⟨_, c, h1⟩
    obtain ⟨g, cap', hv, hc⟩ : ∃ g cap', Value.slice a R.length cap = .slice (some ⟨g, 0, none⟩) R.length cap' ∧ w.cell? ⟨g, k * 3 + 1, none⟩ = some (.slice a' x.bs.length c') := by
      have hr := HROW.out
      rcases hr.2 with ⟨_, h0⟩ | ⟨g, cap', cur, hv, _⟩
      · omega
      · rw [hv] at hr
        refine ⟨g, cap', hv, ?_⟩
        rw [hr.cellAt (k * 3 + 1) (by omega), (refCells_at R k x hx).2.1, hxv]
    cases hv
    rw [hth, hk]
    rw [hxv] at hsr
    have HSR := Lib.hid hsr
    obtain ⟨n, hN⟩ : ∃ n, R.length = n := ⟨_, rfl⟩
    rw [hN] at c0 hkl
    rw [hz]
    clear hz hneg hth hk hx hxn hr hsr hxv hN hzb
    go_wp2_with fail
    go_ret2
    exact ⟨.slice a' x.bs.length c', by rw [HZ.out]; rfl, by rw [HR.out]; exact HSR.out, rfl⟩
  · have hzb : ((thereI R down s).2 != 0) = true := by simp [hz]
    have HZ := Lib.hid hz
    clear hz
    go_wp2_with fail
    go_ret2
    refine ⟨_, rfl, ?_, rfl⟩
    have hr : readR R down s = [] := by simp [readR, HZ.out]
    rw [hr]
    exact .inl ⟨rfl, rfl⟩
end Go.Proofs.Ytjkgcpbgacdgaaa
