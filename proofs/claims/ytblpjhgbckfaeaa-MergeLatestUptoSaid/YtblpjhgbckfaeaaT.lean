/- Two rows of points, two lists of columns that say the same are found the same. No condition beside the bounds. -/
import Derived.Test.YtblpjhgbckfaeaaR
namespace Go.Proofs.Ytblpjhgbckfaeaa
open Go.RowKit Go.Sort
def InSame (w : World) (n : Nat) (i : Value) (wr : World) : Prop := ∃ k : Nat, k ≤ n ∧ i = .int .i64 k ∧ Below w.heap.size w wr
set_option maxRecDepth 100000 in
theorem samePoints (w : World) (u v : Value) (P : List (Int × PV)) (hu : PtsIn w u P) (hv : PtsIn w v P) (hn : P.length ≤ 1000000000000) :
    Calls Try.prog 18 #[u, v] w fun e w' => e = .returned (.bool true) ∧ Below w.heap.size w w' := by
  obtain ⟨a, c, rfl⟩ := pts_form hu
  obtain ⟨a', c', rfl⟩ := pts_form hv
  obtain ⟨n, hN⟩ : ∃ n, P.length = n := ⟨_, rfl⟩
  rw [hN] at hu hv hn ⊢
  have HU := Lib.hid hu
  have HV := Lib.hid hv
  have HN := Lib.hid hN
  clear hu hv hN
  go_enter Try.func18, Try.ntmps18
  go_wp2_with fail
  go_loopw [13] (fun i wr => InSame w n i wr) (fun i _ => n - (intOf i).toNat)
  case atStart => exact ⟨0, Nat.zero_le _, rfl, Below.refl _ _⟩
  case round =>
    obtain ⟨k, hkn, rfl, hb⟩ := hrel
    have HB := Lib.hid hb
    clear hb
    by_cases hlt : k < n
    · obtain ⟨p, hp⟩ : ∃ p, P[k]? = some p := ⟨_, List.getElem?_eq_getElem (by rw [HN.out]; exact hlt)⟩
      obtain ⟨_, b, o, rfl, q0, q1, q2, q3⟩ := pts_at HU.out HB.out hp
      obtain ⟨_, b', o', rfl, r0, r1, r2, r3⟩ := pts_at HV.out HB.out hp
      clear hp
      go_wp2_with fail
      go_quiet (fail)
      go_wp2_with fail
      go_roundw
      case rel => exact ⟨k + 1, by omega, by go_num, below_drewN HB.out _⟩
      case measure => simp [intOf]; omega
    · go_wp2_with fail
      go_ret
      exact ⟨rfl, HB.out⟩
set_option maxHeartbeats 4000000 in
set_option maxRecDepth 100000 in
theorem sameCols (w : World) (u v : Value) (A B : List CC) (hu : ColsIn w u A) (hv : ColsIn w v B) (hpc : A.map colOf = B.map colOf) (hn : A.length ≤ 1000000000000) (hl : ∀ y ∈ A, y.pts.length ≤ 1000000000000) :
    Calls Try.prog 9 #[u, v] w fun e w' => e = .returned (.bool true) ∧ Below w.heap.size w w' := by
  have hlen : B.length = A.length := by simpa using (congrArg List.length hpc).symm
  obtain ⟨a, c, rfl⟩ := cols_form hu
  obtain ⟨a', c', rfl⟩ := cols_form hv
  obtain ⟨n, hN⟩ : ∃ n, A.length = n := ⟨_, rfl⟩
  rw [hlen] at hv ⊢
  rw [hN] at hu hv hn hlen ⊢
  have HU := Lib.hid hu
  have HV := Lib.hid hv
  have HN := Lib.hid hN
  have HLEN := Lib.hid hlen
  have HL := Lib.hid hl
  have HPC := Lib.hid hpc
  clear hu hv hpc hl hN hlen
  go_enter Try.func9, Try.ntmps9
  go_wp2_with fail
  go_loopw [13] (fun i wr => InSame w n i wr) (fun i _ => n - (intOf i).toNat)
  case atStart => exact ⟨0, Nat.zero_le _, rfl, Below.refl _ _⟩
  case round =>
    obtain ⟨k, hkn, rfl, hb⟩ := hrel
    by_cases hlt : k < n
    · obtain ⟨x, hx⟩ : ∃ x, A[k]? = some x := ⟨_, List.getElem?_eq_getElem (by rw [HN.out]; exact hlt)⟩
      obtain ⟨y, hy⟩ : ∃ y, B[k]? = some y := ⟨_, List.getElem?_eq_getElem (by rw [HLEN.out]; exact hlt)⟩
      have hxy : colOf x = colOf y := by
        have h1 : (A.map colOf)[k]? = (B.map colOf)[k]? := by rw [HPC.out]
        rw [List.getElem?_map, List.getElem?_map, hx, hy] at h1
        exact Option.some.inj h1
      obtain ⟨_, _, hpx, g, o, rfl, hc⟩ := cols_at HU.out (Below.refl _ _) hx
      obtain ⟨_, _, hpy, g', o', rfl, hc'⟩ := cols_at HV.out (Below.refl _ _) hy
      have hlx := HL.out x (List.mem_of_getElem? hx)
      obtain ⟨se, fi, vx, P⟩ := x
      obtain ⟨se', fi', vy, P'⟩ := y
      simp only [colOf, Col.mk.injEq, Prod.mk.injEq] at hxy
      obtain ⟨⟨rfl, rfl⟩, rfl⟩ := hxy
      simp only at hc hc' hpx hpy hlx
      obtain ⟨xa, xc, rfl⟩ := pts_form hpx
      obtain ⟨ya, yc, rfl⟩ := pts_form hpy
      have HS := Lib.hid (fun w' (h : Below w.heap.size w w') => (⟨cell_later h hc.1, cell_later h hc.2.1, cell_later h hc.2.2, cell_later h hc'.1, cell_later h hc'.2.1, cell_later h hc'.2.2⟩ : w'.cell? ⟨g, o + k * 3, none⟩ = some (.string se) ∧ w'.cell? ⟨g, o + k * 3 + 1, none⟩ = some (.string fi) ∧ w'.cell? ⟨g, o + k * 3 + 2, none⟩ = some (.slice xa P.length xc) ∧ w'.cell? ⟨g', o' + k * 3, none⟩ = some (.string se) ∧ w'.cell? ⟨g', o' + k * 3 + 1, none⟩ = some (.string fi) ∧ w'.cell? ⟨g', o' + k * 3 + 2, none⟩ = some (.slice ya P.length yc)))
      obtain ⟨e1, e2, e3, e4, e5, e6⟩ := HS.out _ hb
      have HBW := Lib.hid hb
      have HBD := Lib.hid (hb.trans (((Below.refl _ wr).drew).mono hb.size))
      have HRX := Lib.hid (hpx.later HBD.out)
      have HRY := Lib.hid (hpy.later HBD.out)
      have HLX := Lib.hid hlx
      clear hx hy hc hc' hpx hpy hlx hb
      go_wp2_with fail
      go_region_held3 (fun w' => w'.cell? ⟨g, o + k * 3, none⟩ = some (.string se) ∧ w'.cell? ⟨g, o + k * 3 + 1, none⟩ = some (.string fi) ∧ w'.cell? ⟨g, o + k * 3 + 2, none⟩ = some (.slice xa P.length xc) ∧ w'.cell? ⟨g', o' + k * 3, none⟩ = some (.string se) ∧ w'.cell? ⟨g', o' + k * 3 + 1, none⟩ = some (.string fi) ∧ w'.cell? ⟨g', o' + k * 3 + 2, none⟩ = some (.slice ya P.length yc)) (first | exact HS.out _ HB2.out | exact HS.out _ HBD.out | go_keep)
        (first
          | (go_at_call 18; refine (samePoints _ _ _ P HRX.out HRY.out HLX.out).mono ?_; rintro e w2 ⟨rfl, hb2⟩; have HB2 := Lib.hid (HBD.out.trans (hb2.mono HBD.out.size)); clear hb2))
      clear e1 e2 e3 e4 e5 e6
      go_wp2_with fail
      go_roundw
      case rel => exact ⟨k + 1, by omega, by go_num, HB2.out⟩
      case measure => simp [intOf]; omega
    · have HBW := Lib.hid hb
      clear hb
      go_wp2_with fail
      go_ret
      exact ⟨rfl, HBW.out⟩
end Go.Proofs.Ytblpjhgbckfaeaa
