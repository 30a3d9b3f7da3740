/- Two lists of columns that say the same are found the same. No condition beside the bounds. -/
import Derived.Test.YtfhdaihladgchaaAM
namespace Go.Proofs.Ytfhdaihladgchaa
open Go.RowKit Go.Sort Go.Maps
def InSameC (w : World) (n : Nat) (i : Value) (wr : World) : Prop := ∃ k : Nat, k ≤ n ∧ i = .int .i64 k ∧ Below w.heap.size w wr
set_option maxHeartbeats 4000000 in
set_option maxRecDepth 100000 in
theorem sameCols (w : World) (base base' : Nat) (u v : Value) (RA RB : List RC) (hu : w.ownsRow base 55 3 u RA.length (rcC RA)) (hv : w.ownsRow base' 55 3 v RB.length (rcC RB)) (hpc : RA.map pc = RB.map pc)
    (hA : ∀ y ∈ RA, w.ownsRow 0 33 4 y.v y.l.length (ptC y.l)) (hB : ∀ y ∈ RB, w.ownsRow 0 33 4 y.v y.l.length (ptC y.l)) (hn : RA.length ≤ 1000000000000) (hl : ∀ y ∈ RA, y.l.length ≤ 1000000000000) :
    Calls Try.prog 18 #[u, v] w fun e w' => e = .returned (.bool true) ∧ Below w.heap.size w w' := by
  have hlen : RB.length = RA.length := by simpa using (congrArg List.length hpc).symm
  obtain ⟨n, hN⟩ : ∃ n, RA.length = n := ⟨_, rfl⟩
  rw [hlen] at hv
  rw [hN] at hu hv hn hlen
  obtain ⟨a, c, rfl⟩ := row55_form hu
  obtain ⟨a', c', rfl⟩ := row55_form hv
  have HU := Lib.hid (row55_cells hu hN)
  have HV := Lib.hid (row55_cells hv hlen)
  have HN := Lib.hid hN
  have HLEN := Lib.hid hlen
  have HA := Lib.hid hA
  have HB := Lib.hid hB
  have HL := Lib.hid hl
  have HPC := Lib.hid hpc
  clear hu hv hpc hA hB hl hN hlen
  go_enter Try.func18, Try.ntmps18
  go_wp2_with fail
  go_loopw [13] (fun i wr => InSameC w n i wr) (fun i _ => n - (intOf i).toNat)
  case atStart => exact ⟨0, Nat.zero_le _, rfl, Below.refl _ _⟩
  case round =>
    obtain ⟨k, hkn, rfl, hb⟩ := hrel
    by_cases hlt : k < n
    · obtain ⟨x, hx⟩ : ∃ x, RA[k]? = some x := ⟨_, List.getElem?_eq_getElem (by rw [HN.out]; exact hlt)⟩
      obtain ⟨y, hy⟩ : ∃ y, RB[k]? = some y := ⟨_, List.getElem?_eq_getElem (by rw [HLEN.out]; exact hlt)⟩
      have hxy : pc x = pc y := by
        have h1 : (RA.map pc)[k]? = (RB.map pc)[k]? := by rw [HPC.out]
        rw [List.getElem?_map, List.getElem?_map, hx, hy] at h1
        exact Option.some.inj h1
      obtain ⟨g, rfl, hc⟩ := HU.out k x hx
      obtain ⟨g', rfl, hc'⟩ := HV.out k y hy
      have hrx := HA.out x (List.mem_of_getElem? hx)
      have hry := HB.out y (List.mem_of_getElem? hy)
      have hlx := HL.out x (List.mem_of_getElem? hx)
      obtain ⟨se, fi, vx, l⟩ := x
      obtain ⟨se', fi', vy, l'⟩ := y
      simp only [pc, Prod.mk.injEq] at hxy
      obtain ⟨rfl, rfl, rfl⟩ := hxy
      simp only at hc hc' hrx hry hlx
      obtain ⟨xa, xc, rfl⟩ := row_form hrx
      obtain ⟨ya, yc, rfl⟩ := row_form hry
      have HS := Lib.hid (fun w' (h : Below w.heap.size w w') => (⟨(hc w' h).1, (hc w' h).2.1, (hc w' h).2.2, (hc' w' h).1, (hc' w' h).2.1, (hc' w' h).2.2⟩ : w'.cell? ⟨g, k * 3, none⟩ = some (.string se) ∧ w'.cell? ⟨g, k * 3 + 1, none⟩ = some (.string fi) ∧ w'.cell? ⟨g, k * 3 + 2, none⟩ = some (.slice xa l.length xc) ∧ w'.cell? ⟨g', k * 3, none⟩ = some (.string se) ∧ w'.cell? ⟨g', k * 3 + 1, none⟩ = some (.string fi) ∧ w'.cell? ⟨g', k * 3 + 2, none⟩ = some (.slice ya l.length yc)))
      obtain ⟨e1, e2, e3, e4, e5, e6⟩ := HS.out _ hb
      have HBW := Lib.hid hb
      have HBD := Lib.hid (hb.trans (((Below.refl _ wr).drew).mono hb.size))
      have HRX := Lib.hid (row_later (row_later hrx hb) ((Below.refl _ wr).drew))
      have HRY := Lib.hid (row_later (row_later hry hb) ((Below.refl _ wr).drew))
      have HLX := Lib.hid hlx
      clear hx hy hc hc' hrx hry hlx hb
      go_wp2_with fail
      go_region_held3 (fun w' => w'.cell? ⟨g, k * 3, none⟩ = some (.string se) ∧ w'.cell? ⟨g, k * 3 + 1, none⟩ = some (.string fi) ∧ w'.cell? ⟨g, k * 3 + 2, none⟩ = some (.slice xa l.length xc) ∧ w'.cell? ⟨g', k * 3, none⟩ = some (.string se) ∧ w'.cell? ⟨g', k * 3 + 1, none⟩ = some (.string fi) ∧ w'.cell? ⟨g', k * 3 + 2, none⟩ = some (.slice ya l.length yc)) (first | exact HS.out _ HB2.out | exact HS.out _ HBD.out | go_keep)
        (first
          | (go_at_call 12; refine (samePoints _ _ _ _ _ l HRX.out HRY.out HLX.out).mono ?_; rintro e w2 ⟨rfl, hb2⟩; have HB2 := Lib.hid (HBD.out.trans (hb2.mono HBD.out.size)); clear hb2))
      clear e1 e2 e3 e4 e5 e6
      go_wp2_with fail
      go_roundw
      case rel => exact ⟨k + 1, by omega, by go_num, HB2.out⟩
      case measure => simp [intOf]; omega
    · have HBW := Lib.hid hb
      clear hb
      go_wp2_with fail
      go_ret
      exact ⟨rfl, HBW.out⟩
end Go.Proofs.Ytfhdaihladgchaa
