/- The walk of Aggregate at integers, by the other names. Condition: how many there are. -/
import Derived.Test.YtcpnmpemgkbanaaGreatDoorU
import Derived.Test.YtcpnmpemgkbanaaGreatDoorS
namespace Go.Proofs.YtcpnmpemgkbanaaGreatDoor
open Go.RowKit Go.Sort
theorem fI0 : fI 0 = 0 := by decide
theorem sum_bd (l : List Int) (h : ∀ v ∈ l, v.natAbs ≤ 32768) (hl : l.length ≤ 1048576) : l.sum.natAbs ≤ 34359738368 := by
  have key : ∀ l : List Int, (∀ v ∈ l, v.natAbs ≤ 32768) → l.sum.natAbs ≤ 32768 * l.length := by
    intro l
    induction l with
    | nil => intro _; simp
    | cons x r ih =>
      intro h
      have h1 := ih fun v hv => h v (List.mem_cons_of_mem _ hv)
      have h2 := h x (List.mem_cons_self ..)
      rw [List.sum_cons, List.length_cons]
      omega
  have := key l h
  omega
theorem fsum_go : ∀ (l : List Int) (a : Int), (∀ v ∈ l, v.natAbs ≤ 32768) → a.natAbs + 32768 * l.length < 2 ^ 53 → l.foldl (fun a v => fadd a (floatOfInt .f64 v)) (fI a) = fI (a + l.sum)
  | [], a, _, _ => by simp
  | x :: r, a, h, hb => by
    have hx := h x (List.mem_cons_self ..)
    rw [List.length_cons] at hb
    rw [List.foldl_cons, fI_is, fadd_int a x (by omega) (by omega) (by omega), fsum_go r (a + x) (fun v hv => h v (List.mem_cons_of_mem _ hv)) (by omega), List.sum_cons, Int.add_assoc]
theorem fsum_int (l : List Int) (h : ∀ v ∈ l, v.natAbs ≤ 32768) (hl : l.length ≤ 1048576) : fsum l = fI l.sum := by
  have := fsum_go l 0 h (by simp; omega)
  rw [fI0, Int.zero_add] at this
  exact this
theorem fdiv_int (a : Int) (n : Nat) (ha : a.natAbs < 2 ^ 53) (hn : 1 ≤ n) (hn2 : n < 2 ^ 53) : Ieee.double.div (fI a) (fI n) = some (fdiv (fI a) (fI n)) ∧ isNum (Ieee.double.read (fdiv (fI a) (fI n))) ∧ fdiv (fI a) (fI n) < 2 ^ 64 := by
  have hna : (n : Int).natAbs = n := by simp
  have e2 : Ieee.double.read (fI n) = .number (decide ((n : Int) < 0)) (n * 2 ^ (52 - n.log2)) ((n.log2 : Int) - 52) := by
    unfold fI
    rw [hna]
    exact read_int _ n (by omega) hn2
  have hb := norm_bd n (by omega) hn2
  by_cases h0 : a = 0
  · subst h0
    exact fdiv_num _ _ _ _ _ _ _ _ read_zero e2 (by omega) (by decide) (by decide) (by omega)
  · have h1 : a.natAbs ≠ 0 := by omega
    have hL : a.natAbs.log2 < 53 := (Nat.log2_lt h1).2 ha
    exact fdiv_num _ _ _ _ _ _ _ _ (read_int _ _ h1 ha) e2 (by omega) (norm_bd _ h1 ha).2 (by omega) (by omega)
set_option maxRecDepth 100000 in
set_option maxHeartbeats 2000000 in
theorem agg_MEAN_nil (W : World) (A : Option Addr) (n c : Nat) (zs : List Int) (hz : zs.length = n) (hin : ∀ v ∈ zs, inI v) (hn : n < 4611686018427387904) (hn1 : n = 0) (hv : Vals W A n zs) (htab : Lib.TabIs Tryz.prog W "strings.asciiSpace" .u8 Lib.asciiSpaceTab) :
    Calls Tryz.prog 9 #[.string ⟨#[77, 69, 65, 78]⟩, .slice A n c] W (AggPost W 0 0 false) := by
  have hn2 : n ≤ 0 := by omega
  clear hn1
  have HTAB := Lib.hid (Lib.tabIs_alloc (Lib.tabIs_alloc htab (.cells z3 27)) (.cells z3 27))
  have HV := Lib.hid hv
  have HZ := Lib.hid hz
  have HIN := Lib.hid hin
  clear htab hv hz hin
  unfold z3 at HTAB
  go_enter Tryz.func9, Tryz.ntmps9
  go_wp2_with fail
  refine (fields_call _ HTAB.out).mono ?_
  rintro e w1 ⟨rfl, rfl⟩
  have HA1 := Lib.hid (show Ag W (((W.alloc (.cells #[.int .i64 0, .int .u64 0, .string ⟨#[]⟩] 27)).alloc (.cells #[.int .i64 0, .int .u64 0, .string ⟨#[]⟩] 27)).alloc (.cells nmsC 9)) from by
    have h0 : Below W.heap.size W (W.alloc (.cells z3 27)) := (Below.refl _ _).alloc (Nat.le_refl _) _
    have h1 : Ag W ((W.alloc (.cells z3 27)).alloc (.cells z3 27)) := ⟨h0.alloc (by simp) _, (Below.heap_alloc _ _ _ (by simp)).trans (heap_alloc_new W _), by have := heap_alloc_new (W.alloc (.cells z3 27)) (.cells z3 27); simpa using this⟩
    exact h1.later ((Below.refl _ _).alloc (Nat.le_refl _) _))
  go_wp2_with fail
  refine wp_gen (fun wr => Ag W wr ∧ wr.heap[W.heap.size + 1 + 1]? = some (.cells nmsC 9 (0, 0))) ⟨HA1.out, ?_⟩ ?_
  · have := heap_alloc_new ((W.alloc (.cells z3 27)).alloc (.cells z3 27)) (.cells nmsC 9)
    have e : ((W.alloc (.cells z3 27)).alloc (.cells z3 27)).heap.size = W.heap.size + 1 + 1 := by simp
    rw [e] at this
    exact this
  clear HTAB HA1
  rintro w1 ⟨hA, hC⟩
  have HA := Lib.hid hA
  unfold nmsC at hC
  have n0 : w1.cell? ⟨W.heap.size + 1 + 1, 0, none⟩ = some (.string ⟨#[67, 79, 85, 78, 84]⟩) := by simp [World.cell?, hC]
  have n1 : w1.cell? ⟨W.heap.size + 1 + 1, 1, none⟩ = some (.string ⟨#[83, 85, 77]⟩) := by simp [World.cell?, hC]
  have n2 : w1.cell? ⟨W.heap.size + 1 + 1, 2, none⟩ = some (.string ⟨#[77, 69, 65, 78]⟩) := by simp [World.cell?, hC]
  have n3 : w1.cell? ⟨W.heap.size + 1 + 1, 3, none⟩ = some (.string ⟨#[77, 73, 78]⟩) := by simp [World.cell?, hC]
  have n4 : w1.cell? ⟨W.heap.size + 1 + 1, 4, none⟩ = some (.string ⟨#[77, 65, 88]⟩) := by simp [World.cell?, hC]
  have n5 : w1.cell? ⟨W.heap.size + 1 + 1, 5, none⟩ = some (.string ⟨#[70, 73, 82, 83, 84]⟩) := by simp [World.cell?, hC]
  have n6 : w1.cell? ⟨W.heap.size + 1 + 1, 6, none⟩ = some (.string ⟨#[76, 65, 83, 84]⟩) := by simp [World.cell?, hC]
  have n7 : w1.cell? ⟨W.heap.size + 1 + 1, 7, none⟩ = some (.string ⟨#[87, 65, 86, 69]⟩) := by simp [World.cell?, hC]
  clear hA hC
  go_loop [8, 18] (fun kn i => ∃ k : Nat, k ≤ 8 ∧ i = .int .i64 k ∧ kn = .bool (decide (2 < k))) (fun _ i => 8 - (intOf i).toNat)
  case atStart => exact ⟨0, by omega, rfl, rfl⟩
  case round =>
    obtain ⟨k, hk, rfl, rfl⟩ := hrel
    have hcase : k = 0 ∨ k = 1 ∨ k = 2 ∨ k = 3 ∨ k = 4 ∨ k = 5 ∨ k = 6 ∨ k = 7 ∨ k = 8 := by omega
    rcases hcase with rfl | rfl | rfl | rfl | rfl | rfl | rfl | rfl | rfl
    · have hd : decide (2 < 0) = false := by decide
      rw [hd]
      clear hd
      go_wp2_with fail
      go_round
      case rel => exact ⟨1, by omega, by go_num, rfl⟩
      case measure => decide
    · have hd : decide (2 < 1) = false := by decide
      rw [hd]
      clear hd
      go_wp2_with fail
      go_round
      case rel => exact ⟨2, by omega, by go_num, rfl⟩
      case measure => decide
    · have hd : decide (2 < 2) = false := by decide
      rw [hd]
      clear hd
      go_wp2_with fail
      go_round
      case rel => exact ⟨3, by omega, by go_num, rfl⟩
      case measure => decide
    · have hd : decide (2 < 3) = true := by decide
      rw [hd]
      clear hd
      go_wp2_with fail
      go_round
      case rel => exact ⟨4, by omega, by go_num, rfl⟩
      case measure => decide
    · have hd : decide (2 < 4) = true := by decide
      rw [hd]
      clear hd
      go_wp2_with fail
      go_round
      case rel => exact ⟨5, by omega, by go_num, rfl⟩
      case measure => decide
    · have hd : decide (2 < 5) = true := by decide
      rw [hd]
      clear hd
      go_wp2_with fail
      go_round
      case rel => exact ⟨6, by omega, by go_num, rfl⟩
      case measure => decide
    · have hd : decide (2 < 6) = true := by decide
      rw [hd]
      clear hd
      go_wp2_with fail
      go_round
      case rel => exact ⟨7, by omega, by go_num, rfl⟩
      case measure => decide
    · have hd : decide (2 < 7) = true := by decide
      rw [hd]
      clear hd
      go_wp2_with fail
      go_round
      case rel => exact ⟨8, by omega, by go_num, rfl⟩
      case measure => decide
    -- the names are looked through
    have hd : decide (2 < 8) = true := by decide
    rw [hd]
    clear n0 n1 n2 n3 n4 n5 n6 n7 hd
    go_wp2_with fail
    go_loopw [8, 31] (fun kn i wr => InAg1 W n kn i wr) (fun _ i _ => n - (intOf i).toNat)
    case atStart => exact ⟨0, Nat.zero_le _, rfl, rfl, HA.out⟩
    case round =>
      obtain ⟨k, hk, rfl, rfl, hA⟩ := hrel
      have HA2 := Lib.hid hA
      clear hA
      by_cases hlt : k < n
      · exact absurd hlt (by omega)
      · have hkn : k = n := by omega
        obtain rfl : n = k := hkn.symm
        have hn0 : ((n : Int) == 0) = true := by simp; omega
        have hA := HA2.out
        have r0 : wr.cell? ⟨W.heap.size, 0, none⟩ = some (.int .i64 0) := by have := hA.res; simp [World.cell?, this, z3]
        have r1 : wr.cell? ⟨W.heap.size, 1, none⟩ = some (.int .u64 0) := by have := hA.res; simp [World.cell?, this, z3]
        have r2 : wr.cell? ⟨W.heap.size, 2, none⟩ = some (.string ⟨#[]⟩) := by have := hA.res; simp [World.cell?, this, z3]
        have rz : ∀ i, wr.frozen? ⟨W.heap.size, i, none⟩ = false := fun i => by have := hA.res; simp [World.frozen?, this]
        have q0 : wr.cell? ⟨W.heap.size + 1, 0, none⟩ = some (.int .i64 0) := by have := hA.non; simp [World.cell?, this, z3]
        have q1 : wr.cell? ⟨W.heap.size + 1, 1, none⟩ = some (.int .u64 0) := by have := hA.non; simp [World.cell?, this, z3]
        have q2 : wr.cell? ⟨W.heap.size + 1, 2, none⟩ = some (.string ⟨#[]⟩) := by have := hA.non; simp [World.cell?, this, z3]
        have hsz : W.heap.size < wr.heap.size := heap_lt hA.res
        clear hA
        go_wp2_with fail
        refine bodyPost_ret (results9 _ _ W.heap.size _ _ _ rfl (set3 HA2.out.res _ _ _)) rfl ⟨rfl, below_set3 HA2.out.below _ _ _⟩
set_option maxRecDepth 100000 in
set_option maxHeartbeats 2000000 in
theorem agg_MEAN (W : World) (A : Option Addr) (n c : Nat) (zs : List Int) (hz : zs.length = n) (hin : ∀ v ∈ zs, inI v) (hn : n < 4611686018427387904) (hn1 : 1 ≤ n) (hsm : ∀ v ∈ zs, v.natAbs ≤ 32768) (hn20 : n ≤ 1048576) (hv : Vals W A n zs) (htab : Lib.TabIs Tryz.prog W "strings.asciiSpace" .u8 Lib.asciiSpaceTab) :
    Calls Tryz.prog 9 #[.string ⟨#[77, 69, 65, 78]⟩, .slice A n c] W (AggPost W 1 (fdiv (fI zs.sum) (fI n) : Nat) true) := by
  have HTAB := Lib.hid (Lib.tabIs_alloc (Lib.tabIs_alloc htab (.cells z3 27)) (.cells z3 27))
  have HV := Lib.hid hv
  have HZ := Lib.hid hz
  have HIN := Lib.hid hin
  have HFS := Lib.hid (fsum_int zs hsm (by rw [hz]; exact hn20))
  have HDV := Lib.hid (fdiv_int zs.sum n (by have := sum_bd zs hsm (by rw [hz]; exact hn20); omega) (by omega) (by omega))
  clear htab hv hz hin hsm hn20
  unfold z3 at HTAB
  go_enter Tryz.func9, Tryz.ntmps9
  go_wp2_with fail
  refine (fields_call _ HTAB.out).mono ?_
  rintro e w1 ⟨rfl, rfl⟩
  have HA1 := Lib.hid (show Ag W (((W.alloc (.cells #[.int .i64 0, .int .u64 0, .string ⟨#[]⟩] 27)).alloc (.cells #[.int .i64 0, .int .u64 0, .string ⟨#[]⟩] 27)).alloc (.cells nmsC 9)) from by
    have h0 : Below W.heap.size W (W.alloc (.cells z3 27)) := (Below.refl _ _).alloc (Nat.le_refl _) _
    have h1 : Ag W ((W.alloc (.cells z3 27)).alloc (.cells z3 27)) := ⟨h0.alloc (by simp) _, (Below.heap_alloc _ _ _ (by simp)).trans (heap_alloc_new W _), by have := heap_alloc_new (W.alloc (.cells z3 27)) (.cells z3 27); simpa using this⟩
    exact h1.later ((Below.refl _ _).alloc (Nat.le_refl _) _))
  go_wp2_with fail
  refine wp_gen (fun wr => Ag W wr ∧ wr.heap[W.heap.size + 1 + 1]? = some (.cells nmsC 9 (0, 0))) ⟨HA1.out, ?_⟩ ?_
  · have := heap_alloc_new ((W.alloc (.cells z3 27)).alloc (.cells z3 27)) (.cells nmsC 9)
    have e : ((W.alloc (.cells z3 27)).alloc (.cells z3 27)).heap.size = W.heap.size + 1 + 1 := by simp
    rw [e] at this
    exact this
  clear HTAB HA1
  rintro w1 ⟨hA, hC⟩
  have HA := Lib.hid hA
  unfold nmsC at hC
  have n0 : w1.cell? ⟨W.heap.size + 1 + 1, 0, none⟩ = some (.string ⟨#[67, 79, 85, 78, 84]⟩) := by simp [World.cell?, hC]
  have n1 : w1.cell? ⟨W.heap.size + 1 + 1, 1, none⟩ = some (.string ⟨#[83, 85, 77]⟩) := by simp [World.cell?, hC]
  have n2 : w1.cell? ⟨W.heap.size + 1 + 1, 2, none⟩ = some (.string ⟨#[77, 69, 65, 78]⟩) := by simp [World.cell?, hC]
  have n3 : w1.cell? ⟨W.heap.size + 1 + 1, 3, none⟩ = some (.string ⟨#[77, 73, 78]⟩) := by simp [World.cell?, hC]
  have n4 : w1.cell? ⟨W.heap.size + 1 + 1, 4, none⟩ = some (.string ⟨#[77, 65, 88]⟩) := by simp [World.cell?, hC]
  have n5 : w1.cell? ⟨W.heap.size + 1 + 1, 5, none⟩ = some (.string ⟨#[70, 73, 82, 83, 84]⟩) := by simp [World.cell?, hC]
  have n6 : w1.cell? ⟨W.heap.size + 1 + 1, 6, none⟩ = some (.string ⟨#[76, 65, 83, 84]⟩) := by simp [World.cell?, hC]
  have n7 : w1.cell? ⟨W.heap.size + 1 + 1, 7, none⟩ = some (.string ⟨#[87, 65, 86, 69]⟩) := by simp [World.cell?, hC]
  clear hA hC
  go_loop [8, 18] (fun kn i => ∃ k : Nat, k ≤ 8 ∧ i = .int .i64 k ∧ kn = .bool (decide (2 < k))) (fun _ i => 8 - (intOf i).toNat)
  case atStart => exact ⟨0, by omega, rfl, rfl⟩
  case round =>
    obtain ⟨k, hk, rfl, rfl⟩ := hrel
    have hcase : k = 0 ∨ k = 1 ∨ k = 2 ∨ k = 3 ∨ k = 4 ∨ k = 5 ∨ k = 6 ∨ k = 7 ∨ k = 8 := by omega
    rcases hcase with rfl | rfl | rfl | rfl | rfl | rfl | rfl | rfl | rfl
    · have hd : decide (2 < 0) = false := by decide
      rw [hd]
      clear hd
      go_wp2_with fail
      go_round
      case rel => exact ⟨1, by omega, by go_num, rfl⟩
      case measure => decide
    · have hd : decide (2 < 1) = false := by decide
      rw [hd]
      clear hd
      go_wp2_with fail
      go_round
      case rel => exact ⟨2, by omega, by go_num, rfl⟩
      case measure => decide
    · have hd : decide (2 < 2) = false := by decide
      rw [hd]
      clear hd
      go_wp2_with fail
      go_round
      case rel => exact ⟨3, by omega, by go_num, rfl⟩
      case measure => decide
    · have hd : decide (2 < 3) = true := by decide
      rw [hd]
      clear hd
      go_wp2_with fail
      go_round
      case rel => exact ⟨4, by omega, by go_num, rfl⟩
      case measure => decide
    · have hd : decide (2 < 4) = true := by decide
      rw [hd]
      clear hd
      go_wp2_with fail
      go_round
      case rel => exact ⟨5, by omega, by go_num, rfl⟩
      case measure => decide
    · have hd : decide (2 < 5) = true := by decide
      rw [hd]
      clear hd
      go_wp2_with fail
      go_round
      case rel => exact ⟨6, by omega, by go_num, rfl⟩
      case measure => decide
    · have hd : decide (2 < 6) = true := by decide
      rw [hd]
      clear hd
      go_wp2_with fail
      go_round
      case rel => exact ⟨7, by omega, by go_num, rfl⟩
      case measure => decide
    · have hd : decide (2 < 7) = true := by decide
      rw [hd]
      clear hd
      go_wp2_with fail
      go_round
      case rel => exact ⟨8, by omega, by go_num, rfl⟩
      case measure => decide
    -- the names are looked through
    have hd : decide (2 < 8) = true := by decide
    rw [hd]
    clear n0 n1 n2 n3 n4 n5 n6 n7 hd
    go_wp2_with fail
    go_loopw [8, 31] (fun kn i wr => InAg1 W n kn i wr) (fun _ i _ => n - (intOf i).toNat)
    case atStart => exact ⟨0, Nat.zero_le _, rfl, rfl, HA.out⟩
    case round =>
      obtain ⟨k, hk, rfl, rfl, hA⟩ := hrel
      have HA2 := Lib.hid hA
      clear hA
      by_cases hlt : k < n
      · obtain ⟨b, off, v, rfl, hbw, hzk, hc0, hc1, hc2⟩ := HV.out k hlt
        obtain ⟨b', off', v0, hA0, hbw', hz0, hk0, hk1, hk2⟩ := HV.out 0 (by omega)
        cases hA0
        have HF := Lib.hid (fun w => (formed_int v w).mono fun e w' (h : e = _ ∧ _) => (⟨h.1, by rw [h.2]; exact (Below.refl _ _).alloc (Nat.le_refl _) _⟩ : e = _ ∧ Below w.heap.size w w'))
        obtain ⟨u, hu⟩ : ∃ u, uw v = u := ⟨_, rfl⟩
        unfold vInt at HF
        rw [hu] at HF hc1
        have hcell : ∀ o x, W.cell? ⟨b, o, none⟩ = some x → wr.cell? ⟨b, o, none⟩ = some x := fun o x h => (HA2.out.below.cell (p := ⟨b, o, none⟩) hbw).trans h
        have d0 := hcell _ _ hc0
        have d1 := hcell _ _ hc1
        have d2 := hcell _ _ hc2
        have d3 := hcell _ _ hk0
        rw [Nat.zero_mul, Nat.add_zero] at d3
        have hbr : b < wr.heap.size := Nat.lt_of_lt_of_le hbw HA2.out.below.size
        clear hc0 hc1 hc2 hk0 hk1 hk2 hz0 hbw hbw' hcell hu hzk
        obtain ⟨Wv, hWv⟩ : ∃ Wv, Wv = wr.alloc (.cells #[.int .i64 2, .int .u64 u, .string ⟨#[]⟩] 27) := ⟨_, rfl⟩
        have f0 := cell_regrown (show Wv.cell? ⟨wr.heap.size, 0, none⟩ = some (.int .i64 2) by rw [hWv]; simp)
        have f1 := cell_regrown (show Wv.cell? ⟨wr.heap.size, 1, none⟩ = some (.int .u64 u) by rw [hWv]; simp)
        have f2 := cell_regrown (show Wv.cell? ⟨wr.heap.size, 2, none⟩ = some (.string ⟨#[]⟩) by rw [hWv]; simp)
        have f3 := cell_regrown (show Wv.cell? ⟨b, off, none⟩ = some (.int .i64 2) by rw [hWv]; rw [World.cell?_alloc_lt wr _ _ hbr]; exact d3)
        have cF := fun d os => Calls.regrown_of (HF.out (grow (redrawn Wv d) os))
        have hlow : (0 : Int) < n := by omega
        have HW := Lib.hid hWv
        clear hWv
        go_wp2_with fail
        rw [← HW.out]
        refine wp_region_quiet_below (by kernel_rfl) (by kernel_rfl) ?_
        repeat (go_big_quiet_step ((first | with_reducible exact cF _ _)))
        refine wpQuiet_nil ?_
        intro w3 hw3
        have hb3 := below_of_regrown hw3
        have HA3 := Lib.hid ((HA2.out.later ((Below.refl _ _).alloc (Nat.le_refl _) _)).later (by rw [← HW.out]; exact hb3))
        clear hw3 hb3 f0 f1 f2 f3 cF d0 d1 d2 d3
        go_wp2_with fail
        go_roundw
        case rel => exact ⟨k + 1, by omega, by go_num, rfl, HA3.out⟩
        case measure => simp [intOf]; omega
      · have hkn : k = n := by omega
        obtain rfl : n = k := hkn.symm
        have hn0 : ((n : Int) == 0) = false := by simp; omega
        obtain ⟨b, off, v0, hA0, hbw, hz0, hk0, hk1, hk2⟩ := HV.out 0 hn1
        cases hA0
        have d3 : wr.cell? ⟨b, off + 0 * 3, none⟩ = some (.int .i64 2) := (HA2.out.below.cell (p := ⟨b, off + 0 * 3, none⟩) hbw).trans hk0
        rw [Nat.zero_mul, Nat.add_zero] at d3
        have hn0 : ((n : Int) == 0) = false := by simp; omega
        have hlow : (0 : Int) < n := by omega
        clear hk0 hk1 hk2 hz0
        go_wp2_with fail
        refine wp_gen (fun w2 => Ag W w2 ∧ w2.heap[wr.heap.size]? = some (.cells (stA 0 0 0 0 0 0 0 0 0) 53 (0, 0))) ⟨HA2.out.later ((Below.refl _ _).alloc (Nat.le_refl _) _), heap_alloc_new wr _⟩ ?_
        rintro w2 ⟨hA3, hS3⟩
        have HA3 := Lib.hid hA3
        have HS3 := Lib.hid hS3
        obtain ⟨s, hs⟩ : ∃ s, wr.heap.size = s := ⟨_, rfl⟩
        rw [hs] at HS3
        have hsn : W.heap.size + 1 < s := by have := heap_lt HA2.out.non; omega
        have HSS := Lib.hid hs
        clear hA3 hS3 d3
        have hw2 : w2.heap.size = w2.heap.size := rfl
        clear hw2
        rw [HSS.out]
        go_loopw [97] (fun i wq => InAg2 W n s zs i wq) (fun i _ => n - (intOf i).toNat)
        case atStart => exact ⟨0, _, Nat.zero_le _, rfl, HA3.out, HS3.out, stAt_nil⟩
        case round =>
          obtain ⟨j, cs, hj, rfl, hA, hS, hst⟩ := hrel
          have HA4 := Lib.hid hA
          have HS4 := Lib.hid hS
          have HST := Lib.hid hst
          clear hA hS hst HA2 HA3 HS3 HSS
          by_cases hlt2 : j < n
          · obtain ⟨b', off', v, hA0, hbw', hzk, hc0, hc1, hc2⟩ := HV.out j hlt2
            cases hA0
            have hv : inI v := HIN.out v (List.mem_of_getElem? hzk)
            have HTK := Lib.hid (take_snocI zs j v hzk)
            have HVI := Lib.hid hv
            obtain ⟨u, hu⟩ : ∃ u, uw v = u := ⟨_, rfl⟩
            rw [hu] at hc1
            have d0 : wr.cell? ⟨b, off + j * 3, none⟩ = some (.int .i64 2) := (HA4.out.below.cell (p := ⟨b, off + j * 3, none⟩) hbw).trans hc0
            have d1 : wr.cell? ⟨b, off + j * 3 + 1, none⟩ = some (.int .u64 u) := (HA4.out.below.cell (p := ⟨b, off + j * 3 + 1, none⟩) hbw).trans hc1
            have d2 : wr.cell? ⟨b, off + j * 3 + 2, none⟩ = some (.string ⟨#[]⟩) := (HA4.out.below.cell (p := ⟨b, off + j * 3 + 2, none⟩) hbw).trans hc2
            have HU := Lib.hid hu
            clear hc0 hc1 hc2 hzk hv hu
            go_wp2_with fail
            have HTA := take_any (wr.alloc (.cells #[.int .i64 2, .int .u64 u, .string ⟨#[]⟩] 27)) s (zs.take j) v cs (fun x hx => HIN.out x (List.mem_of_mem_take hx)) HVI.out (by rw [List.length_take]; omega) ((Below.heap_alloc _ _ s (heap_lt HS4.out)).trans HS4.out) HST.out
            unfold vInt at HTA
            rw [HU.out] at HTA
            refine HTA.mono ?_
            clear HTA
            rintro e w5 ⟨cs', hst', he, ht5, hs5⟩
            subst he
            have HA5 := Lib.hid ((HA4.out.later ((Below.refl _ _).alloc (Nat.le_refl _) _)).turned ht5 hsn)
            have HS5 := Lib.hid hs5
            have HST5 := Lib.hid hst'
            clear ht5 hs5 hst' d0 d1 d2
            go_wp2_with fail
            go_roundw
            case rel => exact ⟨j + 1, cs', by omega, by go_num, HA5.out, HS5.out, by rw [HTK.out]; exact HST5.out⟩
            case measure => simp [intOf]; omega
          · have hjn : j = n := by omega
            have HTT := Lib.hid (show zs.take j = zs by rw [hjn, List.take_of_length_le (by rw [HZ.out]; omega)])
            obtain ⟨re, im, _, _, _, hcs⟩ := HST.out
            rw [HTT.out] at hcs
            have hne : zs ≠ [] := by
              intro h0
              have := HZ.out
              rw [h0] at this
              simp at this
              omega
            rcases hcs with ⟨h0, _⟩ | ⟨_, hcs⟩
            · exact absurd h0 hne
            rw [HZ.out] at hcs
            have hS := HS4.out
            rw [hcs] at hS
            unfold stA at hS
            obtain ⟨fs, hfs⟩ : ∃ fs, fsum zs = fs := ⟨_, rfl⟩
            obtain ⟨ws, hws⟩ : ∃ ws, wsum zs = ws := ⟨_, rfl⟩
            obtain ⟨lo, hlo⟩ : ∃ lo, uw (lowL zs) = lo := ⟨_, rfl⟩
            obtain ⟨hi, hhi⟩ : ∃ hi, uw (highL zs) = hi := ⟨_, rfl⟩
            rw [hfs, hws, hlo, hhi] at hS
            have hfs2 : fs = fI zs.sum := by rw [← hfs]; exact HFS.out
            have hdv : ∀ w : World, (binOp .quo 35 (.float .f64 fs) (.float .f64 (floatOfInt .f64 (n : Int)))).run Tryz.prog w = .ok (.float .f64 (fdiv (fI zs.sum) (fI n))) w := fun w => run_float_arith w .quo 35 .f64 fs _ _ (by rw [hfs2]; exact HDV.out.1)
            have HFL := Lib.hid (fun w => float22 _ w HDV.out.2.1 HDV.out.2.2)
            unfold vFl at HFL
            obtain ⟨Q, hQ⟩ : ∃ Q, fdiv (fI zs.sum) (fI n) = Q := ⟨_, rfl⟩
            rw [hQ] at hdv HFL
            have HQ := Lib.hid hQ
            clear hfs2 hQ
            have s0 : wr.cell? ⟨s, 0, none⟩ = some (.int .i64 (n : Nat)) := by simp [World.cell?, hS]
            have s1 : wr.cell? ⟨s, 1, none⟩ = some (.float .f64 fs) := by simp [World.cell?, hS]
            have s2 : wr.cell? ⟨s, 2, none⟩ = some (.int .u64 ws) := by simp [World.cell?, hS]
            have s4 : wr.cell? ⟨s, 4, none⟩ = some (.int .i64 2) := by simp [World.cell?, hS]
            have s5 : wr.cell? ⟨s, 5, none⟩ = some (.int .u64 lo) := by simp [World.cell?, hS]
            have s6 : wr.cell? ⟨s, 6, none⟩ = some (.string ⟨#[]⟩) := by simp [World.cell?, hS]
            have s7 : wr.cell? ⟨s, 7, none⟩ = some (.int .i64 2) := by simp [World.cell?, hS]
            have s8 : wr.cell? ⟨s, 8, none⟩ = some (.int .u64 hi) := by simp [World.cell?, hS]
            have s9 : wr.cell? ⟨s, 9, none⟩ = some (.string ⟨#[]⟩) := by simp [World.cell?, hS]
            have d3 : wr.cell? ⟨b, off + 0 * 3, none⟩ = some (.int .i64 2) := by
              obtain ⟨b', off', v, hA0, hbw', hzk, hc0, hc1, hc2⟩ := HV.out 0 hn1
              cases hA0
              exact (HA4.out.below.cell (p := ⟨b, off + 0 * 3, none⟩) hbw).trans hc0
            rw [Nat.zero_mul, Nat.add_zero] at d3
            have r0 : wr.cell? ⟨W.heap.size, 0, none⟩ = some (.int .i64 0) := by have := HA4.out.res; simp [World.cell?, this, z3]
            have r1 : wr.cell? ⟨W.heap.size, 1, none⟩ = some (.int .u64 0) := by have := HA4.out.res; simp [World.cell?, this, z3]
            have r2 : wr.cell? ⟨W.heap.size, 2, none⟩ = some (.string ⟨#[]⟩) := by have := HA4.out.res; simp [World.cell?, this, z3]
            have rz : ∀ i, wr.frozen? ⟨W.heap.size, i, none⟩ = false := fun i => by have := HA4.out.res; simp [World.frozen?, this]
            clear hS hcs hfs hws hlo hhi hne hjn
            go_wp2_with fail
            refine (HFL.out _).mono ?_
            rintro e w9 ⟨rfl, hb9⟩
            have HA9 := Lib.hid (HA4.out.later hb9)
            clear r0 r1 r2 rz d3 s0 s1 s2 s4 s5 s6 s7 s8 s9 hb9
            have r0 : w9.cell? ⟨W.heap.size, 0, none⟩ = some (.int .i64 0) := by have := HA9.out.res; simp [World.cell?, this, z3]
            have r1 : w9.cell? ⟨W.heap.size, 1, none⟩ = some (.int .u64 0) := by have := HA9.out.res; simp [World.cell?, this, z3]
            have r2 : w9.cell? ⟨W.heap.size, 2, none⟩ = some (.string ⟨#[]⟩) := by have := HA9.out.res; simp [World.cell?, this, z3]
            have rz : ∀ i, w9.frozen? ⟨W.heap.size, i, none⟩ = false := fun i => by have := HA9.out.res; simp [World.frozen?, this]
            go_wp2_with fail
            refine bodyPost_ret (results9 _ _ W.heap.size _ _ _ rfl (set3 HA9.out.res _ _ _)) rfl ⟨by rw [HQ.out]; rfl, below_set3 HA9.out.below _ _ _⟩
end Go.Proofs.YtcpnmpemgkbanaaGreatDoor
