/- The program's first three calls of a law. No condition. -/
import Derived.Test.YtfhdaihladgchaaM
namespace Go.Proofs.Ytfhdaihladgchaa
open Go.RowKit Go.WideMaps
theorem formed2 (b : Int) : formedB 2 b ⟨#[]⟩ = true := by simp [formedB]
theorem putE_nil {size most : Int} {p : Pt} (h : formedB p.k p.b p.s = true) : putE [] size most p = if size ≥ most then 7 else 0 := by simp [putE, h, otherK, thereB, loI, hiI]
theorem putD_nil {size most : Int} {p : Pt} (h : formedB p.k p.b p.s = true) : putD [] size most p = if size ≥ most then 0 else 1 := by
  rw [putD, putE_nil h]
  split <;> simp [thereB, loI, hiI]
theorem putN_nil {size most : Int} {p : Pt} (h : formedB p.k p.b p.s = true) : putN [] size most p = if size ≥ most then [] else [p] := by
  rw [putN, putE_nil h]
  split <;> simp [putL, thereB, loI, hiI]
def awP : Pt := ⟨5, 2, 0, ⟨#[]⟩⟩
set_option maxRecDepth 100000 in
theorem awake (w : World) : Calls Try.prog 8 #[] w fun e w' => e = .returned (.bool true) ∧ Below w.heap.size w w' := by
  have HA1 := Lib.hid (putE_nil (size := 0) (most := 1) (p := awP) (formed2 0))
  have HA2 := Lib.hid (putE_nil (size := 1) (most := 1) (p := awP) (formed2 0))
  have HD1 := Lib.hid (putD_nil (size := 0) (most := 1) (p := awP) (formed2 0))
  have HD2 := Lib.hid (putD_nil (size := 1) (most := 1) (p := awP) (formed2 0))
  go_enter Try.func8, Try.ntmps8
  go_wp2_with fail
  refine (new 1 w).mono ?_
  rintro e w1 ⟨rfl, hc1, hb1, hs1⟩
  obtain ⟨c, hc⟩ : ∃ c, w.heap.size + 1 = c := ⟨_, rfl⟩
  obtain ⟨m, hm⟩ : ∃ m, w.heap.size = m := ⟨_, rfl⟩
  rw [hc] at hc1 ⊢
  rw [hm] at hc1
  have HC1 := Lib.hid hc1
  have HB1 := Lib.hid hb1
  have HM := Lib.hid hm
  have HC := Lib.hid hc
  have HS1 := Lib.hid hs1
  clear hc hc1 hb1 hs1 hm
  go_wp2_with fail
  have h2 := HC1.out.later ((Below.refl w1.heap.size w1).alloc (Nat.le_refl _) (.cells #[.int .i64 5, .int .i64 2, .int .u64 0, .string ⟨#[]⟩] 33))
  refine (putC10 _ _ c m [] 1 ⟨#[115]⟩ ⟨#[102]⟩ awP h2 (by decide) (by decide) (by decide) (by decide) (by decide)).mono ?_
  rintro e w2 ⟨L', rfl, ht, hc2, hlk, htot⟩
  have e1 : putE (ptsOf (look [] ⟨#[115]⟩ ⟨#[102]⟩)) ((total [] : Nat) : Int) 1 awP = 0 := HA1.out
  have e2 : total L' = 1 := by rw [htot]; exact congrArg (total [] + ·) HD1.out
  have e3 : ptsOf (look L' ⟨#[115]⟩ ⟨#[103]⟩) = [] := by rw [hlk, if_neg (by decide)]; rfl
  rw [e1]
  have HC2 := Lib.hid hc2
  have HT := Lib.hid (HB1.out.trans ((((Below.refl w1.heap.size w1).alloc (Nat.le_refl _) _).mono HB1.out.size).trans <| ht.below (B := w.heap.size) (by have := HB1.out.size; simp; omega) (fun x hx => by have := HM.out; have := HC.out; rcases hx with h | h <;> omega)))
  have HE2 := Lib.hid e2
  have HE3 := Lib.hid e3
  have hp2 : w2.heap[w1.heap.size]? = some (.cells #[.int .i64 5, .int .i64 2, .int .u64 0, .string ⟨#[]⟩] 33 (0, 0)) := by
    rw [ht.block _ (by simp) (fun hx => by have := HS1.out; have := HM.out; have := HC.out; rcases hx with h | h <;> omega)]
    exact heap_alloc_new w1 _
  have p0 : w2.cell? ⟨w1.heap.size, 0, none⟩ = some (.int .i64 5) := by simp [World.cell?, hp2]
  have p1 : w2.cell? ⟨w1.heap.size, 1, none⟩ = some (.int .i64 2) := by simp [World.cell?, hp2]
  have p2 : w2.cell? ⟨w1.heap.size, 2, none⟩ = some (.int .u64 0) := by simp [World.cell?, hp2]
  have p3 : w2.cell? ⟨w1.heap.size, 3, none⟩ = some (.string ⟨#[]⟩) := by simp [World.cell?, hp2]
  clear h2 ht hc2 hlk htot e1 e2 e3 hp2
  go_wp2_with fail
  refine (putC10 _ _ c m L' 1 ⟨#[115]⟩ ⟨#[103]⟩ awP HC2.out (by decide) (by decide) (by decide) (by decide) (by rw [HE2.out]; omega)).mono ?_
  rintro e w3 ⟨L'', rfl, ht, hc3, hlk, htot⟩
  rw [HE3.out, HE2.out] at htot ⊢
  have e1 : putE [] ((1 : Nat) : Int) 1 awP = 7 := HA2.out
  have e2 : total L'' = 1 := by rw [htot]; exact congrArg (1 + ·) HD2.out
  rw [e1]
  have HC3 := Lib.hid hc3
  have HT3 := Lib.hid (HT.out.trans (ht.below (B := w.heap.size) HT.out.size (fun x hx => by
    have := HM.out; have := HC.out; have := HB1.out.size
    rcases hx with (h | h) | h
    · omega
    · omega
    · have := h.1; simp at this; omega)))
  have HE4 := Lib.hid e2
  clear ht hc3 hlk htot e1 e2
  go_wp2_with fail
  refine (sizeC _ _ c m L'' _ _ HC3.out).mono ?_
  rw [HE4.out]
  rintro e w4 ⟨rfl, rfl⟩
  go_wp2_with fail
  go_ret
  exact ⟨rfl, HT3.out⟩
end Go.Proofs.Ytfhdaihladgchaa
