/- The walk of SeriesTexts. Condition: the bulk that its row takes. -/
import Derived.Test.YthiniiemhifcoaaH
namespace Go.Proofs.Ythiniiemhifcoaa
open Go.RowKit Go.Sort Go.Deep Go.WideShapes Go.ChangeShapes Go.Joins
open Go.ChangeMaps (open_string)
theorem seriesTexts_walk (H : Type) (enc : TypeId × Value → H) (W : World) (base : Nat) (v0 v1 : Value) (d0 d1 : DataW H) (p0 p1 : List MemPlace) (h0 : DataW.Trod enc Try.prog W 0 (fun _ => true) true 24 v0 d0 p0) (o0 : Value.okWide Try.prog W .any base 24 v0) (h1 : DataW.Trod enc Try.prog W 0 (fun _ => true) true 9 v1 d1 p1) (o1 : Value.okWide Try.prog W .any base 9 v1) (hk : Rows.uptoSmall H [d0, d1] = true) :
    Calls Try.prog 3 #[v0, v1] W fun e w' => e = .returned (.bool true) ∧ Below W.heap.size W w' := by
  obtain ⟨na, a, n, cap, kf, vf, rfl, hna, hn, hta, hsa⟩ := series_open h0 o0
  obtain ⟨s, rfl, rfl, _, hs⟩ := open_string Try.underlying9 o1 h1
  have hs46 : s.size ≤ 70368744177664 := by
    have h2 : Rows.uptoBulkAll [d0, DataW.lit (H := H) (.string s.data.toList)] ≤ 1048576 := of_decide_eq_true hk
    simp only [Rows.uptoBulkAll, Rows.uptoBulk] at h2
    have h3 : s.data.toList.length = s.size := by simp
    omega
  have HTA := Lib.hid hta
  have HSA := Lib.hid hsa
  clear h0 o0 h1 o1 hta hsa hk
  go_enter Try.func3, Try.ntmps3
  go_wp2_with fail
  refine (awake _).mono ?_
  rintro e w1 ⟨rfl, hb⟩
  have k0 : w1.cell? ⟨W.heap.size, 0, none⟩ = some (.string na) := (hb.cell (by simp)).trans (by simp)
  have k1 : w1.cell? ⟨W.heap.size, 1, none⟩ = some (.slice a n cap) := (hb.cell (by simp)).trans (by simp)
  have hsz : W.heap.size < w1.heap.size := by have := hb.size; simp at this; omega
  have hb1 : Below W.heap.size W w1 := ((Below.refl _ _).alloc (Nat.le_refl _) _).trans (hb.mono (by simp))
  have HB1 := Lib.hid hb1
  clear hb hb1
  go_wp2_with fail
  refine (rtext na a n cap kf vf w1 hn hna HSA.out (by exact HTA.out.later HB1.out)).mono ?_
  rintro e w2 ⟨rfl, hb⟩
  have l0 : w2.cell? ⟨W.heap.size, 0, none⟩ = some (.string na) := (hb.cell hsz).trans k0
  have l1 : w2.cell? ⟨W.heap.size, 1, none⟩ = some (.slice a n cap) := (hb.cell hsz).trans k1
  have hsz2 : W.heap.size < w2.heap.size := Nat.lt_of_lt_of_le hsz hb.size
  have hb1 : Below W.heap.size W w2 := HB1.out.trans (hb.mono (by omega))
  have HB2 := Lib.hid hb1
  clear hb hb1 k0 k1 hsz
  go_wp2_with fail
  refine (text na a n cap kf vf w2 hn hna HSA.out (by exact HTA.out.later HB2.out)).mono ?_
  rintro e w3 ⟨rfl, hb⟩
  have k0 : w3.cell? ⟨W.heap.size, 0, none⟩ = some (.string na) := (hb.cell hsz2).trans l0
  have k1 : w3.cell? ⟨W.heap.size, 1, none⟩ = some (.slice a n cap) := (hb.cell hsz2).trans l1
  have hsz3 : W.heap.size < w3.heap.size := Nat.lt_of_lt_of_le hsz2 hb.size
  have hb1 : Below W.heap.size W w3 := HB2.out.trans (hb.mono (by omega))
  have HB3 := Lib.hid hb1
  clear hb hb1 l0 l1 hsz2
  generalize (textB na n kf vf).1 = T
  generalize (textB na n kf vf).2 = E
  have f0 := cell_regrown k0
  have f1 := cell_regrown k1
  clear k0 k1
  have hta3 : TagsAt w3 a n kf vf := HTA.out.later HB3.out
  have htr : ∀ d os, TagsAt (grow (redrawn w3 d) os) a n kf vf := fun d os => hta3.later (below_regrown w3 d os)
  have c1 := fun d os => Calls.regrown_of (formed na a n cap kf vf (grow (redrawn w3 d) os) hn hna HSA.out (htr d os))
  have c2 := fun d os => Calls.regrown_of (rformed na a n cap kf vf (grow (redrawn w3 d) os) hn hna HSA.out (htr d os))
  have c3 := fun d os => Calls.regrown_of (escape s (grow (redrawn w3 d) os) hs46)
  have c4 := fun d os => Calls.regrown_of (rescape s (grow (redrawn w3 d) os) hs46)
  generalize formedB na n kf vf = F at c1 c2
  obtain ⟨es, hes⟩ : ∃ es : ByteArray, es = ⟨(esc s.data.toList).toArray⟩ := ⟨_, rfl⟩
  rw [← hes] at c3 c4
  clear hes htr hta3
  go_wp2_with fail
  refine wp_region_quiet_below (by kernel_rfl) (by kernel_rfl) ?_
  repeat (go_big_quiet_step ((first | with_reducible exact c1 _ _ | with_reducible exact c2 _ _ | with_reducible exact c3 _ _ | with_reducible exact c4 _ _)))
  refine wpQuiet_nil ?_
  intro w4 hw4
  have hb4 := below_of_regrown hw4
  have HB4 := Lib.hid hb4
  clear hw4 hb4
  go_wp2
  go_ret
  exact ⟨rfl, HB3.out.trans (HB4.out.mono (by omega))⟩
end Go.Proofs.Ythiniiemhifcoaa
