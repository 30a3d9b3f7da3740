/- The walk of SeriesParses. Condition: the bulk that its row takes. -/
import Derived.Test.YthiniiemhifcoaaR
import Derived.Test.YthiniiemhifcoaaH
namespace Go.Proofs.Ythiniiemhifcoaa
open Go.RowKit Go.Sort Go.Deep Go.WideShapes Go.ChangeShapes Go.Joins
open Go.ChangeMaps (open_string)
set_option maxHeartbeats 1000000 in
theorem seriesParses_walk (H : Type) (enc : TypeId × Value → H) (W : World) (base : Nat) (v0 : Value) (d0 : DataW H) (p0 : List MemPlace) (h0 : DataW.Trod enc Try.prog W 0 (fun _ => true) true 9 v0 d0 p0) (o0 : Value.okWide Try.prog W .any base 9 v0) (hk : Rows.uptoSmall H [d0] = true) :
    Calls Try.prog 6 #[v0] W fun e w' => e = .returned (.bool true) ∧ Below W.heap.size W w' := by
  obtain ⟨t, rfl, rfl, _, hs⟩ := open_string Try.underlying9 o0 h0
  have ht : t.size ≤ 1048576 := by
    have h2 : Rows.uptoBulkAll [DataW.lit (H := H) (.string t.data.toList)] ≤ 1048576 := of_decide_eq_true hk
    simp only [Rows.uptoBulkAll, Rows.uptoBulk] at h2
    have h3 : t.data.toList.length = t.size := by simp
    omega
  clear h0 o0 hk
  have hle := rTags_le t.data.toList
  go_enter Try.func6, Try.ntmps6
  go_wp2_with fail
  refine (awake _).mono ?_
  rintro e w1 ⟨rfl, hb⟩
  have HB1 := Lib.hid hb
  clear hb
  go_wp2_with fail
  refine (parse18 t _ ht).mono ?_
  intro e w2 hp
  obtain ⟨a, cap, rfl, hta, hb⟩ := parsePost_cases hp
  have HTA := Lib.hid hta
  have HB2 := Lib.hid (HB1.out.trans (hb.mono HB1.out.size))
  have hsz2 := HB2.out.size
  clear hb hp hta
  go_wp2_with fail
  refine (parse19 t _ ht).mono ?_
  intro e w3 hp
  obtain ⟨b, cbp, rfl, htb, hb⟩ := parsePost_cases hp
  have hta3 : TagsAt w3 a (rTags (parse t.data.toList)).length (kOf (rTags (parse t.data.toList))) (vOf (rTags (parse t.data.toList))) := (HTA.out.later ((Below.refl _ _).alloc (Nat.le_refl _) _)).later hb
  have HTA3 := Lib.hid hta3
  have HTB3 := Lib.hid htb
  have k0 : w3.cell? ⟨w2.heap.size, 0, none⟩ = some (.string (rName (parse t.data.toList))) := (hb.cell (by simp)).trans (by simp)
  have k1 : w3.cell? ⟨w2.heap.size, 1, none⟩ = some (.slice a (rTags (parse t.data.toList)).length cap) := (hb.cell (by simp)).trans (by simp)
  have hsz3 : w2.heap.size < w3.heap.size := by have := hb.size; simp at this; omega
  have HB3 := Lib.hid ((HB2.out.alloc hsz2 _).trans (hb.mono (by simp; omega)))
  have HSA := Lib.hid (sameB_of (rfl : rName (parse t.data.toList) = rName (parse t.data.toList)) (rfl : (rTags (parse t.data.toList)).length = (rTags (parse t.data.toList)).length) (kf := kOf (rTags (parse t.data.toList))) (vf := vOf (rTags (parse t.data.toList))) (fun _ _ => ⟨rfl, rfl⟩))
  clear hb hp hta3 htb
  generalize rName (parse t.data.toList) = nm at *
  generalize rTags (parse t.data.toList) = L at *
  generalize rErr (parse t.data.toList) = E at *
  go_wp2_with fail
  refine (same nm nm b a L.length L.length cbp cap (kOf L) (vOf L) (kOf L) (vOf L) _ (by omega) (by exact HTB3.out.later ((Below.refl _ _).alloc (Nat.le_refl _) _)) (by exact HTA3.out.later ((Below.refl _ _).alloc (Nat.le_refl _) _))).mono ?_
  rw [HSA.out]
  rintro e w4 ⟨rfl, hb⟩
  have HB4 := Lib.hid ((HB3.out.alloc (by omega) _).trans (hb.mono (by simp; omega)))
  clear hb
  go_wp2_with fail
  go_ret
  exact ⟨rfl, HB4.out⟩
end Go.Proofs.Ythiniiemhifcoaa
