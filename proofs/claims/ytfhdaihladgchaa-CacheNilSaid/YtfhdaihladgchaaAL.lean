/- slices.SortedFunc at the cache's keys: a new row that holds them in order. Condition: fewer than 10^12 columns. -/
import Derived.Test.YtfhdaihladgchaaAK
import Derived.Shelf.SlSortCmp.NoneTotal
import Derived.Outline
namespace Go.Proofs.Ytfhdaihladgchaa
open Go.RowKit Go.Sort Go.Maps Go.Shelf
theorem nodup_len {α : Type} [DecidableEq α] : ∀ (a b : List α), a.Nodup → (∀ x ∈ a, x ∈ b) → a.length ≤ b.length
  | [], _, _, _ => Nat.zero_le _
  | x :: r, b, h, hs => by
    have hx := hs x (by simp)
    have h2 := nodup_len r (b.erase x) (List.nodup_cons.1 h).2 fun y hy => (List.mem_erase_of_ne (show y ≠ x from fun e => (List.nodup_cons.1 h).1 (e ▸ hy))).2 (hs y (by simp [hy]))
    rw [List.length_erase_of_mem hx] at h2
    have : 0 < b.length := List.length_pos_of_mem hx
    simp only [List.length_cons]
    omega
theorem KeysOf.len {L : List Col} {ks : List Ky} (h : KeysOf L ks) : ks.length ≤ L.length := by
  have := nodup_len ks (L.map fun c => (c.se, c.fi)) h.nodup fun x hx => by
    obtain ⟨c, hc, rfl⟩ := (h.mem x).1 hx
    exact List.mem_map_of_mem hc
  simpa using this
theorem sortNone (w : World) : Calls Try.prog 49 #[.slice none 0 0, .func (.func 33) #[] #[]] w fun e w' => e = .returned (.tuple #[]) ∧ w' = w := AnyF.slices_SortFunc_none Try.sortK none 0 _ w
set_option maxRecDepth 100000 in
theorem sortedKeys (w : World) (Bm b : Nat) (L : List Col) (hBm : Bm < w.heap.size) (hm : w.cell? ⟨Bm, 0, none⟩ = some (.map (some b))) (hown : w.ownsMap Try.prog 63 rowE b L.length (.map (L.map ent))) (hL : ∀ x ∈ L, x.se.size ≤ maxLen ∧ x.fi.size ≤ maxLen) (hmax : L.length ≤ 1000000000000) :
    Calls Try.prog 31 #[.func (.func 50) #[] #[.pointer (some ⟨Bm, 0, none⟩)], .func (.func 33) #[] #[]] w fun e w' => ∃ (v : Value) (ks : List Ky), e = .returned v ∧ KeysOf L ks ∧ SortedKs ks ∧ w'.ownsRow w.heap.size 63 2 v ks.length (ks.flatMap encP) ∧ Below w.heap.size w w' := by
  have hz : Maps.size (DataW.map (L.map ent) : DataW Unit) = L.length := by simp [Maps.size]
  have hcon := collectKeys w Bm b _ _ hBm hm hown (by rw [hz]; exact Nat.le_trans hmax (by decide)) (by rw [hz]; omega)
  clear hown hm hBm hz
  have HL := Lib.hid hL
  clear hL
  go_enter Try.func31, Try.ntmps31
  go_wp2_with fail
  refine hcon.mono ?_
  rintro e w1 ⟨v, ss, rfl, hA, hr, hb⟩
  obtain ⟨ks, hK, hc, hl⟩ := keysOf_all HL.out hA
  rw [hc, hl] at hr
  have HB := Lib.hid hb
  have HK := Lib.hid hK
  clear hcon hA hc hl hb hK
  have HR := Lib.hid hr
  rcases hr.2 with ⟨rfl, h0⟩ | ⟨g, cap, cur, rfl, h1, h2, h3, h4, h5, h6⟩
  · have H0 := Lib.hid h0
    clear hr h0
    go_wp2_with fail
    refine (sortNone _).mono ?_
    rintro e w2 ⟨rfl, rfl⟩
    go_wp2_with fail
    go_ret
    have hks : ks = [] := List.eq_nil_of_length_eq_zero H0.out
    exact ⟨_, ks, rfl, HK.out, by rw [hks]; exact List.Pairwise.nil, HR.out, HB.out⟩
  · have hs := sortKeys HK.out h1 h2 h3 h4 h5 h6 (by have := HK.out.len; omega)
    have H1 := Lib.hid h1
    clear hr h1 h2 h3 h4 h5 h6
    go_wp2_with fail
    refine hs.mono ?_
    rintro e w2 ⟨rfl, ts, hk2, hs2, hl2, hr2, hg2⟩
    have HK2 := Lib.hid hk2
    have HS2 := Lib.hid hs2
    have HL2 := Lib.hid hl2
    have HR2 := Lib.hid hr2
    have HG2 := Lib.hid hg2
    clear hs hk2 hs2 hl2 hr2 hg2
    go_wp2_with fail
    go_ret
    exact ⟨_, ts, rfl, HK2.out, HS2.out, by rw [HL2.out]; exact HR2.out, HB.out.grown HG2.out HB.out.size (fun j hj => by cases hj; exact H1.out)⟩
end Go.Proofs.Ytfhdaihladgchaa
