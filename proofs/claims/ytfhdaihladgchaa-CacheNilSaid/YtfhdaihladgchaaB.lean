/- Points in memory; two times are compared; the place of a time among points. Condition: the points rise. -/
import Derived.Test.YtfhdaihladgchaaA
import Derived.WalkLawsBesides
import Derived.WalkSpells
import Derived.BigQuiet
namespace Go.Proofs.Ytfhdaihladgchaa
open Go.RowKit
structure Pt where
  t : Int
  k : Int
  b : Int
  s : ByteArray
def ptV (p : Pt) : List Value := [.int .i64 p.t, .int .i64 p.k, .int .u64 p.b, .string p.s]
def ptC : List Pt → List Value
  | [] => []
  | p :: r => .int .i64 p.t :: .int .i64 p.k :: .int .u64 p.b :: .string p.s :: ptC r
theorem ptC_len : ∀ l : List Pt, (ptC l).length = l.length * 4
  | [] => rfl
  | p :: r => by simp [ptC, ptC_len r]; omega
theorem ptC_at : ∀ (l : List Pt) (i : Nat) (p : Pt), l[i]? = some p → (ptC l)[i * 4]? = some (.int .i64 p.t) ∧ (ptC l)[i * 4 + 1]? = some (.int .i64 p.k) ∧ (ptC l)[i * 4 + 2]? = some (.int .u64 p.b) ∧ (ptC l)[i * 4 + 3]? = some (.string p.s)
  | [], i, p, h => by simp at h
  | x :: r, 0, p, h => by
    simp at h
    subst h
    exact ⟨rfl, rfl, rfl, rfl⟩
  | x :: r, i + 1, p, h => by
    have := ptC_at r i p (by simpa using h)
    have e1 : (i + 1) * 4 = i * 4 + 4 := by omega
    rw [e1]
    exact this
theorem ptC_append : ∀ A B : List Pt, ptC (A ++ B) = ptC A ++ ptC B
  | [], _ => rfl
  | x :: r, B => by simp [ptC, ptC_append r B]
theorem ptC_take : ∀ (l : List Pt) (k : Nat), (ptC l).take (k * 4) = ptC (l.take k)
  | [], k => by simp [ptC]
  | x :: r, 0 => by simp [ptC]
  | x :: r, k + 1 => by
    have e1 : (k + 1) * 4 = k * 4 + 1 + 1 + 1 + 1 := by omega
    rw [e1]
    simp only [ptC, List.take_succ_cons, ptC_take r k]
theorem ptC_drop : ∀ (l : List Pt) (k : Nat), (ptC l).drop (k * 4) = ptC (l.drop k)
  | [], k => by simp [ptC]
  | x :: r, 0 => by simp [ptC]
  | x :: r, k + 1 => by
    have e1 : (k + 1) * 4 = k * 4 + 1 + 1 + 1 + 1 := by omega
    rw [e1]
    simp only [ptC, List.drop_succ_cons, ptC_drop r k]
theorem ptC_one : ∀ (l : List Pt), ∀ u ∈ ptC l, u.oneCell' = true
  | [], u, h => by simp [ptC] at h
  | x :: r, u, h => by
    simp only [ptC, List.mem_cons] at h
    rcases h with rfl | rfl | rfl | rfl | h
    · rfl
    · rfl
    · rfl
    · rfl
    · exact ptC_one r u h
def cmpI (a b : Int) : Int := if a < b then -1 else if b < a then 1 else 0
theorem compare (a b : Int) (w : World) : Calls Try.prog 42 #[.int .i64 a, .int .i64 b] w fun e w' => e = .returned (.int .i64 (cmpI a b)) ∧ w = w' := by
  by_cases h1 : a < b
  · go_enter Try.func42, Try.ntmps42
    go_wp2
    go_ret
    exact ⟨by simp [cmpI, h1], rfl⟩
  · by_cases h2 : b < a
    · go_enter Try.func42, Try.ntmps42
      go_wp2
      go_ret
      exact ⟨by simp [cmpI, h1, h2], rfl⟩
    · go_enter Try.func42, Try.ntmps42
      go_wp2
      go_ret
      exact ⟨by unfold cmpI; rw [if_neg (by omega), if_neg (by omega)]; rfl, rfl⟩
theorem cmpPt (p : Pt) (t : Int) (w : World) : Calls Try.prog 41 #[.agg #[.int .i64 p.t, .int .i64 p.k, .int .u64 p.b, .string p.s], .int .i64 t] w fun e w' => e = .returned (.int .i64 (cmpI p.t t)) ∧ Below w.heap.size w w' := by
  go_enter Try.func41, Try.ntmps41
  go_wp2_with fail
  refine (compare p.t t _).mono ?_
  rintro e w' ⟨rfl, rfl⟩
  go_wp2_with fail
  go_ret
  exact ⟨rfl, (Below.refl _ _).alloc (Nat.le_refl _) _⟩
/-- The place of a time. -/
def At (l : List Pt) (t : Int) (i : Nat) (f : Bool) : Prop := i ≤ l.length ∧ (∀ j, (hj : j < l.length) → j < i → l[j].t < t) ∧ (∀ j, (hj : j < l.length) → i ≤ j → t ≤ l[j].t) ∧ (f = true ↔ ∃ hi : i < l.length, l[i].t = t)
def Rises (l : List Pt) : Prop := l.Pairwise fun a b => a.t < b.t
def InBs (w : World) (l : List Pt) (t : Int) (i j : Value) (wr : World) : Prop :=
  ∃ a c : Nat, i = .int .i64 a ∧ j = .int .i64 c ∧ a ≤ c ∧ c ≤ l.length ∧ (∀ k, (hk : k < l.length) → k < a → l[k].t < t) ∧ (∀ k, (hk : k < l.length) → c ≤ k → t ≤ l[k].t) ∧ Below w.heap.size w wr
set_option maxRecDepth 100000 in
theorem search (w : World) (base : Nat) (v : Value) (l : List Pt) (t : Int) (hs : w.ownsRow base 33 4 v l.length (ptC l)) (hr : Rises l) (hn : l.length ≤ 1000000000000) :
    Calls Try.prog 40 #[v, .int .i64 t, .func (.func 41) #[] #[]] w fun e w' => ∃ (i : Nat) (f : Bool), e = .returned (.tuple #[.int .i64 i, .bool f]) ∧ At l t i f ∧ Below w.heap.size w w' := by
  obtain ⟨a, c, rfl⟩ : ∃ a c, v = .slice a l.length c := by
    rcases hs.2 with ⟨h1, h2⟩ | ⟨g, c, cur, h1, _⟩
    · exact ⟨none, 0, by rw [h1, h2]⟩
    · exact ⟨_, c, h1⟩
  have HCELL : Hid (∀ k p, l[k]? = some p → ∃ g, a = some ⟨g, 0, none⟩ ∧ ∀ wr, Below w.heap.size w wr → wr.cell? ⟨g, k * 4, none⟩ = some (.int .i64 p.t) ∧ wr.cell? ⟨g, k * 4 + 1, none⟩ = some (.int .i64 p.k) ∧ wr.cell? ⟨g, k * 4 + 2, none⟩ = some (.int .u64 p.b) ∧ wr.cell? ⟨g, k * 4 + 3, none⟩ = some (.string p.s)) := Lib.hid (fun k p hp => by
    have hk : k < l.length := (List.getElem?_eq_some_iff.1 hp).1
    rcases hs.2 with ⟨_, h0⟩ | ⟨g, c', cur, hv, _⟩
    · omega
    · injection hv with e1 e2 e3
      subst e1
      refine ⟨g, rfl, fun wr hb => ?_⟩
      obtain ⟨q0, q1, q2, q3⟩ := ptC_at l k p hp
      have hg := (hs.lt g rfl).2
      refine ⟨?_, ?_, ?_, ?_⟩
      · rw [hb.cell (p := ⟨g, k * 4, none⟩) hg, hs.cellAt (k * 4) (by omega), q0]
      · rw [hb.cell (p := ⟨g, k * 4 + 1, none⟩) hg, hs.cellAt (k * 4 + 1) (by omega), q1]
      · rw [hb.cell (p := ⟨g, k * 4 + 2, none⟩) hg, hs.cellAt (k * 4 + 2) (by omega), q2]
      · rw [hb.cell (p := ⟨g, k * 4 + 3, none⟩) hg, hs.cellAt (k * 4 + 3) (by omega), q3])
  have HR := Lib.hid hr
  obtain ⟨n, hN⟩ : ∃ n, l.length = n := ⟨_, rfl⟩
  have HN := Lib.hid hN
  rw [hN] at hn ⊢
  clear hs hr hN
  go_enter Try.func40, Try.ntmps40
  go_wp2_with fail
  go_loopw [9, 10] (fun i j wr => InBs w l t i j wr) (fun i j _ => (intOf j - intOf i).toNat)
  case atStart => exact ⟨0, n, rfl, rfl, Nat.zero_le _, by rw [HN.out]; exact Nat.le_refl _, fun k hk h => by omega, fun k hk h => by have := HN.out; omega, Below.refl _ _⟩
  case round =>
    obtain ⟨x, y, rfl, rfl, hxy, hyn, hlo, hhi, hb⟩ := hrel
    rw [HN.out] at hyn
    have HLO := Lib.hid hlo
    have HHI := Lib.hid hhi
    have HB := Lib.hid hb
    clear hlo hhi hb
    by_cases hlt : x < y
    · obtain ⟨p, hp⟩ : ∃ p, l[(x + y) / 2]? = some p := ⟨_, List.getElem?_eq_getElem (by rw [HN.out]; omega)⟩
      obtain ⟨g, rfl, hc⟩ := HCELL.out _ p hp
      obtain ⟨c0, c1, c2, c3⟩ := hc _ HB.out
      have HP := Lib.hid hp
      clear hp hc
      go_wp2_with fail
      refine (cmpPt p t wr).mono ?_
      rintro e w2 ⟨rfl, hb2⟩
      have HB2 := Lib.hid (HB.out.trans (hb2.mono HB.out.size))
      clear hb2 c0 c1 c2 c3
      have hpe : ∀ k, (hk : k < l.length) → k = (x + y) / 2 → l[k] = p := fun k hk he => by
        subst he
        have := HP.out
        rw [List.getElem?_eq_getElem hk] at this
        exact Option.some.inj this
      have HPE := Lib.hid hpe
      clear hpe
      by_cases hq : p.t < t
      · have hci : cmpI p.t t = -1 := by simp [cmpI, hq]
        rw [hci]
        have HQ := Lib.hid hq
        clear hci hq
        go_wp2_with fail
        go_roundw
        case rel =>
          refine ⟨(x + y) / 2 + 1, y, by go_num, rfl, by omega, by rw [HN.out]; omega, fun k hk h => ?_, HHI.out, HB2.out⟩
          by_cases hkh : k = (x + y) / 2
          · rw [HPE.out k hk hkh]; exact HQ.out
          · have h2 : (x + y) / 2 < l.length := by rw [HN.out]; omega
            have h3 := (List.pairwise_iff_getElem.1 HR.out) k ((x + y) / 2) hk h2 (by omega)
            have h4 := HPE.out _ h2 rfl
            have h5 := HQ.out
            rw [h4] at h3
            omega
        case measure => simp [intOf]; omega
      · have hci : ¬ cmpI p.t t < 0 := by unfold cmpI; rw [if_neg hq]; split <;> omega
        have HQ := Lib.hid hq
        obtain ⟨z, hz⟩ : ∃ z, cmpI p.t t = z := ⟨_, rfl⟩
        rw [hz] at hci ⊢
        clear hz hq
        go_wp2_with fail
        go_roundw
        case rel =>
          refine ⟨x, (x + y) / 2, rfl, by go_num, by omega, by rw [HN.out]; omega, HLO.out, fun k hk h => ?_, HB2.out⟩
          by_cases hkh : k = (x + y) / 2
          · rw [HPE.out k hk hkh]; have := HQ.out; omega
          · have h2 : (x + y) / 2 < l.length := by omega
            have h3 := (List.pairwise_iff_getElem.1 HR.out) ((x + y) / 2) k h2 hk (by omega)
            have h4 := HPE.out _ h2 rfl
            have h5 := HQ.out
            rw [h4] at h3
            omega
        case measure => simp [intOf]; omega
    · have hxe : x = y := by omega
      subst hxe
      by_cases hxn : x < n
      · obtain ⟨p, hp⟩ : ∃ p, l[x]? = some p := ⟨_, List.getElem?_eq_getElem (by rw [HN.out]; omega)⟩
        obtain ⟨g, rfl, hc⟩ := HCELL.out _ p hp
        obtain ⟨c0, c1, c2, c3⟩ := hc _ HB.out
        have hd : decide ((x : Int) < (n : Int)) = true := by simp; omega
        have hpx : ∀ hk : x < l.length, l[x] = p := fun hk => by
          rw [List.getElem?_eq_getElem hk] at hp
          exact Option.some.inj hp
        have HPX := Lib.hid hpx
        clear hp hc hpx
        go_wp2_with fail
        refine (cmpPt p t wr).mono ?_
        rintro e w2 ⟨rfl, hb2⟩
        have HB2 := Lib.hid (HB.out.trans (hb2.mono HB.out.size))
        clear hb2 c0 c1 c2 c3
        obtain ⟨f, hf⟩ : ∃ f, (cmpI p.t t == 0) = f := ⟨_, rfl⟩
        go_wp2_with fail
        go_ret2
        refine ⟨x, f, rfl, ⟨by rw [HN.out]; omega, HLO.out, HHI.out, ?_⟩, HB2.out⟩
        have hxl : x < l.length := by rw [HN.out]; exact hxn
        rw [← hf]
        constructor
        · intro h
          have h1 : cmpI p.t t = 0 := by simpa using h
          refine ⟨hxl, ?_⟩
          rw [HPX.out hxl]
          unfold cmpI at h1
          split at h1
          · omega
          · split at h1
            · omega
            · omega
        · rintro ⟨hi, he⟩
          rw [HPX.out hi] at he
          simp [cmpI, he]
      · have hd : decide (x < n) = false := decide_eq_false hxn
        go_wp2_with fail
        go_ret2
        exact ⟨x, false, rfl, ⟨by rw [HN.out]; omega, HLO.out, HHI.out, by constructor; intro h; cases h; rintro ⟨hi, _⟩; rw [HN.out] at hi; omega⟩, HB.out⟩
end Go.Proofs.Ytfhdaihladgchaa
