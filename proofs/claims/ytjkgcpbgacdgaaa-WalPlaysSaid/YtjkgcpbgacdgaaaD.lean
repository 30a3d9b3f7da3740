/- How many bytes all files of a disk have; a file for an operation. Condition: the disk lies there whole, and the number fits. -/
import Derived.Test.YtjkgcpbgacdgaaaC
namespace Go.Proofs.Ytjkgcpbgacdgaaa
open Go.RowKit
def lens (L : List Ent) : Nat := (L.map fun e => e.bs.length).sum
def comes (left : Lit → Bool) (L : List Ent) : Nat := lens (L.filter fun e => left (key e.name))
theorem comes_none {left : Lit → Bool} (h : ∀ k, left k = false) (L : List Ent) : comes left L = 0 := by
  have e : (fun e : Ent => left (key e.name)) = fun _ => false := funext fun e => h _
  simp only [comes, lens, e]
  rw [List.filter_eq_nil_iff.2 (by simp)]
  rfl
theorem comes_all {left : Lit → Bool} {L : List Ent} (h : ∀ e ∈ L, left (key e.name) = true) : comes left L = lens L := by
  unfold comes
  rw [List.filter_eq_self.2 h]
theorem comes_le (left : Lit → Bool) : ∀ L : List Ent, comes left L ≤ lens L
  | [] => Nat.le_refl _
  | x :: L => by
    have := comes_le left L
    unfold comes lens at *
    simp only [List.filter_cons]
    split <;> simp <;> omega
theorem key_same (s t : ByteArray) : (key s).sameKey (key t) = (s.data.toList == t.data.toList) := rfl
theorem key_eq {s t : ByteArray} (h : key s = key t) : s = t := by
  simp [key] at h
  exact ByteArray.ext h
theorem comes_step {left : Lit → Bool} : ∀ {L : List Ent}, L.Pairwise (fun a b => key a.name ≠ key b.name) → ∀ {e : Ent}, e ∈ L → left (key e.name) = true →
    comes left L = comes (fun z => left z && !z.sameKey (key e.name)) L + e.bs.length
  | [], _, _, h, _ => by cases h
  | x :: L, hp, e, he, hl => by
    rw [List.pairwise_cons] at hp
    obtain ⟨h1, h2⟩ := hp
    have other : ∀ y ∈ L, key y.name ≠ key x.name → True := fun _ _ _ => trivial
    rcases List.mem_cons.1 he with rfl | he
    · have e1 : comes (fun z => left z && !z.sameKey (key e.name)) L = comes left L := by
        unfold comes
        congr 1
        refine List.filter_congr fun y hy => ?_
        have : (key y.name).sameKey (key e.name) = false := by
          rw [key_same]
          simp only [beq_eq_false_iff_ne]
          intro h
          exact h1 y hy (by simp [key, h])
        simp [this]
      unfold comes lens at *
      have h3 : (key e.name).sameKey (key e.name) = true := by rw [key_same]; simp
      simp only [List.filter_cons, hl, h3]
      simp
      simp at e1
      omega
    · have ih := comes_step (left := left) h2 he hl
      have hx : (key x.name).sameKey (key e.name) = false := by
        rw [key_same]
        simp only [beq_eq_false_iff_ne]
        intro h
        exact h1 e he (by simp [key, h])
      unfold comes lens at *
      simp only [List.filter_cons, hx]
      simp at ih ⊢
      split <;> first | omega | (simp; omega)
theorem DiskAt.names {w : World} {S : Nat → Prop} {d m : Nat} {L : List Ent} {room fuse : Int} {down : Bool} (h : DiskAt w S d m L room fuse down) : L.Pairwise fun a b => key a.name ≠ key b.name := by
  obtain ⟨es, he, hp, _⟩ := h.map.entries (Maps.string_keyed Try.underlying9)
  injection he with he
  subst he
  rw [List.pairwise_map] at hp
  exact hp
theorem at_ent {L : List Ent} {kl : Lit} {y : DataW Unit} (h : ∀ zd, (DataW.map (L.map ent)).atKey kl zd = y) : ∃ e ∈ L, (key e.name).sameKey kl = true ∧ y = .lit (.int .u64 e.f) := by
  simp only [DataW.atKey] at h
  cases hf : (L.map ent).find? (fun p => p.1.sameKey kl) with
  | none =>
    rw [hf] at h
    have h1 := h .nil
    have h2 := h (.lit (.bool true))
    rw [← h1] at h2
    cases h2
  | some p =>
    rw [hf] at h
    have hm := List.mem_of_find?_eq_some hf
    have hs := List.find?_some hf
    obtain ⟨e, he, rfl⟩ := List.mem_map.1 hm
    exact ⟨e, he, hs, (h .nil).symm⟩
def InUsed (w : World) (m : Nat) (L : List Ent) (n : Value) (wr : World) : Prop :=
  ∃ (left : Lit → Bool) (cnt : Nat), wr.ranges Try.prog 9 ptrE m w.heap.size L.length (.map (L.map ent)) left cnt ∧ n = .int .i64 ((lens L - comes left L : Nat) : Int) ∧ Below w.heap.size w wr
theorem has_ent {L : List Ent} {e : Ent} (he : e ∈ L) : Maps.has (DataW.map (L.map ent)) (key e.name) = true := by
  rw [Maps.has_eq, List.any_eq_true]
  exact ⟨ent e, List.mem_map.2 ⟨e, he, rfl⟩, by show (key e.name).sameKey (key e.name) = true; rw [key_same]; simp⟩
theorem key_inv {k : Value} {kl : Lit} (h : keyOf Try.prog 9 k = some kl) : ∃ x, k = .string x ∧ kl = key x := by
  rw [keyOf_string Try.underlying9] at h
  unfold mapKey at h
  rw [Try.underlying9] at h
  cases k <;> simp at h
  exact ⟨_, rfl, h.2.symm⟩
theorem used (w : World) (S : Nat → Prop) (d m : Nat) (L : List Ent) (room fuse : Int) (down : Bool) (h : DiskAt w S d m L room fuse down) (hn : lens L < 2 ^ 63) :
    Calls Try.prog 15 #[.pointer (some ⟨d, 0, none⟩)] w fun e w' => e = .returned (.int .i64 (lens L)) ∧ Below w.heap.size w w' := by
  have hb := h.blk
  have c0 : w.cell? ⟨d, 0, none⟩ = some (.map (some m)) := by simp [World.cell?, hb]
  have hown := h.map
  have HH := Lib.hid h
  have HN := Lib.hid h.names
  clear hb h
  go_enter Try.func15, Try.ntmps15
  go_wp2_with (first
    | (at_range; refine wpList_range_own _ rfl _ 76 rfl 9 80 (Maps.string_keyed Try.underlying9) Try.underlying76 _ m L.length _ rfl hown ?_; intro w0 hrg0 hg0 hs0)
    | fail)
  go_frame
  have HR := Lib.hid hrg0
  clear hrg0
  go_loopw [3] (fun n wr => InUsed w m L n wr) (fun _ wr => wr.rangeLeft m w.heap.size)
  case atStart => exact ⟨_, _, HR.out, by rw [comes_all (fun e he => has_ent he)]; simp, ⟨hg0.os, hg0.tape, hg0.output, hg0.size, fun k hk => hg0.block k hk (by simp)⟩⟩
  case round =>
    obtain ⟨left, cnt, hrg, rfl, hbl⟩ := hrel
    have HG := Lib.hid hrg
    have HB := Lib.hid hbl
    clear hrg hbl
    go_wp2_with (first
      | (at_next; refine wpList_next_ranges _ rfl _ rfl 9 (Maps.string_keyed Try.underlying9) ptrE Value.string (fun v : Value => v) (fun k kl hk => by obtain ⟨x, h, _⟩ := key_inv hk; exact ⟨x, h⟩) (fun v y _ => ⟨v, rfl⟩) m w.heap.size L.length _ left cnt rfl HG.out ?_ ?_)
      | fail)
    · intro _ hl0
      have e0 := comes_none hl0 L
      rw [e0, Nat.sub_zero]
      clear hl0 e0
      go_wp2
      go_ret
      exact ⟨rfl, HB.out⟩
    · intro x c kl y ps w1 cnt1 hkx hlx hRc hat hrg1 hlt hg1 hs1 hen
      obtain ⟨e, he, hke, hy⟩ := at_ent hat
      obtain ⟨x', hx, rfl⟩ := key_inv hkx
      injection hx with hx
      subst hx
      subst hy
      obtain rfl := ptrE_lit hRc
      have hxe : e.name = x := by
        rw [key_same] at hke
        exact ByteArray.ext (Array.toList_inj.1 (by simpa using hke))
      subst hxe
      have hstep := comes_step HN.out he hlx
      have hle := comes_le left L
      obtain ⟨hf1, hf2⟩ := HH.out.file e he
      have hb1 : Below w.heap.size w w1 := HB.out.trans ⟨hg1.os, hg1.tape, hg1.output, hg1.size, fun k hk => by
        have := HB.out.size
        exact hg1.block k (by omega) (by simp; omega)⟩
      have hef : e.f < w.heap.size := World.block_lt_of_cell? w ⟨e.f, 0, none⟩ (u := e.v) (by simp [World.cell?, hf1])
      have hc1 : w1.cell? ⟨e.f, 0, none⟩ = some e.v := (hb1.cell hef).trans (by simp [World.cell?, hf1])
      obtain ⟨a, cap, hv⟩ := hf2.form
      rw [hv] at hc1
      have hbs : e.bs.length ≤ comes left L := by omega
      have hsum : ((lens L - comes left L : Nat) : Int) + (e.bs.length : Int) = ((lens L - comes (fun z => left z && !z.sameKey (key e.name)) L : Nat) : Int) := by omega
      have HS := Lib.hid hstep
      have HB1 := Lib.hid hb1
      have HG1 := Lib.hid hrg1
      have HLT := Lib.hid hlt
      have HSUM := Lib.hid hsum
      have hn1 : 0 ≤ ((lens L - comes left L : Nat) : Int) + (e.bs.length : Int) := by omega
      have hn2 : ((lens L - comes left L : Nat) : Int) + (e.bs.length : Int) < 2 ^ 63 := by omega
      clear hstep hb1 hrg1 hlt hsum hat hkx hlx hRc hke hf1 hf2 hv hle hbs
      go_wp2_with fail
      go_roundw
      case rel => exact ⟨_, _, HG1.out, by rw [← HSUM.out], HB1.out⟩
      case measure => rw [HG1.out.left_eq, HG.out.left_eq]; exact HLT.out
end Go.Proofs.Ytjkgcpbgacdgaaa
