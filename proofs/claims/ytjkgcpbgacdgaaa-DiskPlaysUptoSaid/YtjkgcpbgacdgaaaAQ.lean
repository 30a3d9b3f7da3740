/- How much a disk holds behind each operation. No condition. -/
import Derived.Test.YtjkgcpbgacdgaaaAP
namespace Go.Proofs.Ytjkgcpbgacdgaaa
open Go.RowKit Go.Sort
/-- The disk's files are whole, of p bytes and q files at most. -/
def Fits (L : List Ent) (p q : Nat) : Prop := Good L ∧ lens L ≤ p ∧ L.length ≤ q
theorem lens_cons (e : Ent) (L : List Ent) : lens (e :: L) = e.bs.length + lens L := by simp [lens]
theorem lens_append (A B : List Ent) : lens (A ++ B) = lens A + lens B := by simp [lens]
theorem lens_filter (f : Ent → Bool) : ∀ L : List Ent, lens (L.filter f) ≤ lens L
  | [] => Nat.le_refl _
  | e :: L => by
    have ih := lens_filter f L
    rw [List.filter_cons]
    split
    · rw [lens_cons, lens_cons]; omega
    · rw [lens_cons]; omega
theorem mem_lens {L : List Ent} {e : Ent} (h : e ∈ L) : e.bs.length ≤ lens L := by
  obtain ⟨A, B, rfl⟩ := List.append_of_mem h
  rw [lens_append, lens_cons]; omega
theorem Fits.mono {L : List Ent} {p q p' q' : Nat} (h : Fits L p q) (hp : p ≤ p') (hq : q ≤ q') : Fits L p' q' := ⟨h.1, Nat.le_trans h.2.1 hp, Nat.le_trans h.2.2 hq⟩
theorem Fits.set {w : World} {S : Nat → Prop} {d m : Nat} {L : List Ent} {room fuse : Int} {down : Bool} {p q x : Nat} (h : DiskAt w S d m L room fuse down) (hf : Fits L p q) {s : ByteArray} {e : Ent} (hl : look L s = some e) (v : Value) (bs : List Value) (syn : Int)
    (hb : ∃ l : List UInt8, bs = Lib.byteCells l) (hx : bs.length ≤ e.bs.length + x) (h0 : 0 ≤ syn) (h1 : syn ≤ bs.length) (hp : p + x ≤ 140737488355328) : Fits (setF L s v bs syn) (p + x) q := by
  obtain ⟨L1, L2, rfl, h2⟩ := setF_parts h hl v bs syn
  rw [h2]
  obtain ⟨g1, g2, g3⟩ := hf
  rw [lens_append, lens_cons] at g2
  refine ⟨fun y hy => ?_, ?_, by simpa using g3⟩
  · rcases List.mem_append.1 hy with hy | hy
    · exact g1 y (by simp [hy])
    · rcases List.mem_cons.1 hy with rfl | hy
      · exact ⟨(g1 e (by simp)).1, hb, by show bs.length ≤ _; omega, h0, h1⟩
      · exact g1 y (by simp [hy])
  · rw [lens_append, lens_cons]; show lens L1 + (bs.length + lens L2) ≤ _; omega
theorem Fits.drop {L : List Ent} {p q : Nat} (h : Fits L p q) (s : ByteArray) : Fits (dropE L s) p q :=
  ⟨fun y hy => h.1 y (drop_mem hy), Nat.le_trans (lens_filter _ _) h.2.1, Nat.le_trans (List.length_filter_le _ _) h.2.2⟩
theorem Fits.ins {L : List Ent} {p q : Nat} (h : Fits L p q) (x : Ent) (hx : x.name.size ≤ 64 ∧ (∃ l : List UInt8, x.bs = Lib.byteCells l) ∧ x.bs.length ≤ 140737488355328 ∧ 0 ≤ x.syn ∧ x.syn ≤ x.bs.length) : Fits (insE x L) (p + x.bs.length) (q + 1) := by
  refine ⟨fun y hy => ?_, by rw [lens_ins]; have := h.2.1; omega, by rw [(insE_perm x L).length_eq]; have := h.2.2; simp; omega⟩
  rcases insE_mem.1 hy with rfl | hy
  · exact hx
  · exact h.1 y hy
theorem Fits.rst : ∀ {L : List Ent} {p q : Nat} (cs : List UInt8), Fits L p q → Fits (rst cs L) p q
  | [], p, q, cs, h => by cases cs <;> exact h
  | e :: L, p, q, cs, h => by
    obtain ⟨g1, g2, g3⟩ := h
    rw [lens_cons] at g2
    obtain ⟨h1, ⟨k, hk⟩, h3, h4, h5⟩ := g1 e (by simp)
    have hle := rstK_le e (cs.headD 0).toNat h4 h5
    have ih := Fits.rst (L := L) (p := lens L) (q := L.length) (if e.syn < e.bs.length then cs.drop 1 else cs) ⟨fun y hy => g1 y (by simp [hy]), Nat.le_refl _, Nat.le_refl _⟩
    have hone : (rstOne e (cs.headD 0).toNat).bs.length = rstK e (cs.headD 0).toNat := by show (e.bs.take _).length = _; rw [List.length_take]; omega
    refine ⟨fun y hy => ?_, ?_, ?_⟩
    · simp only [Ytjkgcpbgacdgaaa.rst, List.mem_cons] at hy
      rcases hy with rfl | hy
      · exact ⟨h1, ⟨k.take (rstK e (cs.headD 0).toNat), by show e.bs.take _ = _; rw [hk, byteCells_take]⟩, by omega, by show (0 : Int) ≤ ((rstK e _ : Nat) : Int); omega, by rw [hone]; exact Int.le_refl _⟩
      · exact ih.1 y hy
    · simp only [Ytjkgcpbgacdgaaa.rst]
      rw [lens_cons, hone]
      have := ih.2.1
      omega
    · simp only [Ytjkgcpbgacdgaaa.rst, List.length_cons]
      have := ih.2.2
      simp at g3
      omega
section
variable {w : World} {S : Nat → Prop} {d m : Nat} {L : List Ent} {room fuse : Int} {down : Bool} {p q : Nat}
theorem Fits.sync (h : DiskAt w S d m L room fuse down) (hf : Fits L p q) (hp : p ≤ 140737488355328) (s : ByteArray) : Fits (syncL L fuse down s) p q := by
  unfold syncL
  split
  · cases hl : look L s with
    | none => exact hf
    | some e =>
      have hg := hf.1 e (look_mem hl)
      exact Fits.set (x := 0) h hf hl e.v e.bs e.bs.length hg.2.1 (Nat.le_refl _) (by omega) (Int.le_refl _) hp
  · exact hf
theorem Fits.cut (h : DiskAt w S d m L room fuse down) (hf : Fits L p q) (hp : p ≤ 140737488355328) (s : ByteArray) (n : Int) : Fits (cutL L fuse down s n) p q := by
  unfold cutL
  split
  · rename_i hz
    cases hl : look L s with
    | none => exact hf
    | some e =>
      obtain ⟨_, ⟨k, hk⟩, _, h4, h5⟩ := hf.1 e (look_mem hl)
      have hout : isOut (getE L down s).1 n = false := by
        cases ho : isOut (getE L down s).1 n with
        | false => rfl
        | true => simp [cutE, ho] at hz
      have hdn : down = false := by
        cases down with
        | false => rfl
        | true => simp [cutE, isOut, chE, getE] at hz
      subst hdn
      have hge : (getE L false s).1 = some e := by simp [getE, hl]
      rw [hge] at hout
      have hout' : ¬ (n < 0 ∨ (e.bs.length : Int) < n) := of_decide_eq_false hout
      exact Fits.set (x := 0) h hf hl _ (e.bs.take n.toNat) (min e.syn n) ⟨k.take n.toNat, by rw [hk, byteCells_take]⟩ (by rw [List.length_take]; omega) (by omega) (by rw [List.length_take]; omega) hp
  · exact hf
theorem Fits.rem (hf : Fits L p q) (s : ByteArray) : Fits (remL L fuse down s) p q := by
  unfold remL
  split
  · exact hf.drop s
  · exact hf
theorem Fits.ren (hf : Fits L p q) (s t : ByteArray) : Fits (renL L fuse down s t) p q := by
  unfold renL
  split
  · rename_i hz
    cases hl : look L s with
    | none => exact hf
    | some e =>
      obtain ⟨g1, g2, g3, g4, g5⟩ := hf.1 e (look_mem hl)
      have hnm : nameB t.data.toList = true := by
        cases hn : nameB t.data.toList with
        | true => rfl
        | false =>
          exfalso
          unfold renE at hz
          split at hz
          · rw [hn] at hz; simp at hz
          · exact absurd hz ‹_›
      obtain ⟨L1, L2, rfl, hne⟩ := look_parts hl
      have hn := look_name hl
      have h1 : Fits (dropE (L1 ++ e :: L2) s) (p - e.bs.length) (q - 1) := by
        have e1 : dropE (L1 ++ e :: L2) s = dropE (L1 ++ L2) s := by
          unfold dropE
          rw [List.filter_append, List.filter_append, List.filter_cons]
          simp [hn]
        have h2 := hf.2.1
        have h3 := hf.2.2
        rw [lens_append, lens_cons] at h2
        simp only [List.length_append, List.length_cons] at h3
        refine ⟨fun y hy => hf.1 y (drop_mem hy), ?_, ?_⟩
        · rw [e1]
          refine Nat.le_trans (lens_filter _ _) ?_
          rw [lens_append]; omega
        · rw [e1]
          refine Nat.le_trans (List.length_filter_le _ _) ?_
          rw [List.length_append]; omega
      have h2 := (h1.drop t).ins ⟨t, e.f, e.v, e.bs, e.syn⟩ ⟨nameB_len hnm, g2, g3, g4, g5⟩
      have h3 := mem_lens (L := L1 ++ e :: L2) (e := e) (by simp)
      have h4 := hf.2.1
      have h5 := hf.2.2
      simp only [List.length_append, List.length_cons] at h5
      exact h2.mono (by show p - e.bs.length + e.bs.length ≤ p; omega) (by omega)
  · exact hf
theorem Fits.app (h : DiskAt w S d m L room fuse down) (hf : Fits L p q) (s : ByteArray) (l : List UInt8) (hp : p + l.length ≤ 140737488355328) {L' : List Ent} {j : Nat} {err : Int} (hs : AppSays L room fuse down s (Lib.byteCells l) L' j err) : Fits L' (p + l.length) (q + 1) := by
  rcases hs with ⟨_, rfl, _⟩ | ⟨_, _, rfl, _⟩ | ⟨_, _, _, rfl, _⟩ | ⟨_, hn, _, _, _, f, v, rfl⟩
  · exact hf.mono (by omega) (by omega)
  · exact hf.mono (by omega) (by omega)
  · exact hf.mono (by omega) (by omega)
  · unfold addE
    have hlen : ((Lib.byteCells l).take j).length ≤ l.length := by rw [List.length_take]; simp [Lib.byteCells]; omega
    cases hl : look L s with
    | some e =>
      obtain ⟨_, ⟨k, hk⟩, _, h4, h5⟩ := hf.1 e (look_mem hl)
      exact (Fits.set (x := l.length) h hf hl v _ e.syn ⟨k ++ l.take j, by rw [hk, byteCells_take, byteCells_append]⟩ (by rw [List.length_append]; omega) h4 (by rw [List.length_append]; omega) hp).mono (Nat.le_refl _) (by omega)
    | none =>
      exact (hf.ins ⟨s, f, v, (Lib.byteCells l).take j, 0⟩ ⟨nameB_len hn, ⟨l.take j, byteCells_take l j⟩, by show ((Lib.byteCells l).take j).length ≤ _; omega, Int.le_refl _, by show (0 : Int) ≤ _; omega⟩).mono (by show p + ((Lib.byteCells l).take j).length ≤ _; omega) (Nat.le_refl _)
end
end Go.Proofs.Ytjkgcpbgacdgaaa
