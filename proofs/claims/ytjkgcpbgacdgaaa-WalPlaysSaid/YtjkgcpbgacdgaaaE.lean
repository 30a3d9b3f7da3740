/- A new disk; a file for an operation; Sync. Condition: the disk lies there whole. -/
import Derived.Test.YtjkgcpbgacdgaaaD
namespace Go.Proofs.Ytjkgcpbgacdgaaa
open Go.RowKit
/-- S and all that is new. -/
def With (S : Nat → Prop) (w w' : World) : Nat → Prop := fun k => S k ∨ (w.heap.size ≤ k ∧ k < w'.heap.size)
theorem new (n : Int) (w : World) (hn : n < 2 ^ 63) :
    Calls Try.prog 12 #[.int .i64 n] w fun e w' => e = .returned (.pointer (some ⟨w.heap.size + 1, 0, none⟩)) ∧ DiskAt w' (fun k => k = w.heap.size ∨ k = w.heap.size + 1) (w.heap.size + 1) w.heap.size [] (max n 0) (-1) false ∧ Below w.heap.size w w' ∧ w'.heap.size = w.heap.size + 2 := by
  have hmm := @run_makeMap Try.prog
  go_enter Try.func12, Try.ntmps12
  have key : ∀ r : Int, r = max n 0 → DiskAt ((w.alloc (.map #[] 0)).alloc (.cells #[.map (some w.heap.size), .int .i64 r, .int .i64 (-1), .bool false] 78)) (fun k => k = w.heap.size ∨ k = w.heap.size + 1) (w.heap.size + 1) w.heap.size [] (max n 0) (-1) false := by
    rintro r rfl
    refine ⟨?_, ?_, (fun e he => nomatch he), List.Pairwise.nil, ⟨.inr rfl, .inl rfl⟩, (fun e he => nomatch he)⟩
    · have h1 := heap_alloc_new (w.alloc (.map #[] 0)) (.cells #[.map (some w.heap.size), .int .i64 (max n 0), .int .i64 (-1), .bool false] 78)
      rw [World.size_alloc] at h1
      exact h1
    · exact (World.ownsMap_made w Try.prog 9 ptrE).alloc _
  by_cases h0 : 0 ≤ n
  · go_wp2_with fail
    go_ret
    exact ⟨rfl, key _ (by omega), ((Below.refl _ _).alloc (Nat.le_refl _) _).alloc (by simp) _, by simp⟩
  · go_wp2_with fail
    go_ret
    exact ⟨rfl, key _ (by omega), ((Below.refl _ _).alloc (Nat.le_refl _) _).alloc (by simp) _, by simp⟩
def chE (L : List Ent) (fuse : Int) (down : Bool) (s : ByteArray) : Int := if (getE L down s).2 = 0 then opE fuse else (getE L down s).2
def chF (L : List Ent) (fuse : Int) (down : Bool) (s : ByteArray) : Int := if (getE L down s).2 = 0 then opF fuse else fuse
def chD (L : List Ent) (fuse : Int) (down : Bool) (s : ByteArray) : Bool := if (getE L down s).2 = 0 then opD fuse down else down
theorem onlyD_refl (d : Nat) (w : World) : OnlyD d w w := ⟨rfl, rfl, rfl, rfl, fun _ _ => rfl⟩
theorem change (w : World) (S : Nat → Prop) (d m : Nat) (L : List Ent) (room fuse : Int) (down : Bool) (s : ByteArray) (hs : s.size ≤ maxLen) (h : DiskAt w S d m L room fuse down) (hf : -1 ≤ fuse) (hf2 : fuse < 2 ^ 63) :
    Calls Try.prog 47 #[.pointer (some ⟨d, 0, none⟩), .string s] w fun e w' => e = .returned (.tuple #[ptrOf (getE L down s).1, .int .i64 (chE L fuse down s)]) ∧ OnlyD d w w' ∧ DiskAt w' S d m L room (chF L fuse down s) (chD L fuse down s) := by
  have HH := Lib.hid h
  clear h
  go_enter Try.func47, Try.ntmps47
  go_wp2_with fail
  refine (get w S d m L room fuse down s hs HH.out).mono ?_
  rintro e w1 ⟨rfl, rfl⟩
  by_cases h0 : (getE L down s).2 = 0
  · have h0b : ((getE L down s).2 == 0) = true := by simp [h0]
    have HZ := Lib.hid h0
    clear h0
    go_wp2_with fail
    refine (operation w1 S d m L room fuse down HH.out hf hf2).mono ?_
    rintro e w2 ⟨rfl, ho, hd⟩
    have HO := Lib.hid ho
    have HD := Lib.hid hd
    clear ho hd
    go_wp2_with fail
    go_ret2
    exact ⟨by simp [chE, HZ.out], HO.out, by simp only [chF, chD, HZ.out, if_true]; exact HD.out⟩
  · have h0b : ((getE L down s).2 == 0) = false := by simp [h0]
    have HZ := Lib.hid h0
    clear h0
    go_wp2_with fail
    go_ret2
    exact ⟨by simp [chE, HZ.out], onlyD_refl _ _, by simp only [chF, chD, HZ.out, if_false]; exact HH.out⟩
/-- Where a list of files is parted at a name. -/
theorem look_parts {L : List Ent} {s : ByteArray} {e : Ent} (h : look L s = some e) : ∃ L1 L2, L = L1 ++ e :: L2 ∧ ∀ x ∈ L1, x.name.data.toList ≠ s.data.toList := by
  unfold look at h
  rw [List.find?_eq_some_iff_append] at h
  obtain ⟨_, L1, L2, rfl, h1⟩ := h
  exact ⟨L1, L2, rfl, fun x hx hn => by have := h1 x hx; simp [hn] at this⟩
/-- A file by its name is turned. -/
def setF (L : List Ent) (s : ByteArray) (v : Value) (bs : List Value) (syn : Int) : List Ent := L.map fun e => if e.name.data.toList == s.data.toList then ⟨e.name, e.f, v, bs, syn⟩ else e
theorem setF_parts {w : World} {S : Nat → Prop} {d m : Nat} {L : List Ent} {room fuse : Int} {down : Bool} (h : DiskAt w S d m L room fuse down) {s : ByteArray} {e : Ent} (hl : look L s = some e) (v : Value) (bs : List Value) (syn : Int) :
    ∃ L1 L2, L = L1 ++ e :: L2 ∧ setF L s v bs syn = L1 ++ ⟨e.name, e.f, v, bs, syn⟩ :: L2 := by
  obtain ⟨L1, L2, rfl, h1⟩ := look_parts hl
  have hn := look_name hl
  subst hn
  have hp := h.names
  rw [List.pairwise_append] at hp
  obtain ⟨_, h2, _⟩ := hp
  rw [List.pairwise_cons] at h2
  refine ⟨L1, L2, rfl, ?_⟩
  unfold setF
  rw [List.map_append, List.map_cons]
  simp only [beq_self_eq_true, if_true]
  congr 1
  · conv => rhs; rw [← List.map_id L1]
    refine List.map_congr_left fun x hx => ?_
    rw [if_neg (by rw [beq_iff_eq]; exact h1 x hx)]; rfl
  · congr 1
    conv => rhs; rw [← List.map_id L2]
    refine List.map_congr_left fun x hx => ?_
    have h3 := h2.1 x hx
    have : x.name.data.toList ≠ e.name.data.toList := fun h => h3 (by simp [key, h])
    rw [if_neg (by rw [beq_iff_eq]; exact this)]; rfl
def syncL (L : List Ent) (fuse : Int) (down : Bool) (s : ByteArray) : List Ent := if chE L fuse down s = 0 then match look L s with | some e => setF L s e.v e.bs e.bs.length | none => L else L
theorem sync (w : World) (S : Nat → Prop) (d m : Nat) (L : List Ent) (room fuse : Int) (down : Bool) (s : ByteArray) (hs : s.size ≤ maxLen) (h : DiskAt w S d m L room fuse down) (hf : -1 ≤ fuse) (hf2 : fuse < 2 ^ 63) :
    Calls Try.prog 22 #[.pointer (some ⟨d, 0, none⟩), .string s] w fun e w' => e = .returned (.int .i64 (chE L fuse down s)) ∧ Turns S w w' ∧ w'.heap.size = w.heap.size ∧ DiskAt w' S d m (syncL L fuse down s) room (chF L fuse down s) (chD L fuse down s) := by
  have HH := Lib.hid h
  clear h
  go_enter Try.func22, Try.ntmps22
  go_wp2_with fail
  refine (change w S d m L room fuse down s hs HH.out hf hf2).mono ?_
  rintro e w1 ⟨rfl, ho, hd⟩
  have HO := Lib.hid ho
  have HD := Lib.hid hd
  clear ho hd
  by_cases h0 : chE L fuse down s = 0
  · have h0b : (chE L fuse down s == 0) = true := by simp [h0]
    have HZ := Lib.hid h0
    obtain ⟨e, hl, hg⟩ : ∃ e, look L s = some e ∧ (getE L down s).1 = some e := by
      unfold chE getE at h0
      unfold getE
      cases down with
      | true => simp at h0
      | false =>
        cases hk : look L s with
        | none => simp [hk] at h0
        | some e => exact ⟨e, rfl, rfl⟩
    obtain ⟨hf1, hf2⟩ := HD.out.file e (look_mem hl)
    have hc0 : w1.cell? ⟨e.f, 0, none⟩ = some e.v := by simp [World.cell?, hf1]
    have hc1 : w1.cell? ⟨e.f, 1, none⟩ = some (.int .i64 e.syn) := by simp [World.cell?, hf1]
    have hz1 : w1.frozen? ⟨e.f, 1, none⟩ = false := by simp [World.frozen?, hf1]
    obtain ⟨a, cap, hv⟩ := hf2.form
    rw [hv] at hc0
    rw [hg]
    simp only [ptrOf]
    have HL := Lib.hid hl
    have HF := Lib.hid hf1
    have HF2 := Lib.hid hf2
    clear h0 hl hg hf1 hf2 hv
    go_wp2_with fail
    go_ret
    obtain ⟨L1, L2, e1, e2⟩ := setF_parts HD.out HL.out e.v e.bs e.bs.length
    have hD := HD.out
    have hoD := onlyD_set w1 e.f 1 (.int .i64 e.bs.length)
    refine ⟨by rw [HZ.out]; rfl, (HO.out.turns hD.here.1).trans (hoD.turns (hD.mine e (look_mem HL.out)).1) (fun _ h => .inl h), by rw [hoD.2.2.2.1, HO.out.2.2.2.1], ?_⟩
    simp only [syncL, HZ.out, if_true, HL.out, e2]
    generalize chF L fuse down s = F at hD ⊢
    generalize chD L fuse down s = D at hD ⊢
    rw [e1] at hD
    refine hD.turn (S' := S) e.v e.bs e.bs.length (by rw [heap_setCell_same _ _ _ _ _ _ HF.out]; rfl) (HF2.out.same fun g hg => hoD.2.2.2.2 g ?_) (fun _ h => h) (hD.mine e (by simp)).2 (fun g hg => .inl hg) (fun k _ hk _ => hoD.2.2.2.2 k hk)
    rintro rfl
    obtain ⟨cur, fz, hc⟩ := HF2.out.cells hg
    rw [HF.out] at hc; simp at hc
  · have h0b : (chE L fuse down s == 0) = false := by simp [h0]
    have HZ := Lib.hid h0
    clear h0
    go_wp2_with fail
    go_ret
    exact ⟨rfl, HO.out.turns HD.out.here.1, HO.out.2.2.2.1, by simp only [syncL, HZ.out, if_false]; exact HD.out⟩
end Go.Proofs.Ytjkgcpbgacdgaaa
