/- What the law asks of a run besides its calls. Conditions: the sizes. -/
import Derived.Test.YtjkgcpbgacdgaaaCF
import Derived.Test.YtjkgcpbgacdgaaaCD
import Derived.Test.YtjkgcpbgacdgaaaCG
namespace Go.Proofs.Ytjkgcpbgacdgaaa
open Go.RowKit
section
variable {W w w' : World} {S U T S' U' T' : Nat → Prop} {r d m p l : Nat} {lv qv : Value} {L L' : List Ent} {room room' fuse fuse' : Int} {down down' : Bool} {first first' : Int} {v v' : Value} {X X' : List (Value × List Value)} {z z' : Int} {over over' : Bool} {K B F : Nat} {Y : List (List UInt8)} {mb : Option (Nat × List (List UInt8))}
theorem RunD.turn' (h : RunD W w S U r d m p lv qv L room fuse down) (ht : Turns S w w') (hd : DiskAt w' S d m L' room' fuse' down') : RunD W w' S U r d m p lv qv L' room' fuse' down' := by
  have hs := ht.size
  refine ⟨(ht.block r (blk_lt h.blk) (fun e => (h.sep r e).2 rfl)).trans h.blk, hd, h.sep, h.rU, fun k hk => ⟨(h.low k hk).1, Nat.lt_of_lt_of_le (h.low k hk).2 hs⟩, h.below.trans (ht.below h.below.size fun k hk => (h.low k (.inl hk)).1)⟩
theorem LogIn.turn (h : LogIn W w S U T r l d first v X z over) (ht : Turns S w w') : LogIn W w' S U T r l d first v X z over :=
  ⟨h.log.same ((ht.block l (blk_lt h.log.blk) (h.sep l h.log.here).1).trans h.log.blk) ht.size fun k hk _ hl => ht.block k hl (h.sep k hk).1, fun k hk => ⟨(h.sep k hk).1, (h.sep k hk).2.1, (h.sep k hk).2.2.1, (h.sep k hk).2.2.2.1, Nat.lt_of_lt_of_le (h.sep k hk).2.2.2.2 ht.size⟩⟩
theorem OnlyD.turnsS {d : Nat} (h : OnlyD d w w') (hd : S d) : Turns S w w' := ⟨h.1, h.2.1, h.2.2.1, by rw [h.2.2.2.1]; exact Nat.le_refl _, fun k _ hk => h.2.2.2.2 k fun e => hk (e ▸ hd)⟩
theorem RunOk.later (h : RunOk W w r room fuse K B F Y mb) (hb : Below w.heap.size w w') : RunOk W w' r room fuse K B F Y mb := by
  obtain ⟨S, U, T, d, m, p, l, qv, L, v, X, dv, DX, z, hrun, hlog, hX, hdoc, hDX, hfu, hbd, hz, hmode⟩ := h
  refine ⟨S, U, T, d, m, p, l, qv, L, v, X, dv, DX, z, hrun.later hb, hlog.later hb, hX, hdoc.later hb, hDX, hfu, hbd, hz, ?_⟩
  rcases hmode with h1 | ⟨MF, MY, q, qd, QX, h1, h2, h3, h4⟩
  · exact .inl h1
  · exact .inr ⟨MF, MY, q, qd, QX, h1, h2, h3.later hb, h4⟩
theorem RunOk.below (h : RunOk W w r room fuse K B F Y mb) : Below W.heap.size W w := by
  obtain ⟨S, U, T, d, m, p, l, qv, L, v, X, dv, DX, z, hrun, _⟩ := h
  exact hrun.below
theorem RunOk.mono {K' B' : Nat} (h : RunOk W w r room fuse K B F Y mb) (hK : K ≤ K') (hB : B ≤ B') : RunOk W w r room fuse K' B' F Y mb := by
  obtain ⟨S, U, T, d, m, p, l, qv, L, v, X, dv, DX, z, hrun, hlog, hX, hdoc, hDX, hfu, hbd, hz, hmode⟩ := h
  refine ⟨S, U, T, d, m, p, l, qv, L, v, X, dv, DX, z, hrun, hlog, hX, hdoc, hDX, hfu, hbd.mono hK hB, hz, ?_⟩
  rcases hmode with h1 | ⟨MF, MY, q, qd, QX, h1, h2, h3, h4, h5, h6⟩
  · exact .inl h1
  · exact .inr ⟨MF, MY, q, qd, QX, h1, h2, h3, h4, h5.mono hK hB, h6⟩
theorem RunOk.disks (h : RunOk W w r room fuse K B F Y mb) : ∃ S d m L, w.cell? ⟨r, 0, none⟩ = some (.pointer (some ⟨d, 0, none⟩)) ∧ r < w.heap.size ∧ W.heap.size ≤ r ∧ DiskAt w S d m L room fuse mb.isSome ∧ FuseOk fuse ∧ (K ≤ 1000 → B ≤ 1000000000 → lens L ≤ 1000000000000) ∧
    ∀ w' room' fuse', Turns S w w' → DiskAt w' S d m L room' fuse' mb.isSome → FuseOk fuse' → RunOk W w' r room' fuse' K B F Y mb := by
  obtain ⟨S, U, T, d, m, p, l, qv, L, v, X, dv, DX, z, hrun, hlog, hX, hdoc, hDX, hfu, hbd, hz, hmode⟩ := h
  refine ⟨S, d, m, L, (run_cells hrun.blk).1, blk_lt hrun.blk, (hrun.low r (.inr (.inr rfl))).1, hrun.disk, hfu, fun hK hB => ?_, fun w' room' fuse' ht hd hf => ?_⟩
  · refine (RunOk.sizes (q := True) (z := z) hbd hK hB (mb := mb) ?_).1
    rcases hmode with ⟨h1, _, h3⟩ | ⟨MF, MY, q, qd, QX, h1, _, _, _, _, h6⟩
    · exact .inl ⟨h1, trivial, h3⟩
    · exact .inr ⟨MF, MY, h1, h6⟩
  · refine ⟨S, U, T, d, m, p, l, qv, L, v, X, dv, DX, z, hrun.turn' ht hd, hlog.turn ht, hX, hdoc.turn hrun ht, hDX, hf, hbd, hz, ?_⟩
    rcases hmode with h1 | ⟨MF, MY, q, qd, QX, h1, h2, h3, h4⟩
    · exact .inl h1
    · exact .inr ⟨MF, MY, q, qd, QX, h1, h2, h3.turn hrun ht, h4⟩
theorem RunOk.setFuse (h : RunOk W w r room fuse K B F Y mb) (n : Int) (hn : n < 2 ^ 63) : ∃ d, w.cell? ⟨r, 0, none⟩ = some (.pointer (some ⟨d, 0, none⟩)) ∧ Calls Try.prog 26 #[.pointer (some ⟨d, 0, none⟩), .int .i64 n] w fun e w' => e = .returned (.tuple #[]) ∧ RunOk W w' r room (max n (-1)) K B F Y mb := by
  obtain ⟨S, d, m, L, hc, _, _, hd, _, _, hall⟩ := h.disks
  refine ⟨d, hc, (Ytjkgcpbgacdgaaa.setFuse w S d m L room fuse _ n hd).mono ?_⟩
  rintro e w' ⟨h1, h2, h3⟩
  exact ⟨h1, hall w' _ _ (h2.turnsS hd.here.1) h3 ⟨by omega, by omega⟩⟩
theorem RunOk.setRoom (h : RunOk W w r room fuse K B F Y mb) (n : Int) : ∃ d, w.cell? ⟨r, 0, none⟩ = some (.pointer (some ⟨d, 0, none⟩)) ∧ Calls Try.prog 32 #[.pointer (some ⟨d, 0, none⟩), .int .i64 n] w fun e w' => e = .returned (.tuple #[]) ∧ RunOk W w' r (max n 0) fuse K B F Y mb := by
  obtain ⟨S, d, m, L, hc, _, _, hd, hf, _, hall⟩ := h.disks
  refine ⟨d, hc, (Ytjkgcpbgacdgaaa.setRoom w S d m L room fuse _ n hd).mono ?_⟩
  rintro e w' ⟨h1, h2, h3⟩
  exact ⟨h1, hall w' _ _ (h2.turnsS hd.here.1) h3 hf⟩
theorem RunOk.used (h : RunOk W w r room fuse K B F Y mb) (hK : K ≤ 1000) (hB : B ≤ 1000000000) : ∃ d, ∃ u : Nat, u ≤ 1000000000000 ∧ w.cell? ⟨r, 0, none⟩ = some (.pointer (some ⟨d, 0, none⟩)) ∧ Calls Try.prog 15 #[.pointer (some ⟨d, 0, none⟩)] w fun e w' => e = .returned (.int .i64 u) ∧ Below w.heap.size w w' := by
  obtain ⟨S, d, m, L, hc, _, _, hd, hf, hl, _⟩ := h.disks
  exact ⟨d, lens L, hl hK hB, hc, Ytjkgcpbgacdgaaa.used w S d m L room fuse _ hd (by have := hl hK hB; omega)⟩
theorem RunOk.isDown (h : RunOk W w r room fuse K B F Y mb) : ∃ d, w.cell? ⟨r, 0, none⟩ = some (.pointer (some ⟨d, 0, none⟩)) ∧ Calls Try.prog 28 #[.pointer (some ⟨d, 0, none⟩)] w fun e w' => e = .returned (.bool mb.isSome) ∧ w' = w := by
  obtain ⟨S, d, m, L, hc, _, _, hd, hf, hl, _⟩ := h.disks
  exact ⟨d, hc, down28 w S d m L room fuse _ hd⟩
theorem RunOk.may (h : RunOk W w r room fuse K B F Y mb) : ∃ qo, w.cell? ⟨r, 3, none⟩ = some (.pointer qo) ∧ qo.isSome = mb.isSome := by
  obtain ⟨S, U, T, d, m, p, l, qv, L, v, X, dv, DX, z, hrun, hlog, hX, hdoc, hDX, hfu, hbd, hz, hmode⟩ := h
  have hc := (run_cells hrun.blk).2.2.2.1
  rcases hmode with ⟨h1, rfl, _⟩ | ⟨MF, MY, q, qd, QX, h1, rfl, _⟩
  · exact ⟨none, hc, by rw [h1]; rfl⟩
  · exact ⟨_, hc, by rw [h1]; rfl⟩
theorem RunOk.same (h : RunOk W w r room fuse K B F Y none) (hK : K ≤ 1000) (hB : B ≤ 1000000000) : ∃ l p, w.cell? ⟨r, 1, none⟩ = some (.pointer (some ⟨l, 0, none⟩)) ∧ w.cell? ⟨r, 2, none⟩ = some (.pointer (some ⟨p, 0, none⟩)) ∧ ∀ w', Below w.heap.size w w' → Calls Try.prog 37 #[.pointer (some ⟨l, 0, none⟩), .pointer (some ⟨p, 0, none⟩)] w' fun e w'' => e = .returned (.bool true) ∧ Below w'.heap.size w' w'' := by
  obtain ⟨S, U, T, d, m, p, l, qv, L, v, X, dv, DX, z, hrun, hlog, hX, hdoc, hDX, hfu, hbd, hz, hmode⟩ := h
  have hfl := hbd.fl hK hB
  obtain ⟨_, c1, c2, _⟩ := run_cells hrun.blk
  refine ⟨l, p, c1, c2, fun w' hb => ?_⟩
  have h1 := same37 w' T U l d p F z F v dv X DX Y Y _ _ (hlog.log.later hb) (hdoc.later hb) hX hDX (by omega) (by omega) (by omega) (by omega) (fun b hb => by have := (hbd.2.2 b hb).2; omega)
  rw [decide_eq_true (show (F : Int) = F ∧ Y = Y from ⟨rfl, rfl⟩)] at h1
  exact h1
theorem RunOk.ready (h : RunOk W w r room fuse K B F Y none) : Ready W w r room fuse K B F Y none F Y := by
  obtain ⟨S, U, T, d, m, p, l, qv, L, v, X, dv, DX, z, hrun, hlog, hX, hdoc, hDX, hfu, hbd, hz, hmode⟩ := h
  rcases hmode with ⟨_, h2, h3⟩ | ⟨MF, MY, q, qd, QX, h1, _⟩
  · exact ⟨S, U, d, m, p, _, qv, L, dv, DX, _, [], z, hrun, ⟨_, rfl⟩, hdoc, hDX, hfu, hbd, hbd, h3.openable, h3.good hz, .inr ⟨rfl, h3⟩, .inl ⟨rfl, h2, rfl, rfl⟩⟩
  · cases h1
theorem good_rst {L : List Ent} (h : Good L) (cs : List UInt8) : Good (rst cs L) := by
  induction L generalizing cs with
  | nil => exact fun e he => nomatch he
  | cons e L ih =>
    intro x hx
    rcases List.mem_cons.1 hx with rfl | hx
    · obtain ⟨h1, ⟨l, h2⟩, h3, h4, h5⟩ := h e (List.mem_cons_self ..)
      have hk := rstK_le e (cs.headD 0).toNat h4 h5
      refine ⟨h1, bytes_part ⟨l, h2⟩ _, ?_, Int.natCast_nonneg _, ?_⟩
      · show (e.bs.take _).length ≤ _
        rw [List.length_take]; omega
      · show ((rstK e (cs.headD 0).toNat : Nat) : Int) ≤ ((e.bs.take (rstK e (cs.headD 0).toNat)).length : Nat)
        rw [List.length_take]; omega
    · exact ih (fun e he => h e (List.mem_cons_of_mem _ he)) _ x hx
theorem RunOk.restart (h : RunOk W w r room fuse K B F Y mb) (hK : K ≤ 1000) (hB : B ≤ 1000000000) (src : Value) (cs : List UInt8) (hsrc : ∀ w', Below W.heap.size W w' → ∀ S, (∀ x, S x → W.heap.size ≤ x) → SrcAt w' S src (Lib.byteCells cs)) : ∃ d, w.cell? ⟨r, 0, none⟩ = some (.pointer (some ⟨d, 0, none⟩)) ∧ Calls Try.prog 23 #[.pointer (some ⟨d, 0, none⟩), src] w fun e w' => e = .returned (.tuple #[]) ∧ ∃ F' Y', Ready W w' r room (-1) K B F Y mb F' Y' := by
  obtain ⟨S, U, T, d, m, p, l, qv, L, v, X, dv, DX, z, hrun, hlog, hX, hdoc, hDX, hfu, hbd, hz, hmode⟩ := h
  have hfl := hbd.fl hK hB
  have hgood : Good L ∧ L.length ≤ 2 := by
    rcases hmode with ⟨_, _, h3⟩ | ⟨MF, MY, q, qd, QX, h1, _, _, _, _, h6⟩
    · exact ⟨h3.good hz, by have := (lens_clean h3).2; omega⟩
    · exact ⟨h6.good (by omega), (lens_torn h6 hfl.1).2⟩
  refine ⟨d, (run_cells hrun.blk).1, (Ytjkgcpbgacdgaaa.restart w S d m L room fuse _ src cs (fun k hk => (hrun.low k (.inl hk)).2) hrun.disk hgood.1 (by omega) (hsrc w hrun.below S fun k hk => (hrun.low k (.inl hk)).1)).mono ?_⟩
  rintro e w' ⟨rfl, ht, hd⟩
  refine ⟨rfl, ?_⟩
  have hrun2 := hrun.turn' ht hd
  have hdoc2 := hdoc.turn hrun ht
  have hfn : FuseOk (-1) := ⟨by omega, by omega⟩
  rcases hmode with ⟨h1, h2, h3⟩ | ⟨MF, MY, q, qd, QX, h1, h2, h3, h4, h5, h6⟩
  · have hc := rst_clean h3 cs
    exact ⟨F, Y, S, U, d, m, p, _, qv, _, dv, DX, _, [], z, hrun2, ⟨_, rfl⟩, hdoc2, hDX, hfn, hbd, hbd, hc.openable, hc.good hz, .inl rfl, .inl ⟨h1, h2, rfl, rfl⟩⟩
  · obtain ⟨F', Y', t, z2, hop, hch⟩ := rst_torn h6 cs
    have hbd' : Bd K B F' Y' := by
      rcases hch with ⟨rfl, rfl⟩ | ⟨rfl, rfl⟩
      · exact hbd
      · exact h5
    have hg : Good (rst cs L) := good_rst hgood.1 cs
    exact ⟨F', Y', S, U, d, m, p, _, qv, _, dv, DX, _, t, z2, hrun2, ⟨_, rfl⟩, hdoc2, hDX, hfn, hbd, hbd', hop, hg, .inl rfl, .inr ⟨MF, MY, q, qd, QX, h1, h2, h3.turn hrun ht, h4, h5, hch⟩⟩
end
end Go.Proofs.Ytjkgcpbgacdgaaa
/- A new run; rows that come in, read in later worlds. No condition. -/
namespace Go.Proofs.Ytjkgcpbgacdgaaa
open Go.RowKit
theorem ready_new {W w1 : World} {S : Nat → Prop} {d m : Nat} {room : Int} (hd : DiskAt w1 S d m [] room (-1) false) (hlow : ∀ k, S k → W.heap.size ≤ k ∧ k < w1.heap.size) (hb : Below W.heap.size W w1) :
    Ready W ((w1.alloc (docO 0 (.slice none 0 0) false)).alloc (runO d (.pointer none) w1.heap.size (.pointer none))) (w1.heap.size + 1) room (-1) 0 0 0 [] none 0 [] := by
  have hs := hb.size
  have s1 : (w1.alloc (docO 0 (.slice none 0 0) false)).heap.size = w1.heap.size + 1 := by simp
  have s2 : ((w1.alloc (docO 0 (.slice none 0 0) false)).alloc (runO d (.pointer none) w1.heap.size (.pointer none))).heap.size = w1.heap.size + 2 := by simp
  have hb1 : Below w1.heap.size w1 ((w1.alloc (docO 0 (.slice none 0 0) false)).alloc (runO d (.pointer none) w1.heap.size (.pointer none))) := ((Below.refl _ _).alloc (Nat.le_refl _) _).alloc (by rw [s1]; omega) _
  have hp : ((w1.alloc (docO 0 (.slice none 0 0) false)).alloc (runO d (.pointer none) w1.heap.size (.pointer none))).heap[w1.heap.size]? = some (docO 0 (.slice none 0 0) false) := by
    rw [heap_alloc_old _ _ (by rw [s1]; omega)]
    exact heap_alloc_new w1 _
  have hr : ((w1.alloc (docO 0 (.slice none 0 0) false)).alloc (runO d (.pointer none) w1.heap.size (.pointer none))).heap[w1.heap.size + 1]? = some (runO d (.pointer none) w1.heap.size (.pointer none)) := by
    have := heap_alloc_new (w1.alloc (docO 0 (.slice none 0 0) false)) (runO d (.pointer none) w1.heap.size (.pointer none))
    rw [s1] at this
    exact this
  have hc : Clean [] 0 [] 0 := .inl ⟨rfl, rfl, rfl, rfl⟩
  refine ⟨S, fun k => k = w1.heap.size, d, m, w1.heap.size, .pointer none, .pointer none, [], .slice none 0 0, [], false, [], 0, ⟨hr, hd.later hb1, fun k hk => ?_, fun e => by omega, fun k hk => ?_, hb.trans (hb1.mono hs)⟩, ⟨none, rfl⟩, ⟨hp, ⟨.inl ⟨rfl, rfl⟩, fun x hx => nomatch hx⟩, (fun x hx => nomatch hx), (fun a n c e => by cases e; exact Nat.le_refl _), rfl, fun g hg => ?_⟩, rfl, ⟨by omega, by omega⟩, ⟨Nat.le_refl _, Nat.le_refl _, fun b hb => nomatch hb⟩, ⟨Nat.le_refl _, Nat.le_refl _, fun b hb => nomatch hb⟩, hc.openable, hc.good (by omega), .inl rfl, .inl ⟨rfl, rfl, rfl, rfl⟩⟩
  · have := (hlow k hk).2; exact ⟨fun e => by omega, by omega⟩
  · rw [s2]
    rcases hk with hk | hk | hk
    · have := hlow k hk; omega
    · omega
    · omega
  · rcases hg with hg | ⟨x, hx, _⟩
    · cases hg
    · cases hx
theorem src_later {W w' : World} {S : Nat → Prop} {v : Value} {xs : List Value} (h : SrcAt W S v xs) (hb : Below W.heap.size W w') : SrcAt w' S v xs := by
  rcases h with h1 | ⟨ad, c, h1, h2, h3, h4, h5, h6⟩
  · exact .inl h1
  · refine .inr ⟨ad, c, h1, h2, fun hne => Nat.lt_of_lt_of_le (h3 hne) hb.size, h4, fun j u hj => ?_, h6⟩
    have h7 := h5 j u hj
    rw [hb.cell (World.block_lt_of_cell? W _ h7)]
    exact h7
theorem src_nil (W : World) : ∀ w', Below W.heap.size W w' → ∀ S, (∀ x, S x → W.heap.size ≤ x) → SrcAt w' S (.slice none 0 0) (Lib.byteCells []) := fun _ _ _ _ => .inl ⟨rfl, rfl⟩
end Go.Proofs.Ytjkgcpbgacdgaaa
