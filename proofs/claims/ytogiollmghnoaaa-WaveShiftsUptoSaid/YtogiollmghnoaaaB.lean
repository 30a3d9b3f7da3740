/- A slice of floats that came in, read; and the law of the sums: the walk of WaveSums. No condition. -/
import Derived.Test.YtogiollmghnoaaaA
import Derived.Deep.Slices
namespace Go.Proofs.Ytogiollmghnoaaa
open Go.RowKit Go.Deep Go.WideShapes
def FloatsAt (w : World) (a : Option Addr) (len : Nat) (zs : List Nat) : Prop := ∀ i, i < len → ∃ b off, a = some ⟨b, off, none⟩ ∧ b < w.heap.size ∧ w.cell? ⟨b, off + i, none⟩ = some (.float .f64 (zs.getD i 0))
theorem cell_lt {w : World} {a : Addr} {v : Value} (h : w.cell? a = some v) : a.block < w.heap.size := by
  refine Nat.lt_of_not_le fun hle => ?_
  have : w.heap[a.block]? = none := by simp; omega
  unfold World.cell? at h
  rw [this] at h
  split at h <;> simp_all
theorem trod_float {H : Type} {enc : TypeId × Value → H} {P : Program} {w : World} {base : Nat} {spare : Nat → Bool} {held : Bool} {t : TypeId} {k : FloatKind} {fuel : Nat} {cs : List Value} {x : DataW H × List MemPlace}
    (ht : P.underlying t = some (.float k)) (h : DataW.trod enc P w base spare held fuel t cs = some x) : ∃ n, cs = [.float k n] ∧ x = (.lit (.float k n), []) ∧ (Lit.float k n).wf = true := by
  cases fuel with
  | zero => simp [DataW.trod] at h
  | succ n =>
    unfold DataW.trod at h
    rw [ht] at h
    split at h <;> simp_all
theorem floats_open {H : Type} {enc : TypeId × Value → H} {W : World} {P : Program} {base : Nat} {t e : TypeId} {v : Value} {d : DataW H} {p : List MemPlace} (ht : P.underlying t = some (.slice e)) (he : P.underlying e = some (.float .f64)) (hc : P.cellsOf e = 1)
    (h : DataW.Trod enc P W 0 (fun _ => true) true t v d p) (o : Value.okWide P W .any base t v) :
    ∃ a len cap zs, v = .slice a len cap ∧ len < 2 ^ 63 ∧ FloatsAt W a len zs ∧ ∀ i, zs.getD i 0 < 2 ^ 64 := by
  obtain ⟨a, len, cap, rfl⟩ := okWide_slice ht o
  obtain ⟨fuel, hf⟩ := h
  rcases open_slice1 ht hc hf with ⟨hcs, _⟩ | ⟨b, l, c, m, n, V, D, Pl, hcs, _, hl, hm, hmm, _, hx⟩
  · simp [Value.cells] at hcs
    obtain ⟨rfl, rfl, rfl⟩ := hcs
    exact ⟨none, 0, 0, [], rfl, by omega, fun i hi => absurd hi (by omega), fun i => by simp⟩
  · simp [Value.cells] at hcs
    obtain ⟨rfl, rfl, rfl⟩ := hcs
    simp only [if_true] at hmm
    subst hmm
    have hy : ∀ i, i < m → ∃ z : Nat, V i = .float .f64 z ∧ z < 2 ^ 64 := by
      intro i hi
      obtain ⟨z, h1, _, h3⟩ := trod_float he (hx i hi).2
      refine ⟨z, by simpa using h1, ?_⟩
      simpa [Lit.wf] using h3
    obtain ⟨f, hf'⟩ := choose_lt hy
    have hget : ∀ i, ((List.range m).map f).getD i 0 = if i < m then f i else 0 := by
      intro i
      by_cases h : i < m <;> simp [List.getD, h]
    refine ⟨_, len, m, (List.range m).map f, rfl, ?_, ?_, ?_⟩
    · unfold maxLen at hm; omega
    · intro i hi
      have h1 := (hx i (by omega)).1
      rw [(hf' i (by omega)).1] at h1
      have hsp : b.spot = none := World.cell?_spot (by have := (hx 0 (by omega)).1; simpa [Addr.add] using this)
      obtain ⟨bb, off, spot⟩ := b
      simp only at hsp
      subst hsp
      refine ⟨bb, off, rfl, ?_, ?_⟩
      · have := cell_lt h1; unfold Addr.add at this; split at this <;> exact this
      · rw [hget, if_pos (by omega), ← h1]
        congr 1
        unfold Addr.add
        split <;> simp_all
    · intro i
      rw [hget]
      split
      · rename_i h; exact (hf' i h).2
      · exact Nat.two_pow_pos 64
theorem waveSums_walk (H : Type) (enc : TypeId × Value → H) (W : World) (base : Nat) (v0 : Value) (d0 : DataW H) (p0 : List MemPlace) (h0 : DataW.Trod enc Try.prog W 0 (fun _ => true) true 22 v0 d0 p0) (o0 : Value.okWide Try.prog W .any base 22 v0) :
    Calls Try.prog 3 #[v0] W fun e w' => e = .returned (.bool true) ∧ Below W.heap.size W w' := by
  obtain ⟨a, len, cap, zs, rfl, hlen, hat, hz⟩ := floats_open Try.underlying22 Try.underlying29 (by kernel_rfl) h0 o0
  have HAT := Lib.hid hat
  have HZ := Lib.hid hz
  clear h0 o0 hat hz
  go_enter Try.func3, Try.ntmps3
  go_wp2_with fail
  refine (awake _).mono ?_
  rintro e w1 ⟨rfl, hb⟩
  have HB := Lib.hid hb
  clear hb
  go_wp2_with fail
  have hat1 : ∀ i, i < len → ∃ b off, a = some ⟨b, off, none⟩ ∧ w1.cell? ⟨b, off + i, none⟩ = some (.float .f64 (zs.getD i 0)) := fun i hi => by
    obtain ⟨b, off, h1, h2, h3⟩ := HAT.out i hi
    exact ⟨b, off, h1, by rw [← h3]; exact HB.out.cell h2⟩
  have HAT1 := Lib.hid hat1
  clear hat1
  refine (wsum a len cap zs _ hlen HAT1.out).mono ?_
  rintro e w2 ⟨re, im, rfl, hs, n, rfl⟩
  have HS := Lib.hid hs
  clear hs
  go_wp2_with fail
  refine (rsum a len cap zs (w1.drewN n) hlen HZ.out HAT1.out).mono ?_
  rintro e w2 ⟨re', im', rfl, hs, n', rfl⟩
  have HS' := Lib.hid hs
  clear hs
  go_wp2_with fail
  refine (rSame _ _ _ _ _ (SumR_sim _ _ _ _ _ HS.out HS'.out).1 (SumR_sim _ _ _ _ _ HS.out HS'.out).2).mono ?_
  rintro e w3 ⟨rfl, rfl⟩
  go_wp2_with fail
  go_ret
  exact ⟨rfl, below_drewN HB.out _⟩
end Go.Proofs.Ytogiollmghnoaaa
