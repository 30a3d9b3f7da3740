/- Rows of bytes that a loop turns in place. No condition. -/
import Derived.Test.YtjkgcpbgacdgaaaR
namespace Go.Proofs.Ytjkgcpbgacdgaaa
open Go.RowKit Go.Sort
theorem Loose.of_row {w : World} {base n : Nat} {v : Value} {xs : List Value} (h : w.ownsRow base 5 1 v n xs) : Loose w 5 v xs := by
  obtain ⟨h0, h⟩ := h
  rcases h with ⟨rfl, rfl⟩ | ⟨g, cap, cur, rfl, _, h1, h2, h3, h4, h5⟩
  · have : xs = [] := List.length_eq_zero_iff.1 (by omega)
    exact .inl ⟨rfl, this⟩
  · have : n = xs.length := by omega
    subst this
    exact .inr ⟨g, cap, cur, rfl, h1, h2, h3, by omega, by rw [← Nat.mul_one xs.length]; exact h5⟩
def Ints (n : Nat) (xs : List Value) : Prop := xs.length = n ∧ ∀ i, i < n → ∃ z : Int, 0 ≤ z ∧ z < 256 ∧ xs[i]? = some (.int .u8 z)
theorem ints_bytes (l : List UInt8) : Ints l.length (Lib.byteCells l) := by
  refine ⟨Lib.byteCells_length l, fun i hi => ⟨(l[i]).toNat, by omega, by have := (l[i]).toNat_lt; omega, by simp [Lib.byteCells, hi]⟩⟩
/-- A row whose bytes are being turned; nothing else turns. -/
def Inc (v : Value) (n : Nat) (w0 wr : World) : Prop := ∃ xs, Ints n xs ∧ Loose wr 5 v xs ∧ Turns (fun k => v.ownBlock = some k) w0 wr ∧ wr.heap.size = w0.heap.size
theorem Inc.start {w : World} {v : Value} {l : List UInt8} (h : Loose w 5 v (Lib.byteCells l)) : Inc v l.length w w := ⟨_, ints_bytes l, h, Turns.refl _ _, rfl⟩
theorem Inc.at {v : Value} {n : Nat} {w0 wr : World} (h : Inc v n w0 wr) {i : Nat} (hi : i < n) : ∃ (g cap : Nat) (z : Int), v = .slice (some ⟨g, 0, none⟩) n cap ∧ 0 ≤ z ∧ z < 256 ∧ wr.cell? ⟨g, i, none⟩ = some (.int .u8 z) ∧ wr.frozen? ⟨g, i, none⟩ = false ∧
    ∀ y : Int, 0 ≤ y → y < 256 → Inc v n w0 (wr.setCell ⟨g, i, none⟩ (.int .u8 y)) := by
  obtain ⟨xs, ⟨hl, hx⟩, hL, ht, hsz⟩ := h
  obtain ⟨z, z0, z1, hz⟩ := hx i hi
  rcases hL with ⟨_, h⟩ | ⟨g, cap, cur, rfl, hg, h1, h2, h3, h4⟩
  · rw [h] at hl; simp at hl; omega
  · rw [hl] at h1
    have h4' : cur.toList.take n = xs := by rw [← hl]; exact h4
    refine ⟨g, cap, z, by rw [hl], z0, z1, ?_, ?_, ?_⟩
    · have h6 : xs[i]? = cur[i]? := by
        rw [← h4', List.getElem?_take_of_lt hi]; simp
      rw [h6] at hz
      simp [World.cell?, hg, hz]
    · simp [World.frozen?, hg]
    · intro y y0 y1
      have hset := heap_setCell_same wr g i cur 5 (.int .u8 y) hg
      have o := onlyD_set wr g i (.int .u8 y)
      refine ⟨xs.set i (.int .u8 y), ⟨by simp [hl], fun j hj => ?_⟩, .inr ⟨g, cap, _, by simp, hset, by simp [hl]; exact h1, h2, by simp; exact h3, ?_⟩, ht.trans (o.turns (S := fun k => (Value.slice (some ⟨g, 0, none⟩) xs.length cap).ownBlock = some k) rfl) (fun _ h => .inl h), by rw [o.2.2.2.1, hsz]⟩
      · by_cases hji : i = j
        · subst hji
          exact ⟨y, y0, y1, by simp [hl, hi]⟩
        · obtain ⟨u, u0, u1, hu⟩ := hx j hj
          exact ⟨u, u0, u1, by rw [List.getElem?_set_ne hji]; exact hu⟩
      · simp only [List.length_set, Array.toList_setIfInBounds]
        rw [hl, List.take_set, h4']
theorem wpList_append_src {P : Program} {w : World} {ops : Array Oper} {rest : List Oper} {o : Oper} {a : Act} {Q : Exit → Act → World → Prop} (hgd : o.guard = none) (s x : Operand) (t : TypeId)
    (ho : o.op = .call { callee := .builtin .append, args := #[s, x], argTypes := #[t, t] }) (e : TypeId) (i : TypeInfo) (z : Value) (ht : P.underlying t = some (.slice e)) (hi : P.info? e = some i) (hz : i.zero = some z)
    (hsize : i.size = 1) (hby : i.bytes = 1) (hzs : z.cells.size = 1) (v : Value) (xs : List Value) (hsv : a.eval s = v) (hown : Loose w e v xs) (src : Value) (news : List Value) (hx : a.eval x = src) (hs : Src w src news) (hb : xs.length + news.length ≤ 140737488355328)
    (h : ∀ v' w', Loose w' e v' (xs ++ news) → w.grownBy w' v.ownBlock → (v'.ownBlock = v.ownBlock ∨ v'.ownBlock = some w.heap.size) → wpList P ops Q rest (a.put o.dst v') w') : wpList P ops Q (o :: rest) a w :=
  wpList_plain hgd fun _ hK => wp_append_lo w s x t ho e i z ht hi hz hsize hby hzs v xs hsv hown src news hx hs hb fun v' w' h1 h2 h3 => hK _ _ (h v' w' h1 h2 h3)
end Go.Proofs.Ytjkgcpbgacdgaaa
