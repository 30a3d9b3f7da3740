/- All tokens, by the program. No condition. -/
import Derived.Test.YtcmdcdjclmpncaaK
import Derived.OneCell
namespace Go.Proofs.Ytcmdcdjclmpncaa
open Go.RowKit
abbrev Tok := Int × ByteArray × Int
/-- The tokens of a text of n bytes, of which l is left; or the place of the first that is none. -/
def lexL (n : Nat) (acc : List Tok) (l : List UInt8) : Except Nat (List Tok) :=
  match h : l.dropWhile blankB with
  | [] => .ok acc
  | c :: r => match h2 : one (c :: r) with
    | none => .error (n - (c :: r).length)
    | some (k, t, q) => lexL n (acc ++ [(k, ofL t, ((n - (c :: r).length : Nat) : Int))]) q
termination_by l.length
decreasing_by
  have h1 := one_len h2
  have h3 := dw_len blankB l
  rw [h] at h3
  omega
theorem lex_end {n : Nat} {acc : List Tok} {l : List UInt8} (h : l.dropWhile blankB = []) : lexL n acc l = .ok acc := by
  rw [lexL]
  split
  · rfl
  · rename_i h'; rw [h] at h'; cases h'
theorem lex_bad {n : Nat} {acc : List Tok} {l r : List UInt8} {c : UInt8} (h : l.dropWhile blankB = c :: r) (h2 : one (c :: r) = none) : lexL n acc l = .error (n - (c :: r).length) := by
  rw [lexL]
  split
  · rename_i h'; rw [h] at h'; cases h'
  · rename_i h'
    rw [h] at h'
    cases h'
    split
    · rfl
    · rename_i h''; rw [h2] at h''; cases h''
theorem lex_step {n : Nat} {acc : List Tok} {l r t q : List UInt8} {c : UInt8} {k : Int} (h : l.dropWhile blankB = c :: r) (h2 : one (c :: r) = some (k, t, q)) : lexL n acc l = lexL n (acc ++ [(k, ofL t, ((n - (c :: r).length : Nat) : Int))]) q := by
  rw [lexL]
  split
  · rename_i h'; rw [h] at h'; cases h'
  · rename_i h'
    rw [h] at h'
    cases h'
    split
    · rename_i h''; rw [h2] at h''; cases h''
    · rename_i h''
      rw [h2] at h''
      cases h''
      rfl
def tokCells (L : List Tok) : List Value := L.flatMap fun p => [.int .i64 p.1, .string p.2.1, .int .i64 p.2.2]
theorem tokCells_snoc (L : List Tok) (p : Tok) : tokCells (L ++ [p]) = tokCells L ++ [.int .i64 p.1, .string p.2.1, .int .i64 p.2.2] := by simp [tokCells]
theorem tokCells_len (L : List Tok) : (tokCells L).length = L.length * 3 := by
  induction L with
  | nil => rfl
  | cons x L ih => simp [tokCells] at *; omega
theorem info34 : (Try.prog.info? 34).map (fun i => (i.zero, i.size, i.bytes)) = some (some (.agg #[.int .i64 0, .string ⟨#[]⟩, .int .i64 0]), 3, 32) := by kernel_rfl
def tokAt (L : List Tok) (i : Nat) : Tok := L.getD i (0, ⟨#[]⟩, 0)
/-- A slice of tokens in memory. -/
def ToksAt (w : World) (a : Option Addr) (L : List Tok) : Prop :=
  ∀ i, i < L.length → ∃ b off, a = some ⟨b, off, none⟩ ∧ b < w.heap.size ∧ w.cell? ⟨b, off + i * 3, none⟩ = some (.int .i64 (tokAt L i).1) ∧ w.cell? ⟨b, off + i * 3 + 1, none⟩ = some (.string (tokAt L i).2.1) ∧ w.cell? ⟨b, off + i * 3 + 2, none⟩ = some (.int .i64 (tokAt L i).2.2)
theorem ToksAt.later {w w' : World} {a : Option Addr} {L : List Tok} (h : ToksAt w a L) (hb : Below w.heap.size w w') : ToksAt w' a L := fun i hi => by
  obtain ⟨b, off, h1, h2, h3, h4, h5⟩ := h i hi
  exact ⟨b, off, h1, Nat.lt_of_lt_of_le h2 hb.size, by rw [← h3]; exact hb.cell h2, by rw [← h4]; exact hb.cell h2, by rw [← h5]; exact hb.cell h2⟩
theorem tokCells_get : ∀ (L : List Tok) (i : Nat), i < L.length → (tokCells L)[i * 3]? = some (.int .i64 (tokAt L i).1) ∧ (tokCells L)[i * 3 + 1]? = some (.string (tokAt L i).2.1) ∧ (tokCells L)[i * 3 + 2]? = some (.int .i64 (tokAt L i).2.2)
  | [], i, h => by simp at h
  | p :: L, 0, _ => by simp [tokCells, tokAt]
  | p :: L, i + 1, h => by
    have ih := tokCells_get L i (by simpa using h)
    have e : tokCells (p :: L) = [.int .i64 p.1, .string p.2.1, .int .i64 p.2.2] ++ tokCells L := by simp [tokCells]
    have e1 : tokAt (p :: L) (i + 1) = tokAt L i := by simp [tokAt]
    rw [e, e1, List.getElem?_append_right (by simp; omega), List.getElem?_append_right (by simp; omega), List.getElem?_append_right (by simp; omega)]
    rw [show (i + 1) * 3 - [Value.int .i64 p.1, Value.string p.2.1, Value.int .i64 p.2.2].length = i * 3 by simp; omega, show (i + 1) * 3 + 1 - [Value.int .i64 p.1, Value.string p.2.1, Value.int .i64 p.2.2].length = i * 3 + 1 by simp; omega, show (i + 1) * 3 + 2 - [Value.int .i64 p.1, Value.string p.2.1, Value.int .i64 p.2.2].length = i * 3 + 2 by simp; omega]
    exact ih
theorem own_slice {w : World} {base e : Nat} {v : Value} {L : List Tok} (h : w.ownsRow base e 3 v L.length (tokCells L)) : ∃ a cap, v = .slice a L.length cap := by
  rcases h.2 with ⟨rfl, hx⟩ | ⟨g, cap, cur, rfl, _⟩
  · exact ⟨none, 0, by rw [hx]⟩
  · exact ⟨_, _, rfl⟩
theorem own_toks {w : World} {base cap e : Nat} {a : Option Addr} {L : List Tok} (h : w.ownsRow base e 3 (.slice a L.length cap) L.length (tokCells L)) : ToksAt w a L := by
  intro i hi
  obtain ⟨g, cap', hv, _, hlt⟩ := h.form (by omega)
  cases hv
  obtain ⟨h1, h2, h3⟩ := tokCells_get L i hi
  have c1 := h.cellAt (i * 3) (by omega)
  have c2 := h.cellAt (i * 3 + 1) (by omega)
  have c3 := h.cellAt (i * 3 + 2) (by omega)
  exact ⟨g, 0, rfl, hlt, by rw [Nat.zero_add, c1, h1], by rw [Nat.zero_add, c2, h2], by rw [Nat.zero_add, c3, h3]⟩
def finT (o : Except Nat (List Tok)) : Except Int (List Tok) × Int := match o with
  | .ok L => (.ok L, 0)
  | .error p => (.error (p : Nat), 2)
def tokens (s : List UInt8) : Except Int (List Tok) × Int :=
  if 65536 < s.length then (.error 0, 4) else finT (lexL s.length [] s)
def TokPost (s : List UInt8) (w : World) (e : Ending) (w' : World) : Prop :=
  Below w.heap.size w w' ∧ match tokens s with
    | (.ok L, er) => ∃ a cap, e = .returned (.tuple #[.slice a L.length cap, .int .i64 0, .int .i64 er]) ∧ ToksAt w' a L
    | (.error p, er) => e = .returned (.tuple #[.slice none 0 0, .int .i64 p, .int .i64 er])
def MemT (s : ByteArray) (k : Nat) (acc : List Tok) (v : Value) (w wr : World) : Prop :=
  wr.heap[w.heap.size]? = some (.cells #[.string s, .int .i64 (k : Int)] 46 (0, 0)) ∧ wr.ownsRow (w.heap.size + 1) 34 3 v acc.length (tokCells acc) ∧ Below w.heap.size w wr
def InTok (s : ByteArray) (w : World) (v : Value) (wr : World) : Prop :=
  ∃ (k : Nat) (acc : List Tok), k ≤ s.size ∧ acc.length ≤ k ∧ lexL s.size [] s.data.toList = lexL s.size acc (s.data.toList.drop k) ∧ MemT s k acc v w wr
theorem nextV_cases {l : List UInt8} {n k : Nat} {kind at_ : Int} {text : ByteArray} {ok : Bool} (h : NextV l n kind text at_ ok k) :
    (l = [] ∧ kind = 0 ∧ ok = true) ∨ ∃ c r, l = c :: r ∧ at_ = ((n - (c :: r).length : Nat) : Int) ∧ ((one (c :: r) = none ∧ ok = false) ∨ ∃ tx q, one (c :: r) = some (kind, tx, q) ∧ text = ofL tx ∧ ok = true ∧ k = n - q.length) := by
  cases l with
  | nil => exact .inl ⟨rfl, h⟩
  | cons c r =>
    refine .inr ⟨c, r, rfl, h.1, ?_⟩
    have h2 := h.2
    cases ho : one (c :: r) with
    | none => rw [ho] at h2; exact .inl ⟨rfl, h2⟩
    | some p =>
      obtain ⟨kd, tx, q⟩ := p
      rw [ho] at h2
      obtain ⟨rfl, h3, h4, h5⟩ := h2
      exact .inr ⟨tx, q, rfl, h3, h4, h5⟩
theorem quoted_suffix : ∀ (n : Nat) {q : UInt8} {acc l b r : List UInt8}, l.length ≤ n → quotedL q acc l = some (b, r) → ∃ p, l = p ++ r
  | n, q, acc, [], b, r, _, h => by rw [quoted_nil] at h; cases h
  | 0, q, acc, c :: l, b, r, hn, h => by simp at hn
  | n + 1, q, acc, c :: l, b, r, hn, h => by
    by_cases hq : c = q
    · subst hq
      rw [quoted_end] at h
      cases h
      exact ⟨[c], rfl⟩
    · by_cases h92 : c.toNat = 92
      · cases l with
        | nil => rw [quoted_cut _ _ _ hq] at h; cases h
        | cons d l =>
          by_cases hd : d = q ∨ d.toNat = 92
          · rw [quoted_esc _ _ _ _ _ hq h92 hd] at h
            obtain ⟨p, hp⟩ := quoted_suffix n (by simp at hn; omega) h
            exact ⟨c :: d :: p, by rw [hp]; rfl⟩
          · rw [quoted_bad _ _ _ _ _ hq h92 hd] at h; cases h
      · rw [quoted_plain _ _ _ _ hq h92] at h
        obtain ⟨p, hp⟩ := quoted_suffix n (by simp at hn; omega) h
        exact ⟨c :: p, by rw [hp]; rfl⟩
theorem numR_suffix : ∀ (p : Bool) (l : List UInt8), ∃ q, l = q ++ numR p l
  | _, [] => ⟨[], rfl⟩
  | p, c :: r => by
    obtain ⟨q1, h1⟩ := numR_suffix p r
    obtain ⟨q2, h2⟩ := numR_suffix true r
    unfold numR
    split
    · exact ⟨c :: q1, by rw [List.cons_append, ← h1]⟩
    · split
      · exact ⟨c :: q2, by rw [List.cons_append, ← h2]⟩
      · exact ⟨[], rfl⟩
theorem dw_suffix (p : UInt8 → Bool) (l : List UInt8) : ∃ q, l = q ++ l.dropWhile p := ⟨l.takeWhile p, (List.takeWhile_append_dropWhile).symm⟩
theorem one_suffix {c : UInt8} {r : List UInt8} {k : Int} {t q : List UInt8} (h : one (c :: r) = some (k, t, q)) : ∃ p, c :: r = p ++ q := by
  have h : one1 c r = some (k, t, q) := h
  unfold one1 at h
  obtain ⟨p1, h1⟩ := dw_suffix wordB r
  obtain ⟨p2, h2⟩ := numR_suffix false r
  split at h
  · cases h; exact ⟨c :: p1, by rw [List.cons_append, ← h1]⟩
  · split at h
    · split at h
      · cases h; exact ⟨c :: p2, by rw [List.cons_append, ← h2]⟩
      · cases h
    · split at h
      · rw [Option.map_eq_some_iff] at h
        obtain ⟨p, hp, he⟩ := h
        cases he
        obtain ⟨z, hz⟩ := quoted_suffix _ (Nat.le_refl _) hp
        exact ⟨c :: z, by rw [List.cons_append, ← hz]⟩
      · split at h
        · cases h; exact ⟨c :: r.take 1, by rw [List.cons_append, List.take_append_drop]⟩
        · split at h
          · cases h; exact ⟨[c], rfl⟩
          · cases h
theorem one_kind {c : UInt8} {r : List UInt8} {k : Int} {t q : List UInt8} (h : one (c :: r) = some (k, t, q)) : 1 ≤ k := by
  have h : one1 c r = some (k, t, q) := h
  unfold one1 at h
  split at h
  · cases h; decide
  · split at h
    · split at h
      · cases h; decide
      · cases h
    · split at h
      · rw [Option.map_eq_some_iff] at h
        obtain ⟨p, hp, he⟩ := h
        cases he
        split <;> decide
      · split at h
        · cases h; decide
        · split at h
          · cases h; decide
          · cases h
/-- What is left behind a token is what stands behind its place. -/
theorem rest_is {s : ByteArray} {k : Nat} {c : UInt8} {r t q : List UInt8} {kd : Int} (h : (s.data.toList.drop k).dropWhile blankB = c :: r) (h2 : one (c :: r) = some (kd, t, q)) : s.data.toList.drop (s.size - q.length) = q ∧ k < s.size - q.length := by
  obtain ⟨p1, h1⟩ := dw_suffix blankB (s.data.toList.drop k)
  obtain ⟨p2, h3⟩ := one_suffix h2
  rw [h, h3] at h1
  have hl := one_len h2
  have hd := dw_len blankB (s.data.toList.drop k)
  rw [h] at hd
  have e : s.data.toList = s.data.toList.take k ++ (p1 ++ (p2 ++ q)) := by rw [← h1, List.take_append_drop]
  have hsz := congrArg List.length h1
  simp at hsz hd hl
  have hs2 := congrArg List.length e
  simp at hs2
  have hkk : k ≤ s.size := by omega
  refine ⟨?_, by omega⟩
  have e2 : s.data.toList = (s.data.toList.take k ++ p1 ++ p2) ++ q := by simpa using e
  have e3 : s.size - q.length = (s.data.toList.take k ++ p1 ++ p2).length := by
    simp
    omega
  rw [e3]
  exact (congrArg (List.drop _) e2).trans List.drop_left
end Go.Proofs.Ytcmdcdjclmpncaa
