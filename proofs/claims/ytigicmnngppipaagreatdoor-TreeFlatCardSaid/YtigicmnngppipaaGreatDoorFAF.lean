/- Several texts of this proof, laid together. Conditions: as each says. -/
import Derived.Test.YtigicmnngppipaaGreatDoorFAE
import Derived.OneCell
import Derived.Test.YtigicmnngppipaaGreatDoorRows
import Derived.WalkKit
import Derived.ProofKit
import Derived.OpenShut
import Derived.Below
import Derived.WalkLawsBesides
import Derived.WalkSpells
import Derived.Deep.Draws
import Derived.Deep.QuietTactic
import Derived.BigQuiet
import Derived.Deep.RegionHeld3
import Derived.Deep.AppendLies
import Derived.Laws.IdiomStrings
import Derived.Lib.Hide
import Derived.IntWalk
import Derived.Lib.ParseIntB
/- All tokens, by the program. No condition. -/
namespace Go.Proofs.YtigicmnngppipaaGreatDoor.Lx
open Go.RowKit
abbrev Tok := Int × ByteArray × Int
/-- The tokens of a text of n bytes, of which l is left; or the place of the first that is none. -/
def lexL (n : Nat) (acc : List Tok) (l : List UInt8) : Except Nat (List Tok) :=
  match _h : l.dropWhile blankB with
  | [] => .ok acc
  | c :: r => match _h2 : one (c :: r) with
    | none => .error (n - (c :: r).length)
    | some (k, t, q) => lexL n (acc ++ [(k, ofL t, ((n - (c :: r).length : Nat) : Int))]) q
termination_by l.length
decreasing_by
  have h1 := one_len _h2
  have h3 := dw_len blankB l
  rw [_h] at h3
  omega
theorem lex_end {n : Nat} {acc : List Tok} {l : List UInt8} (h : l.dropWhile blankB = []) : lexL n acc l = .ok acc := by
  rw [lexL]
  split
  · rfl
  · rename_i h'; rw [h] at h'; cases h'
theorem lex_bad {n : Nat} {acc : List Tok} {l r : List UInt8} {c : UInt8} (h : l.dropWhile blankB = c :: r) (h2 : one (c :: r) = none) : lexL n acc l = .error (n - (c :: r).length) := by
  rw [lexL]
  split
  · rename_i h'; rw [h] at h'; cases h'
  · rename_i h'
    rw [h] at h'
    cases h'
    split
    · rfl
    · rename_i h''; rw [h2] at h''; cases h''
theorem lex_step {n : Nat} {acc : List Tok} {l r t q : List UInt8} {c : UInt8} {k : Int} (h : l.dropWhile blankB = c :: r) (h2 : one (c :: r) = some (k, t, q)) : lexL n acc l = lexL n (acc ++ [(k, ofL t, ((n - (c :: r).length : Nat) : Int))]) q := by
  rw [lexL]
  split
  · rename_i h'; rw [h] at h'; cases h'
  · rename_i h'
    rw [h] at h'
    cases h'
    split
    · rename_i h''; rw [h2] at h''; cases h''
    · rename_i h''
      rw [h2] at h''
      cases h''
      rfl
def tokCells (L : List Tok) : List Value := L.flatMap fun p => [.int .i64 p.1, .string p.2.1, .int .i64 p.2.2]
theorem tokCells_snoc (L : List Tok) (p : Tok) : tokCells (L ++ [p]) = tokCells L ++ [.int .i64 p.1, .string p.2.1, .int .i64 p.2.2] := by simp [tokCells]
theorem tokCells_len (L : List Tok) : (tokCells L).length = L.length * 3 := by
  induction L with
  | nil => rfl
  | cons x L ih => simp [tokCells] at *; omega
theorem info34 : (Tryz.prog.info? 96).map (fun i => (i.zero, i.size, i.bytes)) = some (some (.agg #[.int .i64 0, .string ⟨#[]⟩, .int .i64 0]), 3, 32) := by kernel_rfl
def tokAt (L : List Tok) (i : Nat) : Tok := L.getD i (0, ⟨#[]⟩, 0)
/-- A slice of tokens in memory. -/
def ToksAt (w : World) (a : Option Addr) (L : List Tok) : Prop :=
  ∀ i, i < L.length → ∃ b off, a = some ⟨b, off, none⟩ ∧ b < w.heap.size ∧ w.cell? ⟨b, off + i * 3, none⟩ = some (.int .i64 (tokAt L i).1) ∧ w.cell? ⟨b, off + i * 3 + 1, none⟩ = some (.string (tokAt L i).2.1) ∧ w.cell? ⟨b, off + i * 3 + 2, none⟩ = some (.int .i64 (tokAt L i).2.2)
theorem ToksAt.later {w w' : World} {a : Option Addr} {L : List Tok} (h : ToksAt w a L) (hb : Below w.heap.size w w') : ToksAt w' a L := fun i hi => by
  obtain ⟨b, off, h1, h2, h3, h4, h5⟩ := h i hi
  exact ⟨b, off, h1, Nat.lt_of_lt_of_le h2 hb.size, by rw [← h3]; exact hb.cell h2, by rw [← h4]; exact hb.cell h2, by rw [← h5]; exact hb.cell h2⟩
theorem tokCells_get : ∀ (L : List Tok) (i : Nat), i < L.length → (tokCells L)[i * 3]? = some (.int .i64 (tokAt L i).1) ∧ (tokCells L)[i * 3 + 1]? = some (.string (tokAt L i).2.1) ∧ (tokCells L)[i * 3 + 2]? = some (.int .i64 (tokAt L i).2.2)
  | [], i, h => by simp at h
  | p :: L, 0, _ => by simp [tokCells, tokAt]
  | p :: L, i + 1, h => by
    have ih := tokCells_get L i (by simpa using h)
    have e : tokCells (p :: L) = [.int .i64 p.1, .string p.2.1, .int .i64 p.2.2] ++ tokCells L := by simp [tokCells]
    have e1 : tokAt (p :: L) (i + 1) = tokAt L i := by simp [tokAt]
    rw [e, e1, List.getElem?_append_right (by simp; omega), List.getElem?_append_right (by simp; omega), List.getElem?_append_right (by simp; omega)]
    rw [show (i + 1) * 3 - [Value.int .i64 p.1, Value.string p.2.1, Value.int .i64 p.2.2].length = i * 3 by simp; omega, show (i + 1) * 3 + 1 - [Value.int .i64 p.1, Value.string p.2.1, Value.int .i64 p.2.2].length = i * 3 + 1 by simp; omega, show (i + 1) * 3 + 2 - [Value.int .i64 p.1, Value.string p.2.1, Value.int .i64 p.2.2].length = i * 3 + 2 by simp; omega]
    exact ih
theorem own_slice {w : World} {base e : Nat} {v : Value} {L : List Tok} (h : w.ownsRow base e 3 v L.length (tokCells L)) : ∃ a cap, v = .slice a L.length cap := by
  rcases h.2 with ⟨rfl, hx⟩ | ⟨g, cap, cur, rfl, _⟩
  · exact ⟨none, 0, by rw [hx]⟩
  · exact ⟨_, _, rfl⟩
theorem own_toks {w : World} {base cap e : Nat} {a : Option Addr} {L : List Tok} (h : w.ownsRow base e 3 (.slice a L.length cap) L.length (tokCells L)) : ToksAt w a L := by
  intro i hi
  obtain ⟨g, cap', hv, _, hlt⟩ := h.form (by omega)
  cases hv
  obtain ⟨h1, h2, h3⟩ := tokCells_get L i hi
  have c1 := h.cellAt (i * 3) (by omega)
  have c2 := h.cellAt (i * 3 + 1) (by omega)
  have c3 := h.cellAt (i * 3 + 2) (by omega)
  exact ⟨g, 0, rfl, hlt, by rw [Nat.zero_add, c1, h1], by rw [Nat.zero_add, c2, h2], by rw [Nat.zero_add, c3, h3]⟩
theorem own_cap {w : World} {base cap e : Nat} {a : Option Addr} {n : Nat} {xs : List Value} (h : w.ownsRow base e 3 (.slice a n cap) n xs) : n ≤ cap ∧ ∀ ad, a = some ad → ad.block < w.heap.size := by
  rcases h.2 with ⟨h1, h2⟩ | ⟨g, cap', cur, h1, h2, h3, h4, _⟩
  · simp only [Value.slice.injEq] at h1
    obtain ⟨rfl, _, _⟩ := h1
    exact ⟨by omega, fun ad e => by cases e⟩
  · simp only [Value.slice.injEq, true_and] at h1
    obtain ⟨rfl, rfl⟩ := h1
    refine ⟨h4, fun ad e => ?_⟩
    injection e with e
    subst e
    exact (Array.getElem?_eq_some_iff.1 h3).1
def finT (o : Except Nat (List Tok)) : Except Int (List Tok) × Int := match o with
  | .ok L => (.ok L, 0)
  | .error p => (.error (p : Nat), 2)
def tokens (s : List UInt8) : Except Int (List Tok) × Int :=
  if 65536 < s.length then (.error 0, 4) else finT (lexL s.length [] s)
def TokPost (s : List UInt8) (w : World) (e : Ending) (w' : World) : Prop :=
  Below w.heap.size w w' ∧ match tokens s with
    | (.ok L, er) => ∃ a cap, e = .returned (.tuple #[.slice a L.length cap, .int .i64 0, .int .i64 er]) ∧ ToksAt w' a L ∧ L.length ≤ cap ∧ ∀ ad, a = some ad → ad.block < w'.heap.size
    | (.error p, er) => e = .returned (.tuple #[.slice none 0 0, .int .i64 p, .int .i64 er])
def MemT (s : ByteArray) (k : Nat) (acc : List Tok) (v : Value) (w wr : World) : Prop :=
  wr.heap[w.heap.size]? = some (.cells #[.string s, .int .i64 (k : Int)] 95 (0, 0)) ∧ wr.ownsRow (w.heap.size + 1) 96 3 v acc.length (tokCells acc) ∧ Below w.heap.size w wr
def InTok (s : ByteArray) (w : World) (v : Value) (wr : World) : Prop :=
  ∃ (k : Nat) (acc : List Tok), k ≤ s.size ∧ acc.length ≤ k ∧ lexL s.size [] s.data.toList = lexL s.size acc (s.data.toList.drop k) ∧ MemT s k acc v w wr
theorem nextV_cases {l : List UInt8} {n k : Nat} {kind at_ : Int} {text : ByteArray} {ok : Bool} (h : NextV l n kind text at_ ok k) :
    (l = [] ∧ kind = 0 ∧ ok = true) ∨ ∃ c r, l = c :: r ∧ at_ = ((n - (c :: r).length : Nat) : Int) ∧ ((one (c :: r) = none ∧ ok = false) ∨ ∃ tx q, one (c :: r) = some (kind, tx, q) ∧ text = ofL tx ∧ ok = true ∧ k = n - q.length) := by
  cases l with
  | nil => exact .inl ⟨rfl, h⟩
  | cons c r =>
    refine .inr ⟨c, r, rfl, h.1, ?_⟩
    have h2 := h.2
    cases ho : one (c :: r) with
    | none => rw [ho] at h2; exact .inl ⟨rfl, h2⟩
    | some p =>
      obtain ⟨kd, tx, q⟩ := p
      rw [ho] at h2
      obtain ⟨rfl, h3, h4, h5⟩ := h2
      exact .inr ⟨tx, q, rfl, h3, h4, h5⟩
theorem quoted_suffix : ∀ (n : Nat) {q : UInt8} {acc l b r : List UInt8}, l.length ≤ n → quotedL q acc l = some (b, r) → ∃ p, l = p ++ r
  | n, q, acc, [], b, r, _, h => by rw [quoted_nil] at h; cases h
  | 0, q, acc, c :: l, b, r, hn, h => by simp at hn
  | n + 1, q, acc, c :: l, b, r, hn, h => by
    by_cases hq : c = q
    · subst hq
      rw [quoted_end] at h
      cases h
      exact ⟨[c], rfl⟩
    · by_cases h92 : c.toNat = 92
      · cases l with
        | nil => rw [quoted_cut _ _ _ hq] at h; cases h
        | cons d l =>
          by_cases hd : d = q ∨ d.toNat = 92
          · rw [quoted_esc _ _ _ _ _ hq h92 hd] at h
            obtain ⟨p, hp⟩ := quoted_suffix n (by simp at hn; omega) h
            exact ⟨c :: d :: p, by rw [hp]; rfl⟩
          · rw [quoted_bad _ _ _ _ _ hq h92 hd] at h; cases h
      · rw [quoted_plain _ _ _ _ hq h92] at h
        obtain ⟨p, hp⟩ := quoted_suffix n (by simp at hn; omega) h
        exact ⟨c :: p, by rw [hp]; rfl⟩
theorem numR_suffix : ∀ (p : Bool) (l : List UInt8), ∃ q, l = q ++ numR p l
  | _, [] => ⟨[], rfl⟩
  | p, c :: r => by
    obtain ⟨q1, h1⟩ := numR_suffix p r
    obtain ⟨q2, h2⟩ := numR_suffix true r
    unfold numR
    split
    · exact ⟨c :: q1, by rw [List.cons_append, ← h1]⟩
    · split
      · exact ⟨c :: q2, by rw [List.cons_append, ← h2]⟩
      · exact ⟨[], rfl⟩
theorem dw_suffix (p : UInt8 → Bool) (l : List UInt8) : ∃ q, l = q ++ l.dropWhile p := ⟨l.takeWhile p, (List.takeWhile_append_dropWhile).symm⟩
theorem one_suffix {c : UInt8} {r : List UInt8} {k : Int} {t q : List UInt8} (h : one (c :: r) = some (k, t, q)) : ∃ p, c :: r = p ++ q := by
  have h : one1 c r = some (k, t, q) := h
  unfold one1 at h
  obtain ⟨p1, h1⟩ := dw_suffix wordB r
  obtain ⟨p2, h2⟩ := numR_suffix false r
  split at h
  · cases h; exact ⟨c :: p1, by rw [List.cons_append, ← h1]⟩
  · split at h
    · split at h
      · cases h; exact ⟨c :: p2, by rw [List.cons_append, ← h2]⟩
      · cases h
    · split at h
      · rw [Option.map_eq_some_iff] at h
        obtain ⟨p, hp, he⟩ := h
        cases he
        obtain ⟨z, hz⟩ := quoted_suffix _ (Nat.le_refl _) hp
        exact ⟨c :: z, by rw [List.cons_append, ← hz]⟩
      · split at h
        · cases h; exact ⟨c :: r.take 1, by rw [List.cons_append, List.take_append_drop]⟩
        · split at h
          · cases h; exact ⟨[c], rfl⟩
          · cases h
theorem one_kind {c : UInt8} {r : List UInt8} {k : Int} {t q : List UInt8} (h : one (c :: r) = some (k, t, q)) : 1 ≤ k := by
  have h : one1 c r = some (k, t, q) := h
  unfold one1 at h
  split at h
  · cases h; decide
  · split at h
    · split at h
      · cases h; decide
      · cases h
    · split at h
      · rw [Option.map_eq_some_iff] at h
        obtain ⟨p, hp, he⟩ := h
        cases he
        split <;> decide
      · split at h
        · cases h; decide
        · split at h
          · cases h; decide
          · cases h
/-- What is left behind a token is what stands behind its place. -/
theorem rest_is {s : ByteArray} {k : Nat} {c : UInt8} {r t q : List UInt8} {kd : Int} (h : (s.data.toList.drop k).dropWhile blankB = c :: r) (h2 : one (c :: r) = some (kd, t, q)) : s.data.toList.drop (s.size - q.length) = q ∧ k < s.size - q.length := by
  obtain ⟨p1, h1⟩ := dw_suffix blankB (s.data.toList.drop k)
  obtain ⟨p2, h3⟩ := one_suffix h2
  rw [h, h3] at h1
  have hl := one_len h2
  have hd := dw_len blankB (s.data.toList.drop k)
  rw [h] at hd
  have e : s.data.toList = s.data.toList.take k ++ (p1 ++ (p2 ++ q)) := by rw [← h1, List.take_append_drop]
  have hsz := congrArg List.length h1
  simp at hsz hd hl
  have hs2 := congrArg List.length e
  simp at hs2
  have hkk : k ≤ s.size := by omega
  refine ⟨?_, by omega⟩
  have e2 : s.data.toList = (s.data.toList.take k ++ p1 ++ p2) ++ q := by simpa using e
  have e3 : s.size - q.length = (s.data.toList.take k ++ p1 ++ p2).length := by
    simp
    omega
  rw [e3]
  exact (congrArg (List.drop _) e2).trans List.drop_left
end Go.Proofs.YtigicmnngppipaaGreatDoor.Lx
/- The leaves of layer 15: names, special bytes, each as the code computes it. No condition but the sizes of what is read. -/
namespace Go.Proofs.YtigicmnngppipaaGreatDoor.Ser
open Go.RowKit
def okc (c : UInt8) : Bool := !(decide (c.toNat < 32) || decide (c.toNat = 127))
def nameB (l : List UInt8) : Bool := l.all okc && (decide (1 ≤ l.length) && decide (l.length ≤ 64))
theorem take_snoc (s : ByteArray) (k : Nat) (h : k < s.size) : s.data.toList.take (k + 1) = s.data.toList.take k ++ [s[k]] := by
  rw [List.take_succ_eq_append_getElem (by simpa using h)]; rfl
theorem nameB_bad (s : ByteArray) (k : Nat) (h : k < s.size) (hc : okc s[k] = false) : nameB s.data.toList = false := by
  have : s.data.toList.all okc = false := by
    rw [List.all_eq_false]
    exact ⟨s[k], List.getElem_mem (l := s.data.toList) (by simpa using h), by simp [hc]⟩
  simp [nameB, this]
theorem nameB_all (s : ByteArray) (h : (s.data.toList.take s.size).all okc = true) : nameB s.data.toList = (decide (1 ≤ s.size) && decide (s.size ≤ 64)) := by
  rw [List.take_of_length_le (by simp)] at h
  have e : s.data.toList.length = s.size := by simp
  simp only [nameB, h, Bool.true_and, e]
theorem toList_len (s : ByteArray) : s.toList.length = s.size := by rw [ByteArray.toList_eq]; simp
theorem not_empty {s : ByteArray} (h : 1 ≤ s.size) : s.toList.isEmpty = false := by
  rw [List.isEmpty_eq_false_iff_exists_mem]
  have : 0 < s.toList.length := by rw [toList_len]; omega
  exact ⟨s.toList[0], List.getElem_mem _⟩
theorem is_empty {s : ByteArray} (h : s.size = 0) : s.toList.isEmpty = true := by
  rw [List.isEmpty_iff_length_eq_zero, toList_len, h]
theorem ret_bool {a b : Bool} (h : a = b) : Ending.returned (.bool a) = .returned (.bool b) := by rw [h]
def InName (s : ByteArray) (i : Value) : Prop := ∃ k : Nat, k ≤ s.size ∧ i = .int .i64 k ∧ (s.data.toList.take k).all okc = true
theorem inName_next {s : ByteArray} {k : Nat} (h : k < s.size) (ha : (s.data.toList.take k).all okc = true) (hc : okc s[k] = true) : InName s (.int .i64 ((k : Int) + 1)) :=
  ⟨k + 1, h, by go_num, by rw [take_snoc s k h, List.all_append, ha]; simp [hc]⟩
theorem rname (s : ByteArray) (w : World) (hs : s.size ≤ maxLen) : Calls Tryz.prog 89 #[.string s] w fun e w' => e = .returned (.bool (nameB s.data.toList)) ∧ w = w' := by
  unfold maxLen at hs
  go_enter Tryz.func89, Tryz.ntmps89
  go_wp2
  go_loop [3] (fun i => InName s i) (fun i => s.size - (intOf i).toNat)
  case atStart => exact ⟨0, Nat.zero_le _, rfl, rfl⟩
  case round =>
    obtain ⟨k, hk, rfl, hall⟩ := hrel
    have HA := Lib.hid hall
    clear hall
    by_cases hlt : k < s.size
    · obtain ⟨c, hcc⟩ : ∃ c, s[k] = c := ⟨_, rfl⟩
      have HN := Lib.hid (inName_next hlt HA.out)
      have HB := Lib.hid (nameB_bad s k hlt)
      rw [hcc] at HN HB
      by_cases h1 : c.toNat < 32
      · have HC := Lib.hid (show okc c = false by simp [okc, h1])
        have h1i : (c.toNat : Int) < 32 := by omega
        clear h1
        go_wp2
        go_ret
        exact ⟨ret_bool (HB.out HC.out).symm, rfl⟩
      · have h1i : ¬ (c.toNat : Int) < 32 := by omega
        by_cases h2 : c.toNat = 127
        · have HC := Lib.hid (show okc c = false by simp [okc, h2])
          have h2i : ((c.toNat : Int) == 127) = true := by simp; omega
          clear h1 h2
          go_wp2
          go_ret
          exact ⟨ret_bool (HB.out HC.out).symm, rfl⟩
        · have HC := Lib.hid (show okc c = true by simp [okc, h1, h2])
          have h2i : ((c.toNat : Int) == 127) = false := by simp; omega
          clear h1 h2
          go_wp2
          go_round
          case rel => exact HN.out HC.out
          case measure => simp [intOf]; omega
    · have hke : k = s.size := by omega
      have HK := Lib.hid (nameB_all s (by rw [← hke]; exact HA.out))
      clear hke
      by_cases h3 : 1 ≤ s.size
      · have h3b : decide (1 ≤ s.size) = true := by simp; omega
        have h3i : (1 : Int) ≤ (s.size : Int) := by omega
        go_wp2
        go_ret
        exact ⟨ret_bool (by rw [HK.out, Bool.eq_iff_iff]; simp; omega), rfl⟩
      · have h3i : ¬ (1 : Int) ≤ (s.size : Int) := by omega
        go_wp2
        go_ret
        exact ⟨ret_bool (by rw [HK.out, Bool.eq_iff_iff]; simp; omega), rfl⟩
theorem vname (s : ByteArray) (w : World) (hs : s.size ≤ maxLen) : Calls Tryz.prog 74 #[.string s] w fun e w' => e = .returned (.bool (nameB s.data.toList)) ∧ Below w.heap.size w w' := by
  unfold maxLen at hs
  have hcv := run_bytes_of_string w 9 48 5 s Tryz.underlying9 Tryz.underlying48 Tryz.underlying5
  have hcells : ∀ j (hj : j < s.size), (w.drew.alloc (.cells (bytesRow s (grownCap w s.size 0 5)) 5 ((bytesRow s (grownCap w s.size 0 5)).size, (bytesRow s (grownCap w s.size 0 5)).size + 1))).cell? ⟨w.heap.size, j, none⟩ = some (.int .u8 (s[j].toNat : Int)) := by
    intro j hj
    have h1 := bytesRow_at s (grownCap w s.size 0 5) j hj
    have h2 := World.cell?_alloc_mark w.drew (bytesRow s (grownCap w s.size 0 5)) 5 ((bytesRow s (grownCap w s.size 0 5)).size, (bytesRow s (grownCap w s.size 0 5)).size + 1) j
    exact h2.trans h1
  have hbel : Below w.heap.size w (w.drew.alloc (.cells (bytesRow s (grownCap w s.size 0 5)) 5 ((bytesRow s (grownCap w s.size 0 5)).size, (bytesRow s (grownCap w s.size 0 5)).size + 1))) := (Below.refl _ _).drew.alloc (Nat.le_refl _) _
  generalize w.drew.alloc (.cells (bytesRow s (grownCap w s.size 0 5)) 5 ((bytesRow s (grownCap w s.size 0 5)).size, (bytesRow s (grownCap w s.size 0 5)).size + 1)) = w1 at *
  generalize grownCap w s.size 0 5 = cp at *
  have HC := Lib.hid hcells
  have HBB := Lib.hid hbel
  clear hcells hbel
  go_enter Tryz.func74, Tryz.ntmps74
  go_wp2
  go_loop [8] (fun i => InName s i) (fun i => s.size - (intOf i).toNat)
  case atStart => exact ⟨0, Nat.zero_le _, rfl, rfl⟩
  case round =>
    obtain ⟨k, hk, rfl, hall⟩ := hrel
    have HA := Lib.hid hall
    clear hall
    by_cases hlt : k < s.size
    · obtain ⟨c, hcc⟩ : ∃ c, s[k] = c := ⟨_, rfl⟩
      have HN := Lib.hid (inName_next hlt HA.out)
      have HB := Lib.hid (nameB_bad s k hlt)
      have hcell := HC.out k hlt
      rw [hcc] at HN HB hcell
      clear hcc
      by_cases h1 : c.toNat < 32
      · have HC := Lib.hid (show okc c = false by simp [okc, h1])
        have h1i : (c.toNat : Int) < 32 := by omega
        clear h1
        go_wp2
        go_ret
        exact ⟨ret_bool (HB.out HC.out).symm, HBB.out⟩
      · have h1i : ¬ (c.toNat : Int) < 32 := by omega
        by_cases h2 : c.toNat = 127
        · have HC := Lib.hid (show okc c = false by simp [okc, h2])
          have h2i : ((c.toNat : Int) == 127) = true := by simp; omega
          clear h1 h2
          go_wp2
          go_ret
          exact ⟨ret_bool (HB.out HC.out).symm, HBB.out⟩
        · have HC := Lib.hid (show okc c = true by simp [okc, h1, h2])
          have h2i : ((c.toNat : Int) == 127) = false := by simp; omega
          clear h1 h2
          go_wp2
          go_round
          case rel => exact HN.out HC.out
          case measure => simp [intOf]; omega
    · have hke : k = s.size := by omega
      have HK := Lib.hid (nameB_all s (by rw [← hke]; exact HA.out))
      clear hke
      by_cases h3 : 1 ≤ s.size
      · have h3b : s.toList.isEmpty = false := not_empty h3
        have h3i : (1 : Int) ≤ (s.size : Int) := by omega
        go_wp2
        go_ret
        exact ⟨ret_bool (by rw [HK.out, Bool.eq_iff_iff]; simp; omega), HBB.out⟩
      · have h3b : s.toList.isEmpty = true := is_empty (by omega)
        go_wp2
        go_ret
        exact ⟨ret_bool (by rw [HK.out]; simp [h3]), HBB.out⟩
end Go.Proofs.YtigicmnngppipaaGreatDoor.Ser
/- What ParseFloat reads, in plain Lean: the texts that are read as floats, the mantissa and the exponent. No condition. -/
namespace PF
def isDig (c : UInt8) : Bool := decide (48 ≤ c.toNat) && decide (c.toNat ≤ 57)
/-- Digits to the end, at least one. -/
def okD (l : List UInt8) : Bool := !l.isEmpty && l.all isDig
/-- Behind an e. -/
def okX : List UInt8 → Bool
  | [] => false
  | c :: r => if c = 43 ∨ c = 45 then okD r else okD (c :: r)
/-- The digits, perhaps with a dot, perhaps an exponent behind. -/
def okM (dot saw : Bool) : List UInt8 → Bool
  | [] => saw
  | c :: r => if isDig c then okM dot true r else if c = 46 then (!dot && saw) && okM true false r else (decide (c = 101) || decide (c = 69)) && (saw && okX r)
/-- Without its sign. -/
def body (l : List UInt8) : List UInt8 := match l with | 45 :: r => r | _ => l
def isNeg (l : List UInt8) : Bool := match l with | 45 :: _ => true | _ => false
/-- Is it read as a float? -/
def decB (l : List UInt8) : Bool := okM false false (body l) && decide (l.length ≤ 400)
/-- The state of the loop over the mantissa. -/
structure RF where
  man : Nat
  ds : List Nat
  nm : Nat
  dp : Int
  dot : Bool
  saw : Bool
  tr : Bool
def rf0 : RF := ⟨0, [], 0, 0, false, false, false⟩
/-- How many digits. -/
def RF.nd (st : RF) : Nat := st.ds.length
def RF.step (st : RF) (c : UInt8) : Option RF :=
  if c = 46 then (if st.dot then none else some { st with dot := true, dp := st.nd })
  else if isDig c then
    if c = 48 ∧ st.nd = 0 then some { st with saw := true, dp := st.dp - 1 }
    else if st.nm < 19 then some { st with saw := true, ds := st.ds ++ [c.toNat - 48], man := st.man * 10 + (c.toNat - 48), nm := st.nm + 1 }
    else some { st with saw := true, ds := st.ds ++ [c.toNat - 48], tr := st.tr || decide (c ≠ 48) }
  else none
def RF.run : List UInt8 → RF → RF × List UInt8
  | [], st => (st, [])
  | c :: r, st => match st.step c with | some st' => RF.run r st' | none => (st, c :: r)
/-- An exponent's digits. -/
def exD : List UInt8 → Nat → Nat
  | [], e => e
  | c :: r, e => exD r (if e < 10000 then e * 10 + (c.toNat - 48) else e)
/-- What stands behind the mantissa: 'e', perhaps a sign, digits. -/
def exV : List UInt8 → Int
  | _ :: 45 :: r => -(exD r 0 : Int)
  | _ :: 43 :: r => exD r 0
  | _ :: r => exD r 0
  | [] => 0
/-- Mantissa, exponent, are there digits left out? -/
def readF (l : List UInt8) : Nat × Int × Bool :=
  let (st, rest) := RF.run (body l) rf0
  let dp : Int := (if st.dot then st.dp else st.nd) + exV rest
  (st.man, (if st.man = 0 then 0 else dp - st.nm), st.tr)
theorem RF.run_some {c : UInt8} {r : List UInt8} {st st' : RF} (h : st.step c = some st') : RF.run (c :: r) st = RF.run r st' := by
  simp [RF.run, h]
theorem RF.run_none {c : UInt8} {r : List UInt8} {st : RF} (h : st.step c = none) : RF.run (c :: r) st = (st, c :: r) := by
  simp [RF.run, h]
/-- What holds of the state behind k signs. -/
structure RF.Ok (st : RF) (k : Nat) : Prop where
  nd : st.ds.length ≤ k
  nm : st.nm ≤ st.ds.length
  nm19 : st.nm ≤ 19
  man : st.man < 10 ^ st.nm
  dpl : -(k : Int) ≤ st.dp
  dph : st.dp ≤ k
  dig : ∀ d ∈ st.ds, d ≤ 9
  one : st.ds.headD 1 ≠ 0
theorem rf0_ok : rf0.Ok 0 := ⟨Nat.le_refl _, Nat.le_refl _, by decide, by decide, by decide, by decide, (fun _ h => by cases h), by decide⟩
theorem RF.Ok.step {st st' : RF} {k : Nat} {c : UInt8} (h : st.Ok k) (hs : st.step c = some st') : st'.Ok (k + 1) := by
  obtain ⟨h1, h2, h3, h4, h5, h6, h7, h8⟩ := h
  have dig (d : Nat) (hd : d ≤ 9) : ∀ x ∈ st.ds ++ [d], x ≤ 9 := by
    intro x hx
    rcases List.mem_append.1 hx with hx | hx
    · exact h7 x hx
    · rw [List.mem_singleton.1 hx]; exact hd
  have one (d : Nat) (hd : ¬(d = 0 ∧ st.ds.length = 0)) : (st.ds ++ [d]).headD 1 ≠ 0 := by
    cases he : st.ds with
    | nil => simp only [List.nil_append, List.headD_cons]; rw [he] at hd; simpa using hd
    | cons x t => rw [he] at h8; simpa using h8
  unfold RF.step at hs
  split at hs
  · split at hs
    · cases hs
    · cases hs
      exact ⟨by simp; omega, by simpa using h2, h3, h4, by simp [RF.nd]; omega, by simp [RF.nd]; omega, h7, h8⟩
  · split at hs
    · rename_i hd
      simp only [isDig, Bool.and_eq_true, decide_eq_true_eq] at hd
      split at hs
      · cases hs
        exact ⟨by simp; omega, by simpa using h2, h3, h4, by simp; omega, by simp; omega, h7, h8⟩
      · rename_i hz
        have hz' : ¬(c.toNat - 48 = 0 ∧ st.ds.length = 0) := fun ⟨a, b⟩ => hz ⟨UInt8.toNat_inj.1 (by simp; omega), b⟩
        split at hs
        · cases hs
          refine ⟨by simp; omega, by simp; omega, by simp; omega, ?_, by simp; omega, by simp; omega, dig _ (by omega), one _ hz'⟩
          simp only [Nat.pow_succ]
          omega
        · cases hs
          exact ⟨by simp; omega, by simp; omega, h3, h4, by simp; omega, by simp; omega, dig _ (by omega), one _ hz'⟩
    · cases hs
theorem RF.Ok.run : ∀ {l : List UInt8} {st : RF} {k : Nat}, st.Ok k → (RF.run l st).1.Ok (k + l.length)
  | [], _, _, h => h
  | c :: r, st, k, h => by
    unfold RF.run
    cases hs : st.step c with
    | none =>
      obtain ⟨h1, h2, h3, h4, h5, h6, h7, h8⟩ := h
      exact ⟨by simp; omega, h2, h3, h4, by simp; omega, by simp; omega, h7, h8⟩
    | some st' =>
      have := RF.Ok.run (l := r) (h.step hs)
      simp only [List.length_cons]
      rw [show k + (r.length + 1) = k + 1 + r.length by omega]
      exact this
theorem okM_saw : ∀ (l : List UInt8) {dot : Bool}, okM dot false l = true → okM dot true l = true
  | [], _, h => by simp [okM] at h
  | c :: r, dot, h => by
    unfold okM at h ⊢
    split at h
    · rename_i hd; rw [if_pos hd]; exact h
    · rename_i hd
      rw [if_neg hd]
      split at h
      · simp at h
      · simp at h
/-- What is left behind the mantissa of a text that is read. -/
def Rest (l : List UInt8) : Prop := l = [] ∨ ∃ c r, l = c :: r ∧ (c = 101 ∨ c = 69) ∧ okX r = true
theorem run_ok : ∀ (l : List UInt8) (st : RF) (saw : Bool), okM st.dot saw l = true → (saw = true → st.saw = true) → (RF.run l st).1.saw = true ∧ Rest (RF.run l st).2
  | [], st, saw, h, hs => ⟨hs (by simpa [okM] using h), .inl rfl⟩
  | c :: r, st, saw, h, hs => by
    unfold okM at h
    by_cases hd : isDig c = true
    · rw [if_pos hd] at h
      have h46 : ¬c = 46 := by rintro rfl; revert hd; decide
      unfold RF.run RF.step
      rw [if_neg h46, if_pos hd]
      split
      · rename_i st' e
        split at e
        · cases e; exact run_ok r _ true h fun _ => rfl
        · split at e
          · cases e; exact run_ok r _ true h fun _ => rfl
          · cases e; exact run_ok r _ true h fun _ => rfl
      · rename_i e
        split at e
        · cases e
        · split at e <;> cases e
    · rw [if_neg hd] at h
      by_cases h46 : c = 46
      · rw [if_pos h46] at h
        simp only [Bool.and_eq_true, Bool.not_eq_true'] at h
        obtain ⟨⟨h1, h2⟩, h3⟩ := h
        unfold RF.run RF.step
        rw [if_pos h46, h1]
        simp only [Bool.false_eq_true, if_false]
        have := run_ok r { st with dot := true, dp := st.nd } true
        have h4 := okM_saw r h3
        exact this h4 fun _ => hs h2
      · rw [if_neg h46] at h
        simp only [Bool.and_eq_true, Bool.or_eq_true, decide_eq_true_eq] at h
        obtain ⟨h1, h2, h3⟩ := h
        unfold RF.run RF.step
        rw [if_neg h46, if_neg hd]
        exact ⟨hs h2, .inr ⟨c, r, rfl, h1, h3⟩⟩
theorem exD_lt : ∀ (l : List UInt8) (e : Nat), l.all isDig = true → e < 100010 → exD l e < 100010
  | [], e, _, h => h
  | c :: r, e, hl, h => by
    simp only [List.all_cons, Bool.and_eq_true] at hl
    obtain ⟨hc, hr⟩ := hl
    simp only [isDig, Bool.and_eq_true, decide_eq_true_eq] at hc
    unfold exD
    refine exD_lt r _ hr ?_
    split
    · omega
    · exact h
end PF
/- What a value's text is read as, in plain Lean: numbers, quoted texts. No condition. -/
namespace PF
open Go
/-- Digits as a number. -/
def numD (l : List UInt8) : Nat := l.foldl (fun n c => n * 10 + (c.toNat - 48)) 0
theorem numD_foldl (l : List UInt8) (n : Nat) : l.foldl (fun n c => n * 10 + (c.toNat - 48)) n = n * 10 ^ l.length + numD l := by
  induction l generalizing n with
  | nil => simp [numD]
  | cons c t ih =>
    simp only [List.foldl_cons, List.length_cons, numD]
    rw [ih, ih (0 * 10 + (c.toNat - 48)), Nat.pow_succ]
    simp only [Nat.zero_mul, Nat.zero_add, Nat.add_mul]
    have : n * 10 * 10 ^ t.length = n * (10 ^ t.length * 10) := by rw [Nat.mul_assoc, Nat.mul_comm 10]
    omega
theorem numD_snoc (l : List UInt8) (c : UInt8) : numD (l ++ [c]) = numD l * 10 + (c.toNat - 48) := by
  unfold numD
  rw [List.foldl_append]
  rfl
theorem numD_le (a b : List UInt8) : numD a ≤ numD (a ++ b) := by
  unfold numD
  rw [List.foldl_append, numD_foldl b]
  have := Nat.pow_pos (n := b.length) (show 0 < 10 by omega)
  have : List.foldl (fun n c => n * 10 + (c.toNat - 48)) 0 a * 1 ≤ List.foldl (fun n c => n * 10 + (c.toNat - 48)) 0 a * 10 ^ b.length := Nat.mul_le_mul_left _ this
  omega
/-- An integer's text: the number, and the error's number. -/
def intP (l : List UInt8) : Int × Int :=
  if 1 ≤ (body l).length ∧ (body l).length ≤ 25 ∧ (body l).all isDig = true then
    if isNeg l then (if numD (body l) ≤ 9223372036854775808 then (-(numD (body l) : Int), 0) else (0, 3))
    else (if numD (body l) < 9223372036854775808 then ((numD (body l) : Int), 0) else (0, 3))
  else (0, 2)
theorem uintM (M : Nat) : ∀ (l : List UInt8) (acc : Nat), M = 18446744073709551615 → l.all isDig = true → acc ≤ M → Lib.parseUintM M acc l = if l.foldl (fun n c => n * 10 + (c.toNat - 48)) acc ≤ M then .ok (l.foldl (fun n c => n * 10 + (c.toNat - 48)) acc) else .range
  | [], acc, _, _, h => by simp [Lib.parseUintM, h]
  | c :: r, acc, hM, hl, h => by
    simp only [List.all_cons, Bool.and_eq_true] at hl
    have hc := hl.1
    simp only [isDig, Bool.and_eq_true, decide_eq_true_eq] at hc
    have hmono : acc * 10 + (c.toNat - 48) ≤ r.foldl (fun n c => n * 10 + (c.toNat - 48)) (acc * 10 + (c.toNat - 48)) := by
      rw [numD_foldl]
      have := Nat.pow_pos (n := r.length) (show 0 < 10 by omega)
      have : (acc * 10 + (c.toNat - 48)) * 1 ≤ (acc * 10 + (c.toNat - 48)) * 10 ^ r.length := Nat.mul_le_mul_left _ this
      omega
    unfold Lib.parseUintM
    rw [if_pos hc, List.foldl_cons]
    by_cases h1 : 1844674407370955162 ≤ acc
    · rw [if_pos h1, if_neg (by omega)]
    · rw [if_neg h1]
      by_cases h2 : M < acc * 10 + (c.toNat - 48)
      · rw [if_pos h2, if_neg (by omega)]
      · rw [if_neg h2, uintM M r _ hM hl.2 (by omega)]
theorem body_neg (r : List UInt8) : body (45 :: r) = r ∧ isNeg (45 :: r) = true := ⟨rfl, rfl⟩
theorem body_pos {l : List UInt8} (h : ∀ r, l ≠ 45 :: r) : body l = l ∧ isNeg l = false := by
  constructor
  · unfold body
    split
    · rename_i r; exact absurd rfl (h r)
    · rfl
  · unfold isNeg
    split
    · rename_i r; exact absurd rfl (h r)
    · rfl
/-- ParseInt at digits behind perhaps a sign. -/
theorem parseInt_eq {l : List UInt8} (h1 : 1 ≤ (body l).length) (h2 : (body l).all isDig = true) :
    Lib.parseIntB 64 l = if isNeg l then (if numD (body l) ≤ 9223372036854775808 then .ok (-(numD (body l) : Int)) else .range) else (if numD (body l) < 9223372036854775808 then .ok (numD (body l) : Int) else .range) := by
  have key : ∀ u : List UInt8, 1 ≤ u.length → u.all isDig = true → Lib.parseUintB 64 u = if numD u ≤ 18446744073709551615 then .ok (numD u) else .range := by
    intro u hu hd
    unfold Lib.parseUintB
    rw [if_neg (by intro e; rw [e] at hu; simp at hu), uintM (2 ^ 64 - 1) u 0 (by decide) hd (by omega)]
    rfl
  by_cases hc : ∃ r, l = 45 :: r
  · obtain ⟨r, rfl⟩ := hc
    rw [(body_neg r).1] at h1 h2 ⊢
    rw [(body_neg r).2, if_pos rfl]
    have k := key r h1 h2
    unfold Lib.parseIntB
    simp only
    rw [if_pos (by decide), k]
    by_cases h3 : numD r ≤ 9223372036854775808
    · rw [if_pos h3, if_pos (by omega)]
      simp only
      rw [if_neg (by rintro ⟨h, _⟩; exact h rfl), if_neg (by intro h; have h := h.2; simp at h; omega), if_pos (by decide)]
    · rw [if_neg h3]
      by_cases h4 : numD r ≤ 18446744073709551615
      · rw [if_pos h4]
        simp only
        rw [if_neg (by rintro ⟨h, _⟩; exact h rfl), if_pos ⟨by decide, by simp; omega⟩]
      · rw [if_neg h4]
  · have hb := body_pos (l := l) (fun r e => hc ⟨r, e⟩)
    rw [hb.1] at h1 h2 ⊢
    rw [hb.2, if_neg (by decide)]
    have k := key l h1 h2
    cases l with
    | nil => simp at h1
    | cons c r =>
      have hcd : isDig c = true := by simp only [List.all_cons, Bool.and_eq_true] at h2; exact h2.1
      simp only [isDig, Bool.and_eq_true, decide_eq_true_eq] at hcd
      have hn : ¬(c.toNat = 45) := by omega
      have hn2 : ¬(c.toNat = 43 ∨ c.toNat = 45) := by omega
      unfold Lib.parseIntB
      simp only
      rw [if_neg hn2, k]
      by_cases h3 : numD (c :: r) < 9223372036854775808
      · rw [if_pos h3, if_pos (by omega)]
        simp only
        rw [if_neg (by intro h; have h := h.2; simp at h; omega), if_neg (fun h => hn h.1), if_neg hn]
      · rw [if_neg h3]
        by_cases h4 : numD (c :: r) ≤ 18446744073709551615
        · rw [if_pos h4]
          simp only
          rw [if_pos ⟨hn, by simp; omega⟩]
        · rw [if_neg h4]
/-- What stands behind the digits of a float's text. -/
def tailE : List UInt8 → Bool
  | [] => true
  | c :: r => (decide (c = 101) || decide (c = 69)) && okX r
def tailM : List UInt8 → Bool
  | 46 :: r => !(r.takeWhile isDig).isEmpty && tailE (r.dropWhile isDig)
  | r => tailE r
theorem okM_digits (dot : Bool) : ∀ (l : List UInt8) (saw : Bool), okM dot saw l = okM dot (saw || !(l.takeWhile isDig).isEmpty) (l.dropWhile isDig)
  | [], saw => by simp
  | c :: r, saw => by
    by_cases h : isDig c = true
    · rw [List.takeWhile_cons, List.dropWhile_cons, if_pos h, if_pos h]
      conv => lhs; unfold okM
      rw [if_pos h, okM_digits dot r true]
      simp
    · rw [List.takeWhile_cons, List.dropWhile_cons, if_neg h, if_neg h]
      simp
theorem drop_head {l r : List UInt8} {c : UInt8} (h : l.dropWhile isDig = c :: r) : isDig c = false := by
  induction l with
  | nil => cases h
  | cons a t ih =>
    by_cases ha : isDig a = true
    · rw [List.dropWhile_cons, if_pos ha] at h; exact ih h
    · rw [List.dropWhile_cons, if_neg ha] at h
      injection h with h1 _
      rw [← h1]; simpa using ha
theorem okM_true {r : List UInt8} (h : ∀ c t, r = c :: t → isDig c = false) : okM true true r = tailE r := by
  cases r with
  | nil => rfl
  | cons c t =>
    have hc := h c t rfl
    unfold okM tailE
    rw [if_neg (by rw [hc]; decide)]
    by_cases h46 : c = 46
    · subst h46
      rw [if_pos rfl]
      rfl
    · rw [if_neg h46]; simp
/-- A float's text, part by part. -/
theorem okM_parts (l : List UInt8) : okM false false l = (!(l.takeWhile isDig).isEmpty && tailM (l.dropWhile isDig)) := by
  rw [okM_digits, Bool.false_or]
  have hh : ∀ c t, l.dropWhile isDig = c :: t → isDig c = false := fun c t h => drop_head h
  cases he : (l.takeWhile isDig).isEmpty with
  | true =>
    rw [Bool.not_true, Bool.false_and]
    cases hr : l.dropWhile isDig with
    | nil => rfl
    | cons c t =>
      have hc := hh c t hr
      unfold okM
      rw [if_neg (by rw [hc]; decide)]
      split <;> simp
  | false =>
    rw [Bool.not_false, Bool.true_and]
    cases hr : l.dropWhile isDig with
    | nil => rfl
    | cons c t =>
      have hc := hh c t hr
      by_cases h46 : c = 46
      · subst h46
        have e1 : okM false true (46 :: t) = okM true false t := by
          conv => lhs; unfold okM
          rw [if_neg (by rw [hc]; decide), if_pos rfl]
          rfl
        have e2 : tailM (46 :: t) = (!(t.takeWhile isDig).isEmpty && tailE (t.dropWhile isDig)) := rfl
        rw [e1, e2, okM_digits, Bool.false_or]
        cases ht : (t.takeWhile isDig).isEmpty with
        | true =>
          rw [Bool.not_true, Bool.false_and]
          cases hr2 : t.dropWhile isDig with
          | nil => rfl
          | cons d u =>
            have hd := drop_head hr2
            unfold okM
            rw [if_neg (by rw [hd]; decide)]
            split <;> simp
        | false =>
          rw [Bool.not_false, Bool.true_and]
          exact okM_true fun d u h => drop_head h
      · have e2 : tailM (c :: t) = tailE (c :: t) := by
          unfold tailM
          split
          · rename_i r h; injection h with h1 _; exact absurd h1 h46
          · rfl
        rw [e2]
        unfold okM tailE
        rw [if_neg (by rw [hc]; decide), if_neg h46]
        simp
/-- What stands between quotes, the last of them still there. -/
def unq : List UInt8 → Option (List UInt8)
  | [] => none
  | [c] => if c = 34 then some [] else none
  | c :: d :: r => if c = 34 ∨ c = 10 then none else if c = 92 then (if d = 34 ∨ d = 92 then (unq r).map (d :: ·) else if d = 110 then (unq r).map (10 :: ·) else none) else (unq (d :: r)).map (c :: ·)
end PF
