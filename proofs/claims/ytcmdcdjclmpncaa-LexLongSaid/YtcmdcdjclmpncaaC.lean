/- Tokens: what the document says, on lists of bytes. No condition. -/
import Derived.Test.YtcmdcdjclmpncaaB
namespace Go.Proofs.Ytcmdcdjclmpncaa
open Go.RowKit
def wordB (c : UInt8) : Bool := letterB c || digitB c
def blankB (c : UInt8) : Bool := decide (c.toNat = 32) || (decide (c.toNat = 9) || decide (c.toNat = 10))
def ofL (l : List UInt8) : ByteArray := ⟨l.toArray⟩
/-- What is left behind a number's further bytes; whether its point was met. -/
def numR : Bool → List UInt8 → List UInt8
  | _, [] => []
  | p, c :: r => if digitB c then numR p r else if !p && (decide (c.toNat = 46) && digitB (hd r)) then numR true r else c :: r
/-- What stands between quotes, behind what was gathered, and what is left; none: they don't end. -/
def quotedL (q : UInt8) (acc : List UInt8) : List UInt8 → Option (List UInt8 × List UInt8)
  | [] => none
  | [c] => if c = q then some (acc, []) else none
  | c :: d :: l => if c = q then some (acc, d :: l) else if c.toNat = 92 then (if d = q ∨ d.toNat = 92 then quotedL q (acc ++ [d]) l else none) else quotedL q (acc ++ [c]) (d :: l)
theorem quoted_end (q : UInt8) (acc l : List UInt8) : quotedL q acc (q :: l) = some (acc, l) := by
  cases l with
  | nil => simp [quotedL]
  | cons d l => rw [quotedL]; simp
theorem quoted_plain (q : UInt8) (acc : List UInt8) (c : UInt8) (l : List UInt8) (h : c ≠ q) (h92 : c.toNat ≠ 92) : quotedL q acc (c :: l) = quotedL q (acc ++ [c]) l := by
  cases l with
  | nil => simp [quotedL, h]
  | cons d l => rw [quotedL]; simp [h, h92]
theorem quoted_esc (q : UInt8) (acc : List UInt8) (c d : UInt8) (l : List UInt8) (h : c ≠ q) (h92 : c.toNat = 92) (hd : d = q ∨ d.toNat = 92) : quotedL q acc (c :: d :: l) = quotedL q (acc ++ [d]) l := by
  rw [quotedL]; simp [h, h92, hd]
theorem quoted_bad (q : UInt8) (acc : List UInt8) (c d : UInt8) (l : List UInt8) (h : c ≠ q) (h92 : c.toNat = 92) (hd : ¬ (d = q ∨ d.toNat = 92)) : quotedL q acc (c :: d :: l) = none := by
  rw [quotedL]; simp [h, h92, hd]
theorem quoted_cut (q : UInt8) (acc : List UInt8) (c : UInt8) (h : c ≠ q) : quotedL q acc [c] = none := by simp [quotedL, h]
theorem quoted_nil (q : UInt8) (acc : List UInt8) : quotedL q acc [] = none := rfl
def quoteB (c : UInt8) : Bool := decide (c.toNat = 34) || decide (c.toNat = 39)
def minus (c : UInt8) (r : List UInt8) : Bool := decide (c.toNat = 45) && digitB (hd r)
def cmpB (c : UInt8) : Bool := decide (c.toNat = 60) || decide (c.toNat = 62) || decide (c.toNat = 33)
def signB (c : UInt8) : Bool := decide (c.toNat = 40) || (decide (c.toNat = 41) || (decide (c.toNat = 44) || (decide (c.toNat = 42) || (decide (c.toNat = 61) || (decide (c.toNat = 60) || decide (c.toNat = 62))))))
abbrev One := Option (Int × List UInt8 × List UInt8)
def pre (l q : List UInt8) : List UInt8 := l.take (l.length - q.length)
/-- The token at a text's head that is no blank: its kind, its text, what is left; none: there is none. -/
def one1 (c : UInt8) (r : List UInt8) : One :=
    if letterB c then some (1, pre (c :: r) (r.dropWhile wordB), r.dropWhile wordB)
    else if digitB c || minus c r then (if (c :: r).length - (numR false r).length ≤ 40 then some (3, pre (c :: r) (numR false r), numR false r) else none)
    else if quoteB c then (quotedL c [] r).map fun p => (if c.toNat = 39 then 4 else 2, p.1, p.2)
    else if cmpB c && decide ((hd r).toNat = 61) then some (5, pre (c :: r) (r.drop 1), r.drop 1)
    else if signB c then some (5, [c], r)
    else none
def one : List UInt8 → One
  | [] => none
  | c :: r => one1 c r
theorem numR_len : ∀ (p : Bool) (l : List UInt8), (numR p l).length ≤ l.length
  | _, [] => by simp [numR]
  | p, c :: r => by
    have h1 := numR_len p r
    have h2 := numR_len true r
    unfold numR
    split
    · simp; omega
    · split
      · simp; omega
      · simp
theorem quoted_len : ∀ (n : Nat) {q : UInt8} {acc l b r : List UInt8}, l.length ≤ n → quotedL q acc l = some (b, r) → r.length < l.length ∧ b.length + r.length ≤ acc.length + l.length
  | n, q, acc, [], b, r, _, h => by rw [quoted_nil] at h; cases h
  | 0, q, acc, c :: l, b, r, hn, h => by simp at hn
  | n + 1, q, acc, c :: l, b, r, hn, h => by
    by_cases hq : c = q
    · subst hq
      rw [quoted_end] at h
      cases h
      simp
    · by_cases h92 : c.toNat = 92
      · cases l with
        | nil => rw [quoted_cut _ _ _ hq] at h; cases h
        | cons d l =>
          by_cases hd : d = q ∨ d.toNat = 92
          · rw [quoted_esc _ _ _ _ _ hq h92 hd] at h
            have := quoted_len n (by simp at hn; omega) h
            simp at this ⊢
            omega
          · rw [quoted_bad _ _ _ _ _ hq h92 hd] at h; cases h
      · rw [quoted_plain _ _ _ _ hq h92] at h
        have := quoted_len n (by simp at hn; omega) h
        simp at this ⊢
        omega
theorem dw_len (p : UInt8 → Bool) (l : List UInt8) : (l.dropWhile p).length ≤ l.length := (List.dropWhile_sublist p).length_le
theorem one_len {l : List UInt8} {k : Int} {t q : List UInt8} (h : one l = some (k, t, q)) : q.length < l.length := by
  cases l with
  | nil => cases h
  | cons c r =>
    have h : one1 c r = some (k, t, q) := h
    unfold one1 at h
    have h1 := dw_len wordB r
    have h2 := numR_len false r
    split at h
    · cases h; simp; omega
    · split at h
      · split at h
        · cases h; simp; omega
        · cases h
      · split at h
        · rw [Option.map_eq_some_iff] at h
          obtain ⟨p, hp, he⟩ := h
          cases he
          have := quoted_len _ (Nat.le_refl _) hp
          simp
          omega
        · split at h
          · cases h; simp; omega
          · split at h
            · cases h; simp
            · cases h
/-- What the scanner answers: the token's kind, its text and its place, and whether it is one; where the scanner stands then. -/
def NextV (l : List UInt8) (n : Nat) (kind : Int) (text : ByteArray) (at_ : Int) (ok : Bool) (k : Nat) : Prop :=
  match l with
  | [] => kind = 0 ∧ ok = true
  | c :: r => at_ = ((n - (c :: r).length : Nat) : Int) ∧ match one (c :: r) with
    | none => ok = false
    | some (kd, tx, q) => kind = kd ∧ text = ofL tx ∧ ok = true ∧ k = n - q.length
end Go.Proofs.Ytcmdcdjclmpncaa
