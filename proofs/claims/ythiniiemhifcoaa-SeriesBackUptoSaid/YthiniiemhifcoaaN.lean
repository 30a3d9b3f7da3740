/- The plain law of a series' parsing. No condition. -/
import Derived.Test.YthiniiemhifcoaaM
namespace Go.Proofs.Ythiniiemhifcoaa
open Go.RowKit Go.Sort
abbrev Tg := ByteArray × ByteArray
def kOf (L : List Tg) (i : Nat) : ByteArray := (L.getD i (⟨#[]⟩, ⟨#[]⟩)).1
def vOf (L : List Tg) (i : Nat) : ByteArray := (L.getD i (⟨#[]⟩, ⟨#[]⟩)).2
theorem scan_len : ∀ (n : Nat) {acc l b r : List UInt8}, l.length ≤ n → scan acc l = some (b, r) → r.length ≤ l.length ∧ b.length + r.length ≤ acc.length + l.length
  | n, acc, [], b, r, _, h => by
    simp [scan] at h
    obtain ⟨rfl, rfl⟩ := h
    simp
  | 0, acc, c :: l, b, r, hn, h => by simp at hn
  | n + 1, acc, c :: l, b, r, hn, h => by
    by_cases h92 : c.toNat = 92
    · cases l with
      | nil => rw [scan_end _ _ h92] at h; cases h
      | cons d l =>
        cases hs : spec d with
        | true =>
          rw [scan_esc _ _ _ _ h92 hs] at h
          have := scan_len n (by simp at hn; omega) h
          simp at this ⊢
          omega
        | false => rw [scan_bad _ _ _ _ h92 hs] at h; cases h
    · cases hs : spec c with
      | true =>
        rw [scan_stop _ _ _ h92 hs] at h
        simp at h
        obtain ⟨rfl, rfl⟩ := h
        simp
      | false =>
        rw [scan_plain _ _ _ h92 hs] at h
        have := scan_len n (by simp at hn; omega) h
        simp at this ⊢
        omega
def ploop (acc : List Tg) (r : List UInt8) : Option (List Tg × List UInt8) :=
  match r with
  | [] => some (acc, [])
  | c :: r1 =>
    if c.toNat = 44 then
      match h1 : scan [] r1 with
      | none => none
      | some (_, []) => none
      | some (kb, e :: r2) =>
        if e.toNat = 61 then
          match h2 : scan [] r2 with
          | none => none
          | some (vb, r3) => ploop (acc ++ [(ofL kb, ofL vb)]) r3
        else none
    else some (acc, c :: r1)
termination_by r.length
decreasing_by
  have a1 := (scan_len _ (Nat.le_refl _) h1).1
  have a2 := (scan_len _ (Nat.le_refl _) h2).1
  simp at a1 ⊢
  omega
theorem ploop_end (acc : List Tg) : ploop acc [] = some (acc, []) := by rw [ploop]
theorem ploop_stop (acc : List Tg) (c : UInt8) (r : List UInt8) (h : c.toNat ≠ 44) : ploop acc (c :: r) = some (acc, c :: r) := by rw [ploop]; simp [h]
theorem ploop_key_none (acc : List Tg) (c : UInt8) (r : List UInt8) (h : c.toNat = 44) (hk : scan [] r = none) : ploop acc (c :: r) = none := by
  rw [ploop, if_pos h]
  split
  · rfl
  · rfl
  · rename_i h1; rw [hk] at h1; cases h1
theorem ploop_key_end (acc : List Tg) (c : UInt8) (r kb : List UInt8) (h : c.toNat = 44) (hk : scan [] r = some (kb, [])) : ploop acc (c :: r) = none := by
  rw [ploop, if_pos h]
  split
  · rfl
  · rfl
  · rename_i h1; rw [hk] at h1; cases h1
theorem ploop_key_ne (acc : List Tg) (c e : UInt8) (r kb r2 : List UInt8) (h : c.toNat = 44) (hk : scan [] r = some (kb, e :: r2)) (he : e.toNat ≠ 61) : ploop acc (c :: r) = none := by
  rw [ploop, if_pos h]
  split
  · rfl
  · rfl
  · rename_i h1; rw [hk] at h1; cases h1; rw [if_neg he]
theorem ploop_val_none (acc : List Tg) (c e : UInt8) (r kb r2 : List UInt8) (h : c.toNat = 44) (hk : scan [] r = some (kb, e :: r2)) (he : e.toNat = 61) (hv : scan [] r2 = none) : ploop acc (c :: r) = none := by
  rw [ploop, if_pos h]
  split
  · rfl
  · rfl
  · rename_i h1; rw [hk] at h1; cases h1; rw [if_pos he]
    split
    · rfl
    · rename_i h2; rw [hv] at h2; cases h2
theorem ploop_step (acc : List Tg) (c e : UInt8) (r kb r2 vb r3 : List UInt8) (h : c.toNat = 44) (hk : scan [] r = some (kb, e :: r2)) (he : e.toNat = 61) (hv : scan [] r2 = some (vb, r3)) : ploop acc (c :: r) = ploop (acc ++ [(ofL kb, ofL vb)]) r3 := by
  rw [ploop, if_pos h]
  split
  · rename_i h1; rw [hk] at h1; cases h1
  · rename_i h1; rw [hk] at h1; cases h1
  · rename_i h1; rw [hk] at h1; cases h1; rw [if_pos he]
    split
    · rename_i h2; rw [hv] at h2; cases h2
    · rename_i h2; rw [hv] at h2; cases h2; rfl
theorem ploop_len : ∀ (n : Nat) {acc tags : List Tg} {r r' : List UInt8}, r.length ≤ n → ploop acc r = some (tags, r') → acc.length ≤ tags.length := by
  intro n
  induction n with
  | zero =>
    intro acc tags r r' hn h
    have : r = [] := List.eq_nil_of_length_eq_zero (by omega)
    subst this
    rw [ploop_end] at h
    cases h
    exact Nat.le_refl _
  | succ n ih =>
    intro acc tags r r' hn h
    cases r with
    | nil => rw [ploop_end] at h; cases h; exact Nat.le_refl _
    | cons c r =>
      by_cases h44 : c.toNat = 44
      · cases hk : scan [] r with
        | none => rw [ploop_key_none _ _ _ h44 hk] at h; cases h
        | some p =>
          obtain ⟨kb, q⟩ := p
          cases q with
          | nil => rw [ploop_key_end _ _ _ _ h44 hk] at h; cases h
          | cons e r2 =>
            by_cases h61 : e.toNat = 61
            · cases hv : scan [] r2 with
              | none => rw [ploop_val_none _ _ _ _ _ _ h44 hk h61 hv] at h; cases h
              | some p =>
                obtain ⟨vb, r3⟩ := p
                rw [ploop_step _ _ _ _ _ _ _ _ h44 hk h61 hv] at h
                have a1 := (scan_len _ (Nat.le_refl _) hk).1
                have a2 := (scan_len _ (Nat.le_refl _) hv).1
                simp at a1 hn
                have := ih (by omega) h
                simp at this
                omega
            · rw [ploop_key_ne _ _ _ _ _ _ h44 hk h61] at h; cases h
      · rw [ploop_stop _ _ _ h44] at h; cases h; exact Nat.le_refl _
def fin (name : ByteArray) (o : Option (List Tg × List UInt8)) : Option (ByteArray × List Tg) :=
  match o with
  | some (tags, []) => if formedB name tags.length (kOf tags) (vOf tags) then some (name, tags) else none
  | _ => none
def parse (t : List UInt8) : Option (ByteArray × List Tg) :=
  match scan [] t with
  | some (n, r) => fin (ofL n) (ploop [] r)
  | none => none
theorem fin_many (name : ByteArray) (acc : List Tg) (r : List UInt8) (h : 8 < acc.length) : fin name (ploop acc r) = none := by
  cases hp : ploop acc r with
  | none => rfl
  | some p =>
    obtain ⟨tags, r'⟩ := p
    have := ploop_len _ (Nat.le_refl _) hp
    cases r' with
    | nil =>
      simp only [fin]
      rw [if_neg]
      simp [formedB]
      intros
      omega
    | cons => rfl
end Go.Proofs.Ythiniiemhifcoaa
