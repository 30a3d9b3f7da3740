/- Several texts of this proof, laid together. Conditions: as each says. -/
import Derived.Test.YtigicmnngppipaaGreatDoorFAA
import Derived.Test.YtigicmnngppipaaGreatDoorFAB
import Derived.ScopeJumps
import Derived.WalkMore
/- A scope with several labels; a frame whose slots are read one by one; tokens: the plain law. No condition. -/
namespace Go.Proofs.YtigicmnngppipaaGreatDoor.Lx
open Go.RowKit
/-- As Q; by a goto to label l: J l. -/
def Jumps (J : Nat → Act → World → Prop) (Q : Exit → Act → World → Prop) : Exit → Act → World → Prop
  | .goto l, a, w => J l a w
  | e, a, w => Q e a w
theorem wp_scope_labels {P : Program} {a : Act} {w : World} {Q : Exit → Act → World → Prop} {c : Code} (J : Nat → Act → World → Prop) (μ : Nat → Act → World → Nat)
    (first : c.wp P (Jumps J Q) a w)
    (pass : ∀ l a w, J l a w → ∃ rest, findLabel c l = some rest ∧ rest.wp P (Jumps (fun l' a' w' => J l' a' w' ∧ μ l' a' w' < μ l a w) Q) a w) : (Code.scope c).wp P Q a w := by
  intro b k cs
  have key : ∀ n l a w, μ l a w = n → J l a w → ∃ rest, findLabel c l = some rest ∧ ∃ e a' w', Q e a' w' ∧ Arrives P (lone (b.at a (.code rest :: .inScope c :: k)) cs w) b k cs e a' w' := by
    intro n
    induction n using Nat.strongRecOn with
    | _ n ih =>
      intro l a w hn hJ
      obtain ⟨rest, hf, hp⟩ := pass l a w hJ
      refine ⟨rest, hf, ?_⟩
      obtain ⟨e, a₁, w₁, hq, harr⟩ := hp b (.inScope c :: k) cs
      cases e with
      | normal => exact ⟨.normal, a₁, w₁, hq, Steps.trans harr (.one step_inScope)⟩
      | exit id => exact ⟨.exit id, a₁, w₁, hq, fun k' hk => harr k' (by simp [exitTo, hk])⟩
      | goto l' =>
        obtain ⟨hJ', hlt⟩ := hq
        obtain ⟨rest', hf', e₂, a₂, w₂, hq₂, harr₂⟩ := ih _ (by omega) l' a₁ w₁ rfl hJ'
        exact ⟨e₂, a₂, w₂, hq₂, .of_steps (harr _ (by simp [gotoIn, hf'])) harr₂⟩
      | ret => exact ⟨_, a₁, w₁, hq, harr⟩
      | panic ch => exact ⟨_, a₁, w₁, hq, harr⟩
      | outgrown => exact ⟨_, a₁, w₁, hq, harr⟩
  obtain ⟨e, a₁, w₁, hq, harr⟩ := first b (.inScope c :: k) cs
  cases e with
  | normal => exact ⟨.normal, a₁, w₁, hq, .head step_scope (Steps.trans harr (.one step_inScope))⟩
  | exit id => exact ⟨.exit id, a₁, w₁, hq, fun k' hk => .head step_scope (harr k' (by simp [exitTo, hk]))⟩
  | goto l' =>
    obtain ⟨rest, hf, e₂, a₂, w₂, hq₂, harr₂⟩ := key _ l' a₁ w₁ rfl hq
    exact ⟨e₂, a₂, w₂, hq₂, .of_steps (.head step_scope (harr _ (by simp [gotoIn, hf]))) harr₂⟩
  | ret => exact ⟨_, a₁, w₁, hq, .of_steps (.one step_scope) harr⟩
  | panic ch => exact ⟨_, a₁, w₁, hq, .of_steps (.one step_scope) harr⟩
  | outgrown => exact ⟨_, a₁, w₁, hq, .of_steps (.one step_scope) harr⟩
theorem all_slots (xs : Array Value) (n : Nat) (h : xs.size = n) : xs = ((List.range n).map fun i => xs.getD i undef).toArray := by
  subst h
  apply Array.ext
  · simp
  · intro i h1 h2
    simp [Array.getD, h1]
set_option maxRecDepth 100000 in
theorem slots272 (xs : Array Value) (h : xs.size = 272) : xs = #[xs.getD 0 undef, xs.getD 1 undef, xs.getD 2 undef, xs.getD 3 undef, xs.getD 4 undef, xs.getD 5 undef, xs.getD 6 undef, xs.getD 7 undef, xs.getD 8 undef, xs.getD 9 undef, xs.getD 10 undef, xs.getD 11 undef, xs.getD 12 undef, xs.getD 13 undef, xs.getD 14 undef, xs.getD 15 undef, xs.getD 16 undef, xs.getD 17 undef, xs.getD 18 undef, xs.getD 19 undef, xs.getD 20 undef, xs.getD 21 undef, xs.getD 22 undef, xs.getD 23 undef, xs.getD 24 undef, xs.getD 25 undef, xs.getD 26 undef, xs.getD 27 undef, xs.getD 28 undef, xs.getD 29 undef, xs.getD 30 undef, xs.getD 31 undef, xs.getD 32 undef, xs.getD 33 undef, xs.getD 34 undef, xs.getD 35 undef, xs.getD 36 undef, xs.getD 37 undef, xs.getD 38 undef, xs.getD 39 undef, xs.getD 40 undef, xs.getD 41 undef, xs.getD 42 undef, xs.getD 43 undef, xs.getD 44 undef, xs.getD 45 undef, xs.getD 46 undef, xs.getD 47 undef, xs.getD 48 undef, xs.getD 49 undef, xs.getD 50 undef, xs.getD 51 undef, xs.getD 52 undef, xs.getD 53 undef, xs.getD 54 undef, xs.getD 55 undef, xs.getD 56 undef, xs.getD 57 undef, xs.getD 58 undef, xs.getD 59 undef, xs.getD 60 undef, xs.getD 61 undef, xs.getD 62 undef, xs.getD 63 undef, xs.getD 64 undef, xs.getD 65 undef, xs.getD 66 undef, xs.getD 67 undef, xs.getD 68 undef, xs.getD 69 undef, xs.getD 70 undef, xs.getD 71 undef, xs.getD 72 undef, xs.getD 73 undef, xs.getD 74 undef, xs.getD 75 undef, xs.getD 76 undef, xs.getD 77 undef, xs.getD 78 undef, xs.getD 79 undef, xs.getD 80 undef, xs.getD 81 undef, xs.getD 82 undef, xs.getD 83 undef, xs.getD 84 undef, xs.getD 85 undef, xs.getD 86 undef, xs.getD 87 undef, xs.getD 88 undef, xs.getD 89 undef, xs.getD 90 undef, xs.getD 91 undef, xs.getD 92 undef, xs.getD 93 undef, xs.getD 94 undef, xs.getD 95 undef, xs.getD 96 undef, xs.getD 97 undef, xs.getD 98 undef, xs.getD 99 undef, xs.getD 100 undef, xs.getD 101 undef, xs.getD 102 undef, xs.getD 103 undef, xs.getD 104 undef, xs.getD 105 undef, xs.getD 106 undef, xs.getD 107 undef, xs.getD 108 undef, xs.getD 109 undef, xs.getD 110 undef, xs.getD 111 undef, xs.getD 112 undef, xs.getD 113 undef, xs.getD 114 undef, xs.getD 115 undef, xs.getD 116 undef, xs.getD 117 undef, xs.getD 118 undef, xs.getD 119 undef, xs.getD 120 undef, xs.getD 121 undef, xs.getD 122 undef, xs.getD 123 undef, xs.getD 124 undef, xs.getD 125 undef, xs.getD 126 undef, xs.getD 127 undef, xs.getD 128 undef, xs.getD 129 undef, xs.getD 130 undef, xs.getD 131 undef, xs.getD 132 undef, xs.getD 133 undef, xs.getD 134 undef, xs.getD 135 undef, xs.getD 136 undef, xs.getD 137 undef, xs.getD 138 undef, xs.getD 139 undef, xs.getD 140 undef, xs.getD 141 undef, xs.getD 142 undef, xs.getD 143 undef, xs.getD 144 undef, xs.getD 145 undef, xs.getD 146 undef, xs.getD 147 undef, xs.getD 148 undef, xs.getD 149 undef, xs.getD 150 undef, xs.getD 151 undef, xs.getD 152 undef, xs.getD 153 undef, xs.getD 154 undef, xs.getD 155 undef, xs.getD 156 undef, xs.getD 157 undef, xs.getD 158 undef, xs.getD 159 undef, xs.getD 160 undef, xs.getD 161 undef, xs.getD 162 undef, xs.getD 163 undef, xs.getD 164 undef, xs.getD 165 undef, xs.getD 166 undef, xs.getD 167 undef, xs.getD 168 undef, xs.getD 169 undef, xs.getD 170 undef, xs.getD 171 undef, xs.getD 172 undef, xs.getD 173 undef, xs.getD 174 undef, xs.getD 175 undef, xs.getD 176 undef, xs.getD 177 undef, xs.getD 178 undef, xs.getD 179 undef, xs.getD 180 undef, xs.getD 181 undef, xs.getD 182 undef, xs.getD 183 undef, xs.getD 184 undef, xs.getD 185 undef, xs.getD 186 undef, xs.getD 187 undef, xs.getD 188 undef, xs.getD 189 undef, xs.getD 190 undef, xs.getD 191 undef, xs.getD 192 undef, xs.getD 193 undef, xs.getD 194 undef, xs.getD 195 undef, xs.getD 196 undef, xs.getD 197 undef, xs.getD 198 undef, xs.getD 199 undef, xs.getD 200 undef, xs.getD 201 undef, xs.getD 202 undef, xs.getD 203 undef, xs.getD 204 undef, xs.getD 205 undef, xs.getD 206 undef, xs.getD 207 undef, xs.getD 208 undef, xs.getD 209 undef, xs.getD 210 undef, xs.getD 211 undef, xs.getD 212 undef, xs.getD 213 undef, xs.getD 214 undef, xs.getD 215 undef, xs.getD 216 undef, xs.getD 217 undef, xs.getD 218 undef, xs.getD 219 undef, xs.getD 220 undef, xs.getD 221 undef, xs.getD 222 undef, xs.getD 223 undef, xs.getD 224 undef, xs.getD 225 undef, xs.getD 226 undef, xs.getD 227 undef, xs.getD 228 undef, xs.getD 229 undef, xs.getD 230 undef, xs.getD 231 undef, xs.getD 232 undef, xs.getD 233 undef, xs.getD 234 undef, xs.getD 235 undef, xs.getD 236 undef, xs.getD 237 undef, xs.getD 238 undef, xs.getD 239 undef, xs.getD 240 undef, xs.getD 241 undef, xs.getD 242 undef, xs.getD 243 undef, xs.getD 244 undef, xs.getD 245 undef, xs.getD 246 undef, xs.getD 247 undef, xs.getD 248 undef, xs.getD 249 undef, xs.getD 250 undef, xs.getD 251 undef, xs.getD 252 undef, xs.getD 253 undef, xs.getD 254 undef, xs.getD 255 undef, xs.getD 256 undef, xs.getD 257 undef, xs.getD 258 undef, xs.getD 259 undef, xs.getD 260 undef, xs.getD 261 undef, xs.getD 262 undef, xs.getD 263 undef, xs.getD 264 undef, xs.getD 265 undef, xs.getD 266 undef, xs.getD 267 undef, xs.getD 268 undef, xs.getD 269 undef, xs.getD 270 undef, xs.getD 271 undef] := all_slots xs 272 h
end Go.Proofs.YtigicmnngppipaaGreatDoor.Lx
/- Tokens: what the document says, on lists of bytes. No condition. -/
namespace Go.Proofs.YtigicmnngppipaaGreatDoor.Lx
open Go.RowKit
def wordB (c : UInt8) : Bool := letterB c || digitB c
def blankB (c : UInt8) : Bool := decide (c.toNat = 32) || (decide (c.toNat = 9) || decide (c.toNat = 10))
def ofL (l : List UInt8) : ByteArray := ⟨l.toArray⟩
/-- What is left behind a number's further bytes; whether its point was met. -/
def numR : Bool → List UInt8 → List UInt8
  | _, [] => []
  | p, c :: r => if digitB c then numR p r else if !p && (decide (c.toNat = 46) && digitB (hd r)) then numR true r else c :: r
/-- What stands between quotes, behind what was gathered, and what is left; none: they don't end. -/
def quotedL (q : UInt8) (acc : List UInt8) : List UInt8 → Option (List UInt8 × List UInt8)
  | [] => none
  | [c] => if c = q then some (acc, []) else none
  | c :: d :: l => if c = q then some (acc, d :: l) else if c.toNat = 92 then (if d = q ∨ d.toNat = 92 then quotedL q (acc ++ [d]) l else none) else quotedL q (acc ++ [c]) (d :: l)
theorem quoted_end (q : UInt8) (acc l : List UInt8) : quotedL q acc (q :: l) = some (acc, l) := by
  cases l with
  | nil => simp [quotedL]
  | cons d l => rw [quotedL]; simp
theorem quoted_plain (q : UInt8) (acc : List UInt8) (c : UInt8) (l : List UInt8) (h : c ≠ q) (h92 : c.toNat ≠ 92) : quotedL q acc (c :: l) = quotedL q (acc ++ [c]) l := by
  cases l with
  | nil => simp [quotedL, h]
  | cons d l => rw [quotedL]; simp [h, h92]
theorem quoted_esc (q : UInt8) (acc : List UInt8) (c d : UInt8) (l : List UInt8) (h : c ≠ q) (h92 : c.toNat = 92) (hd : d = q ∨ d.toNat = 92) : quotedL q acc (c :: d :: l) = quotedL q (acc ++ [d]) l := by
  rw [quotedL]; simp [h, h92, hd]
theorem quoted_bad (q : UInt8) (acc : List UInt8) (c d : UInt8) (l : List UInt8) (h : c ≠ q) (h92 : c.toNat = 92) (hd : ¬ (d = q ∨ d.toNat = 92)) : quotedL q acc (c :: d :: l) = none := by
  rw [quotedL]; simp [h, h92, hd]
theorem quoted_cut (q : UInt8) (acc : List UInt8) (c : UInt8) (h : c ≠ q) : quotedL q acc [c] = none := by simp [quotedL, h]
theorem quoted_nil (q : UInt8) (acc : List UInt8) : quotedL q acc [] = none := rfl
def quoteB (c : UInt8) : Bool := decide (c.toNat = 34) || decide (c.toNat = 39)
def minus (c : UInt8) (r : List UInt8) : Bool := decide (c.toNat = 45) && digitB (hd r)
def cmpB (c : UInt8) : Bool := decide (c.toNat = 60) || decide (c.toNat = 62) || decide (c.toNat = 33)
def signB (c : UInt8) : Bool := decide (c.toNat = 40) || (decide (c.toNat = 41) || (decide (c.toNat = 44) || (decide (c.toNat = 42) || (decide (c.toNat = 61) || (decide (c.toNat = 60) || decide (c.toNat = 62))))))
abbrev One := Option (Int × List UInt8 × List UInt8)
def pre (l q : List UInt8) : List UInt8 := l.take (l.length - q.length)
/-- The token at a text's head that is no blank: its kind, its text, what is left; none: there is none. -/
def one1 (c : UInt8) (r : List UInt8) : One :=
    if letterB c then some (1, pre (c :: r) (r.dropWhile wordB), r.dropWhile wordB)
    else if digitB c || minus c r then (if (c :: r).length - (numR false r).length ≤ 40 then some (3, pre (c :: r) (numR false r), numR false r) else none)
    else if quoteB c then (quotedL c [] r).map fun p => (if c.toNat = 39 then 4 else 2, p.1, p.2)
    else if cmpB c && decide ((hd r).toNat = 61) then some (5, pre (c :: r) (r.drop 1), r.drop 1)
    else if signB c then some (5, [c], r)
    else none
def one : List UInt8 → One
  | [] => none
  | c :: r => one1 c r
theorem numR_len : ∀ (p : Bool) (l : List UInt8), (numR p l).length ≤ l.length
  | _, [] => by simp [numR]
  | p, c :: r => by
    have h1 := numR_len p r
    have h2 := numR_len true r
    unfold numR
    split
    · simp; omega
    · split
      · simp; omega
      · simp
theorem quoted_len : ∀ (n : Nat) {q : UInt8} {acc l b r : List UInt8}, l.length ≤ n → quotedL q acc l = some (b, r) → r.length < l.length ∧ b.length + r.length ≤ acc.length + l.length
  | n, q, acc, [], b, r, _, h => by rw [quoted_nil] at h; cases h
  | 0, q, acc, c :: l, b, r, hn, h => by simp at hn
  | n + 1, q, acc, c :: l, b, r, hn, h => by
    by_cases hq : c = q
    · subst hq
      rw [quoted_end] at h
      cases h
      simp
    · by_cases h92 : c.toNat = 92
      · cases l with
        | nil => rw [quoted_cut _ _ _ hq] at h; cases h
        | cons d l =>
          by_cases hd : d = q ∨ d.toNat = 92
          · rw [quoted_esc _ _ _ _ _ hq h92 hd] at h
            have := quoted_len n (by simp at hn; omega) h
            simp at this ⊢
            omega
          · rw [quoted_bad _ _ _ _ _ hq h92 hd] at h; cases h
      · rw [quoted_plain _ _ _ _ hq h92] at h
        have := quoted_len n (by simp at hn; omega) h
        simp at this ⊢
        omega
theorem dw_len (p : UInt8 → Bool) (l : List UInt8) : (l.dropWhile p).length ≤ l.length := (List.dropWhile_sublist p).length_le
theorem one_len {l : List UInt8} {k : Int} {t q : List UInt8} (h : one l = some (k, t, q)) : q.length < l.length := by
  cases l with
  | nil => cases h
  | cons c r =>
    have h : one1 c r = some (k, t, q) := h
    unfold one1 at h
    have h1 := dw_len wordB r
    have h2 := numR_len false r
    split at h
    · cases h; simp; omega
    · split at h
      · split at h
        · cases h; simp; omega
        · cases h
      · split at h
        · rw [Option.map_eq_some_iff] at h
          obtain ⟨p, hp, he⟩ := h
          cases he
          have := quoted_len _ (Nat.le_refl _) hp
          simp
          omega
        · split at h
          · cases h; simp; omega
          · split at h
            · cases h; simp
            · cases h
/-- What the scanner answers: the token's kind, its text and its place, and whether it is one; where the scanner stands then. -/
def NextV (l : List UInt8) (n : Nat) (kind : Int) (text : ByteArray) (at_ : Int) (ok : Bool) (k : Nat) : Prop :=
  match l with
  | [] => kind = 0 ∧ ok = true
  | c :: r => at_ = ((n - (c :: r).length : Nat) : Int) ∧ match one (c :: r) with
    | none => ok = false
    | some (kd, tx, q) => kind = kd ∧ text = ofL tx ∧ ok = true ∧ k = n - q.length
end Go.Proofs.YtigicmnngppipaaGreatDoor.Lx
/- The scanner's labels: what holds at each, and the walk from each of them to the next. Condition: the text's length. -/
namespace Go.Proofs.YtigicmnngppipaaGreatDoor.Lx
open Go.RowKit
def firstScope : Code → Option Code
  | .scope c => some c
  | .seq a b => match firstScope a with
    | some c => some c
    | none => firstScope b
  | .block _ c => firstScope c
  | _ => none
def BOwn (w : World) (base : Nat) (v : Value) (l : List UInt8) : Prop := w.ownsRow base 5 1 v l.length (Lib.byteCells l)
/-- The scanner at block X, the token at the call's first block; nothing else has turned. -/
def Wd (s : ByteArray) (X : Nat) (w wr : World) (k : Nat) (kind : Int) (text : ByteArray) (at_ : Int) : Prop :=
  wr.heap[X]? = some (.cells #[.string s, .int .i64 k] 95 (0, 0)) ∧ wr.heap[w.heap.size]? = some (.cells #[.int .i64 kind, .string text, .int .i64 at_] 96 (0, 0)) ∧ X < w.heap.size ∧ w.grownBy wr (some X)
section
variable {s text : ByteArray} {X k : Nat} {w wr w1 : World} {kind at_ : Int}
theorem Wd.cells (h : Wd s X w wr k kind text at_) : wr.cell? ⟨X, 0, none⟩ = some (.string s) ∧ wr.cell? ⟨X, 1, none⟩ = some (.int .i64 k) ∧ wr.frozen? ⟨X, 1, none⟩ = false := by
  simp [World.cell?, World.frozen?, h.1]
theorem Wd.tok (h : Wd s X w wr k kind text at_) : wr.cell? ⟨w.heap.size, 0, none⟩ = some (.int .i64 kind) ∧ wr.cell? ⟨w.heap.size, 1, none⟩ = some (.string text) ∧ wr.cell? ⟨w.heap.size, 2, none⟩ = some (.int .i64 at_) ∧
    wr.frozen? ⟨w.heap.size, 0, none⟩ = false ∧ wr.frozen? ⟨w.heap.size, 1, none⟩ = false ∧ wr.frozen? ⟨w.heap.size, 2, none⟩ = false := by
  simp [World.cell?, World.frozen?, h.2.1]
theorem grown_set {a w : World} {g : Nat} (h : a.grownBy w (some g)) {p : Addr} (hp : p.block = g ∨ a.heap.size ≤ p.block) (u : Value) : a.grownBy (w.setCell p u) (some g) :=
  ⟨h.os, h.tape, h.output, by simpa [World.setCell] using h.size, fun i hi hne => (Below.heap_setCell w p u i (by
    rintro rfl
    rcases hp with hp | hp
    · exact hne (by rw [hp])
    · omega)).trans (h.block i hi hne)⟩
theorem Wd.setK (h : Wd s X w wr k kind text at_) (k' : Nat) (u : Value) (hu : u = .int .i64 k') : Wd s X w (wr.setCell ⟨X, 1, none⟩ u) k' kind text at_ := by
  obtain ⟨h0, h1, h2, h3⟩ := h
  subst hu
  exact ⟨by rw [heap_setCell_same _ _ _ _ _ _ h0]; rfl, by rw [Below.heap_setCell _ _ _ _ (by simp; omega)]; exact h1, h2, grown_set h3 (.inl rfl) _⟩
theorem Wd.setKind (h : Wd s X w wr k kind text at_) (n : Int) : Wd s X w (wr.setCell ⟨w.heap.size, 0, none⟩ (.int .i64 n)) k n text at_ := by
  obtain ⟨h0, h1, h2, h3⟩ := h
  exact ⟨by rw [Below.heap_setCell _ _ _ _ (by simp; omega)]; exact h0, by rw [heap_setCell_same _ _ _ _ _ _ h1]; rfl, h2, grown_set h3 (.inr (Nat.le_refl _)) _⟩
theorem Wd.setText (h : Wd s X w wr k kind text at_) (n : ByteArray) : Wd s X w (wr.setCell ⟨w.heap.size, 1, none⟩ (.string n)) k kind n at_ := by
  obtain ⟨h0, h1, h2, h3⟩ := h
  exact ⟨by rw [Below.heap_setCell _ _ _ _ (by simp; omega)]; exact h0, by rw [heap_setCell_same _ _ _ _ _ _ h1]; rfl, h2, grown_set h3 (.inr (Nat.le_refl _)) _⟩
theorem Wd.setAt (h : Wd s X w wr k kind text at_) (n : Int) : Wd s X w (wr.setCell ⟨w.heap.size, 2, none⟩ (.int .i64 n)) k kind text n := by
  obtain ⟨h0, h1, h2, h3⟩ := h
  exact ⟨by rw [Below.heap_setCell _ _ _ _ (by simp; omega)]; exact h0, by rw [heap_setCell_same _ _ _ _ _ _ h1]; rfl, h2, grown_set h3 (.inr (Nat.le_refl _)) _⟩
theorem Wd.drewN (h : Wd s X w wr k kind text at_) (n : Nat) : Wd s X w (wr.drewN n) k kind text at_ := by
  obtain ⟨h0, h1, h2, h3⟩ := h
  exact ⟨h0, h1, h2, ⟨h3.os, h3.tape, h3.output, h3.size, h3.block⟩⟩
theorem Wd.drew (h : Wd s X w wr k kind text at_) : Wd s X w wr.drew k kind text at_ := by
  obtain ⟨h0, h1, h2, h3⟩ := h
  exact ⟨h0, h1, h2, ⟨h3.os, h3.tape, h3.output, h3.size, h3.block⟩⟩
/-- The token is stored into its own place. -/
theorem Wd.selfStore (h : Wd s X w wr k kind text at_) : Wd s X w (((wr.setCell ⟨w.heap.size, 0, none⟩ (.int .i64 kind)).setCell ⟨w.heap.size, 1, none⟩ (.string text)).setCell ⟨w.heap.size, 2, none⟩ (.int .i64 at_)) k kind text at_ :=
  ((h.setKind kind).setText text).setAt at_
theorem Wd.same (h : Wd s X w wr k kind text at_) (h0 : w1.heap = wr.heap) (ho : w1.os = wr.os) (ht : w1.tape = wr.tape) (hp : w1.output = wr.output) : Wd s X w w1 k kind text at_ := by
  obtain ⟨g0, g1, g2, g3⟩ := h
  exact ⟨by rw [h0]; exact g0, by rw [h0]; exact g1, g2, ⟨ho.trans g3.os, ht.trans g3.tape, hp.trans g3.output, by rw [h0]; exact g3.size, fun i hi hne => by rw [h0]; exact g3.block i hi hne⟩⟩
end
def kOfW (X : Nat) (wr : World) : Nat := match wr.cell? ⟨X, 1, none⟩ with
  | some (.int _ i) => i.toNat
  | _ => 0
theorem Wd.kOfW {s text : ByteArray} {X k : Nat} {w wr : World} {kind at_ : Int} (h : Wd s X w wr k kind text at_) : kOfW X wr = k := by
  unfold YtigicmnngppipaaGreatDoor.Lx.kOfW
  rw [h.cells.2.1]
  simp
def rank : Nat → Nat
  | 0 => 2
  | 4 => 0
  | _ => 1
def mu (s : ByteArray) (X : Nat) (l : Nat) (_ : Act) (wr : World) : Nat := 3 * (s.size - kOfW X wr) + rank l
def Fr (X : Nat) (w : World) (a : Act) : Prop := a.defers = [] ∧ a.tmps.size = 272 ∧ a.tmps.getD 0 undef = .pointer (some ⟨X, 0, none⟩) ∧ a.tmps.getD 2 undef = .pointer (some ⟨w.heap.size, 0, none⟩)
/-- At each label; l: the text from the token's first byte on. -/
def J0 (s : ByteArray) (l : List UInt8) (X : Nat) (w : World) (a : Act) (wr : World) : Prop :=
  Fr X w a ∧ a.tmps.getD 4 undef = .slice none 0 0 ∧ a.tmps.getD 6 undef = .bool false ∧ ∃ k at_, Wd s X w wr k 0 ⟨#[]⟩ at_ ∧ k ≤ s.size ∧ (s.data.toList.drop k).dropWhile blankB = l
def J1 (s : ByteArray) (l : List UInt8) (X : Nat) (w : World) (a : Act) (wr : World) : Prop :=
  Fr X w a ∧ ∃ k kind at_, Wd s X w wr k kind ⟨#[]⟩ ((at_ : Nat) : Int) ∧ at_ < k ∧ k ≤ s.size ∧ l = s.data.toList.drop at_ ∧ one l = some (1, pre l ((s.data.toList.drop k).dropWhile wordB), (s.data.toList.drop k).dropWhile wordB)
def numOne (l : List UInt8) (q : List UInt8) : One := if l.length - q.length ≤ 40 then some (3, pre l q, q) else none
def J2 (s : ByteArray) (l : List UInt8) (X : Nat) (w : World) (a : Act) (wr : World) : Prop :=
  Fr X w a ∧ ∃ k kind at_ p, a.tmps.getD 6 undef = .bool p ∧ Wd s X w wr k kind ⟨#[]⟩ ((at_ : Nat) : Int) ∧ at_ < k ∧ k ≤ s.size ∧ l = s.data.toList.drop at_ ∧ one l = numOne l (numR p (s.data.toList.drop k))
def quoOne (c : UInt8) (o : Option (List UInt8 × List UInt8)) : One := o.map fun p => (if c.toNat = 39 then 4 else 2, p.1, p.2)
def J3 (s : ByteArray) (l : List UInt8) (X : Nat) (w : World) (a : Act) (wr : World) : Prop :=
  Fr X w a ∧ ∃ k kind at_ c v acc, a.tmps.getD 5 undef = .int .u8 (c : UInt8).toNat ∧ a.tmps.getD 4 undef = v ∧ BOwn wr (w.heap.size + 1) v acc ∧ acc.length ≤ k ∧ Wd s X w wr k kind ⟨#[]⟩ ((at_ : Nat) : Int) ∧ at_ < k ∧ k ≤ s.size ∧ l = s.data.toList.drop at_ ∧
    c.toNat ≠ 92 ∧ one l = quoOne c (quotedL c acc (s.data.toList.drop k))
def J4 (s : ByteArray) (l : List UInt8) (X : Nat) (w : World) (a : Act) (wr : World) : Prop :=
  Fr X w a ∧ ∃ k kind at_, Wd s X w wr k kind ⟨#[]⟩ ((at_ : Nat) : Int) ∧ at_ < k ∧ k ≤ s.size ∧ l = s.data.toList.drop at_ ∧ one l = some (kind, pre l (s.data.toList.drop k), s.data.toList.drop k)
def JL (s : ByteArray) (l : List UInt8) (X : Nat) (w : World) : Nat → Act → World → Prop
  | 0 => J0 s l X w
  | 1 => J1 s l X w
  | 2 => J2 s l X w
  | 3 => J3 s l X w
  | 4 => J4 s l X w
  | _ => fun _ _ => False
/-- What holds where the scanner returns. -/
def Ret (s : ByteArray) (l : List UInt8) (X : Nat) (w : World) (a : Act) (wr : World) : Prop :=
  Fr X w a ∧ ∃ kind text at_ ok k, a.tmps.getD 3 undef = .bool ok ∧ Wd s X w wr k kind text at_ ∧ k ≤ s.size ∧ NextV l s.size kind text at_ ok k
theorem dw_step {s : ByteArray} {p : UInt8 → Bool} {k : Nat} (h0 : p 0 = false) (h : p (hd (s.data.toList.drop k)) = true) : k < s.size ∧ (s.data.toList.drop k).dropWhile p = (s.data.toList.drop (k + 1)).dropWhile p := by
  by_cases hk : k < s.size
  · rw [hd_in s k hk] at h
    rw [drop_cons s k hk, List.dropWhile_cons, if_pos h]
    exact ⟨hk, rfl⟩
  · rw [hd_out s k hk, h0] at h; cases h
theorem dw_stop {s : ByteArray} {p : UInt8 → Bool} {k : Nat} (h : p (hd (s.data.toList.drop k)) = false) : (s.data.toList.drop k).dropWhile p = s.data.toList.drop k := by
  by_cases hk : k < s.size
  · rw [hd_in s k hk] at h
    rw [drop_cons s k hk, List.dropWhile_cons, if_neg (by simp [h])]
  · rw [List.drop_eq_nil_of_le (by simp; omega)]; rfl
set_option maxRecDepth 100000 in
theorem frame_of (a : Act) (hs : a.tmps.size = 272) (hd : a.defers = []) : ∃ f : Nat → Value, a = ⟨#[f 0, f 1, f 2, f 3, f 4, f 5, f 6, f 7, f 8, f 9, f 10, f 11, f 12, f 13, f 14, f 15, f 16, f 17, f 18, f 19, f 20, f 21, f 22, f 23, f 24, f 25, f 26, f 27, f 28, f 29, f 30, f 31, f 32, f 33, f 34, f 35, f 36, f 37, f 38, f 39, f 40, f 41, f 42, f 43, f 44, f 45, f 46, f 47, f 48, f 49, f 50, f 51, f 52, f 53, f 54, f 55, f 56, f 57, f 58, f 59, f 60, f 61, f 62, f 63, f 64, f 65, f 66, f 67, f 68, f 69, f 70, f 71, f 72, f 73, f 74, f 75, f 76, f 77, f 78, f 79, f 80, f 81, f 82, f 83, f 84, f 85, f 86, f 87, f 88, f 89, f 90, f 91, f 92, f 93, f 94, f 95, f 96, f 97, f 98, f 99, f 100, f 101, f 102, f 103, f 104, f 105, f 106, f 107, f 108, f 109, f 110, f 111, f 112, f 113, f 114, f 115, f 116, f 117, f 118, f 119, f 120, f 121, f 122, f 123, f 124, f 125, f 126, f 127, f 128, f 129, f 130, f 131, f 132, f 133, f 134, f 135, f 136, f 137, f 138, f 139, f 140, f 141, f 142, f 143, f 144, f 145, f 146, f 147, f 148, f 149, f 150, f 151, f 152, f 153, f 154, f 155, f 156, f 157, f 158, f 159, f 160, f 161, f 162, f 163, f 164, f 165, f 166, f 167, f 168, f 169, f 170, f 171, f 172, f 173, f 174, f 175, f 176, f 177, f 178, f 179, f 180, f 181, f 182, f 183, f 184, f 185, f 186, f 187, f 188, f 189, f 190, f 191, f 192, f 193, f 194, f 195, f 196, f 197, f 198, f 199, f 200, f 201, f 202, f 203, f 204, f 205, f 206, f 207, f 208, f 209, f 210, f 211, f 212, f 213, f 214, f 215, f 216, f 217, f 218, f 219, f 220, f 221, f 222, f 223, f 224, f 225, f 226, f 227, f 228, f 229, f 230, f 231, f 232, f 233, f 234, f 235, f 236, f 237, f 238, f 239, f 240, f 241, f 242, f 243, f 244, f 245, f 246, f 247, f 248, f 249, f 250, f 251, f 252, f 253, f 254, f 255, f 256, f 257, f 258, f 259, f 260, f 261, f 262, f 263, f 264, f 265, f 266, f 267, f 268, f 269, f 270, f 271], []⟩ ∧ ∀ i, a.tmps.getD i undef = f i := by
  obtain ⟨xs, ds⟩ := a
  simp only at hs hd
  subst hd
  exact ⟨fun i => xs.getD i undef, by rw [← slots272 xs hs], fun _ => rfl⟩
theorem peek0 (s : ByteArray) (X k : Nat) (w : World) (hs : s.size ≤ 1048576) (hk : k ≤ s.size) (h0 : w.cell? ⟨X, 0, none⟩ = some (.string s)) (h1 : w.cell? ⟨X, 1, none⟩ = some (.int .i64 k)) :
    Calls Tryz.prog 68 #[.pointer (some ⟨X, 0, none⟩), .int .i64 0] w fun e w' => e = .returned (.int .u8 (hd (s.data.toList.drop k)).toNat) ∧ ∃ m, w' = w.drewN m := by
  have := peek s X k 0 w hs hk (by omega) h0 h1
  simpa using this
theorem peek1 (s : ByteArray) (X k : Nat) (w : World) (hs : s.size ≤ 1048576) (hk : k ≤ s.size) (h0 : w.cell? ⟨X, 0, none⟩ = some (.string s)) (h1 : w.cell? ⟨X, 1, none⟩ = some (.int .i64 k)) :
    Calls Tryz.prog 68 #[.pointer (some ⟨X, 0, none⟩), .int .i64 1] w fun e w' => e = .returned (.int .u8 (hd (s.data.toList.drop (k + 1))).toNat) ∧ ∃ m, w' = w.drewN m := by
  have := peek s X k 1 w hs hk (by omega) h0 h1
  simpa using this
end Go.Proofs.YtigicmnngppipaaGreatDoor.Lx
/- The walk from a word's label on. Condition: the text's length. -/
namespace Go.Proofs.YtigicmnngppipaaGreatDoor.Lx
open Go.RowKit
theorem word0 : wordB 0 = false := by decide
set_option maxRecDepth 100000 in
set_option maxHeartbeats 1000000 in
theorem pass1 (s : ByteArray) (l : List UInt8) (X : Nat) (w : World) (hs : s.size ≤ 1048576) (Q : Exit → Act → World → Prop) (hret : ∀ a' w', Ret s l X w a' w' → Q .ret a' w') (rest : Code) (hr : (Tryz.f41.body.bind firstScope).bind (findLabel · 1) = some rest)
    (a : Act) (wr : World) (hJ : J1 s l X w a wr) : rest.wp Tryz.prog (Jumps (fun l' a' w' => JL s l X w l' a' w' ∧ mu s X l' a' w' < mu s X 1 a wr) Q) a wr := by
  change some _ = some rest at hr
  cases hr
  obtain ⟨⟨hd0, hsz, g0, g2⟩, k, kind, at_, hw, hlt, hk, hl, hone⟩ := hJ
  have hmu : mu s X 1 a wr = 3 * (s.size - k) + 1 := by simp [mu, hw.kOfW, rank]
  rw [hmu]
  obtain ⟨f, rfl, hf⟩ := frame_of a hsz hd0
  rw [hf] at g0 g2
  rw [g0, g2]
  clear hf hsz hd0 g0 g2 hmu
  have HL := Lib.hid hl
  have HONE := Lib.hid hone
  have HRET := Lib.hid hret
  have x0 : wr.cell? ⟨X, 0, none⟩ = some (.string s) := hw.cells.1
  have x1 : wr.cell? ⟨X, 1, none⟩ = some (.int .i64 (k : Nat)) := hw.cells.2.1
  have xf : wr.frozen? ⟨X, 1, none⟩ = false := hw.cells.2.2
  have t0 : wr.cell? ⟨w.heap.size, 0, none⟩ = some (.int .i64 kind) := hw.tok.1
  have t1 : wr.cell? ⟨w.heap.size, 1, none⟩ = some (.string ⟨#[]⟩) := hw.tok.2.1
  have t2 : wr.cell? ⟨w.heap.size, 2, none⟩ = some (.int .i64 at_) := hw.tok.2.2.1
  have tf0 : wr.frozen? ⟨w.heap.size, 0, none⟩ = false := hw.tok.2.2.2.1
  have tf1 : wr.frozen? ⟨w.heap.size, 1, none⟩ = false := hw.tok.2.2.2.2.1
  have tf2 : wr.frozen? ⟨w.heap.size, 2, none⟩ = false := hw.tok.2.2.2.2.2
  have hw1 := hw.setKind 1
  obtain ⟨w1, he1⟩ : ∃ w1, wr.setCell ⟨w.heap.size, 0, none⟩ (.int .i64 1) = w1 := ⟨_, rfl⟩
  rw [he1] at hw1
  have HW := Lib.hid hw1
  go_wp2_with fail
  clear he1 hl hone hret x0 x1 xf t0 t1 t2 tf0 tf1 tf2
  have x0 : w1.cell? ⟨X, 0, none⟩ = some (.string s) := hw1.cells.1
  have x1 : w1.cell? ⟨X, 1, none⟩ = some (.int .i64 (k : Nat)) := hw1.cells.2.1
  have xf : w1.frozen? ⟨X, 1, none⟩ = false := hw1.cells.2.2
  have t0 : w1.cell? ⟨w.heap.size, 0, none⟩ = some (.int .i64 1) := hw1.tok.1
  have t1 : w1.cell? ⟨w.heap.size, 1, none⟩ = some (.string ⟨#[]⟩) := hw1.tok.2.1
  have t2 : w1.cell? ⟨w.heap.size, 2, none⟩ = some (.int .i64 at_) := hw1.tok.2.2.1
  have tf0 : w1.frozen? ⟨w.heap.size, 0, none⟩ = false := hw1.tok.2.2.2.1
  have tf1 : w1.frozen? ⟨w.heap.size, 1, none⟩ = false := hw1.tok.2.2.2.2.1
  have tf2 : w1.frozen? ⟨w.heap.size, 2, none⟩ = false := hw1.tok.2.2.2.2.2
  clear hw hw1
  refine (peek0 s X k _ hs hk x0 x1).mono ?_
  rintro e w2 ⟨rfl, m1, rfl⟩
  cases hc : letterB (hd (s.data.toList.drop k)) with
  | true =>
    have hwd : wordB (hd (s.data.toList.drop k)) = true := by simp [wordB, hc]
    obtain ⟨hks, hdw⟩ := dw_step word0 hwd
    have HDW := Lib.hid hdw
    have HC := Lib.hid hc
    clear hwd hdw hc
    have hw3 := (HW.out.drewN m1).setK (k + 1) (.int .i64 ((k : Int) + 1)) (by go_num)
    have HW3 := Lib.hid hw3
    clear hw3
    go_wp2_with fail
    refine (letter _ _).mono ?_
    rw [HC.out]
    rintro e w3 ⟨rfl, rfl⟩
    go_wp2_with fail
    go_step3
    refine ⟨⟨⟨rfl, rfl, rfl, rfl⟩, k + 1, _, at_, HW3.out, by omega, by omega, HL.out, ?_⟩, ?_⟩
    · rw [HONE.out, HDW.out]
    · simp [mu, HW3.out.kOfW, rank]; omega
  | false =>
    cases hcd : digitB (hd (s.data.toList.drop k)) with
    | true =>
      have hwd : wordB (hd (s.data.toList.drop k)) = true := by simp [wordB, hc, hcd]
      obtain ⟨hks, hdw⟩ := dw_step word0 hwd
      have HDW := Lib.hid hdw
      have HC := Lib.hid hc
      have HCD := Lib.hid hcd
      clear hwd hdw hc hcd
      go_wp2_with fail
      refine (letter _ _).mono ?_
      rw [HC.out]
      rintro e w3 ⟨rfl, rfl⟩
      go_wp2_with fail
      refine (peek0 s X k _ hs hk (by exact x0) (by exact x1)).mono ?_
      rintro e w2 ⟨rfl, m2, rfl⟩
      have hw3 := (HW.out.drewN (m1 + m2)).setK (k + 1) (.int .i64 ((k : Int) + 1)) (by go_num)
      have HW3 := Lib.hid hw3
      clear hw3
      go_wp2_with fail
      refine (digit _ _).mono ?_
      rw [HCD.out]
      rintro e w3 ⟨rfl, rfl⟩
      go_wp2_with fail
      go_step3
      refine ⟨⟨⟨rfl, rfl, rfl, rfl⟩, k + 1, _, at_, HW3.out, by omega, by omega, HL.out, ?_⟩, ?_⟩
      · rw [HONE.out, HDW.out]
      · simp [mu, HW3.out.kOfW, rank]; omega
    | false =>
      have hwd : wordB (hd (s.data.toList.drop k)) = false := by simp [wordB, hc, hcd]
      have HDW := Lib.hid (dw_stop hwd)
      have HC := Lib.hid hc
      have HCD := Lib.hid hcd
      clear hwd hc hcd
      go_wp2_with fail
      refine (letter _ _).mono ?_
      rw [HC.out]
      rintro e w3 ⟨rfl, rfl⟩
      go_wp2_with fail
      refine (peek0 s X k _ hs hk (by exact x0) (by exact x1)).mono ?_
      rintro e w2 ⟨rfl, m2, rfl⟩
      have HW3 := Lib.hid (HW.out.drewN (m1 + m2))
      go_wp2_with fail
      refine (digit _ _).mono ?_
      rw [HCD.out]
      rintro e w3 ⟨rfl, rfl⟩
      go_wp2_with fail
      go_step3
      refine ⟨⟨⟨rfl, rfl, rfl, rfl⟩, k, _, at_, HW3.out, by omega, by omega, HL.out, ?_⟩, ?_⟩
      · rw [HONE.out, HDW.out]
      · simp [mu, HW3.out.kOfW, rank]
end Go.Proofs.YtigicmnngppipaaGreatDoor.Lx
/- The walk from the end's label on, and from a number's. Condition: the text's length. -/
namespace Go.Proofs.YtigicmnngppipaaGreatDoor.Lx
open Go.RowKit
theorem nextV_none {s : ByteArray} {l : List UInt8} {at_ : Nat} (hl : l = s.data.toList.drop at_) (hlt : at_ < s.size) (h : one l = none) (kind : Int) (text : ByteArray) (k : Nat) : NextV l s.size kind text (at_ : Int) false k := by
  rw [drop_cons s at_ hlt] at hl
  subst hl
  refine ⟨?_, ?_⟩
  · simp; omega
  · rw [h]
theorem nextV_some {s : ByteArray} {l : List UInt8} {at_ : Nat} {kind : Int} {tx q : List UInt8} (hl : l = s.data.toList.drop at_) (hlt : at_ < s.size) (h : one l = some (kind, tx, q)) (text : ByteArray) (ht : text = ofL tx) (k : Nat) (hk : k = s.size - q.length) : NextV l s.size kind text (at_ : Int) true k := by
  rw [drop_cons s at_ hlt] at hl
  subst hl
  refine ⟨?_, ?_⟩
  · simp; omega
  · rw [h]
    exact ⟨rfl, ht, rfl, hk⟩
theorem pre_text {s : ByteArray} {l : List UInt8} {at_ k : Nat} (hl : l = s.data.toList.drop at_) (h1 : at_ ≤ k) (h2 : k ≤ s.size) : s.extract at_ k = ofL (pre l (s.data.toList.drop k)) := by
  subst hl
  have h3 : (s.data.toList.drop at_).length - (s.data.toList.drop k).length = k - at_ := by simp; omega
  unfold pre ofL
  rw [h3]
  apply ByteArray.ext
  apply Array.ext'
  simp [ByteArray.data_extract]
set_option maxRecDepth 100000 in
set_option maxHeartbeats 1000000 in
theorem endR (s : ByteArray) (l : List UInt8) (X : Nat) (w : World) (G : Nat → Act → World → Prop) (Q : Exit → Act → World → Prop) (hret : ∀ a' w', Ret s l X w a' w' → Q .ret a' w') (R : Code) (hr : (Tryz.f41.body.bind firstScope).bind (findLabel · 4) = some (.seq .skip R))
    (a : Act) (wr : World) (hJ : J4 s l X w a wr) : R.wp Tryz.prog (Jumps G Q) a wr := by
  change some (Code.seq Code.skip _) = some (.seq .skip R) at hr
  cases hr
  obtain ⟨⟨hd0, hsz, g0, g2⟩, k, kind, at_, hw, hlt, hk, hl, hone⟩ := hJ
  obtain ⟨f, rfl, hf⟩ := frame_of a hsz hd0
  rw [hf] at g0 g2
  rw [g0, g2]
  clear hf hsz hd0 g0 g2
  have HL := Lib.hid hl
  have HONE := Lib.hid hone
  have HRET := Lib.hid hret
  have x0 : wr.cell? ⟨X, 0, none⟩ = some (.string s) := hw.cells.1
  have x1 : wr.cell? ⟨X, 1, none⟩ = some (.int .i64 (k : Nat)) := hw.cells.2.1
  have xf : wr.frozen? ⟨X, 1, none⟩ = false := hw.cells.2.2
  have t0 : wr.cell? ⟨w.heap.size, 0, none⟩ = some (.int .i64 kind) := hw.tok.1
  have t1 : wr.cell? ⟨w.heap.size, 1, none⟩ = some (.string ⟨#[]⟩) := hw.tok.2.1
  have t2 : wr.cell? ⟨w.heap.size, 2, none⟩ = some (.int .i64 at_) := hw.tok.2.2.1
  have tf0 : wr.frozen? ⟨w.heap.size, 0, none⟩ = false := hw.tok.2.2.2.1
  have tf1 : wr.frozen? ⟨w.heap.size, 1, none⟩ = false := hw.tok.2.2.2.2.1
  have tf2 : wr.frozen? ⟨w.heap.size, 2, none⟩ = false := hw.tok.2.2.2.2.2
  have hat : (0 : Int) ≤ (at_ : Int) := by omega
  have hatk : (at_ : Int) ≤ (k : Int) := by omega
  have hks : (k : Int) ≤ (s.size : Int) := by omega
  have HW := Lib.hid hw
  clear hw hl hone hret
  go_wp2_with fail
  go_region
  have hw5 := (HW.out.setText (s.extract at_ k)).drew
  obtain ⟨w5, he5⟩ : ∃ w5, (wr.setCell ⟨w.heap.size, 1, none⟩ (.string (s.extract at_ k))).drew = w5 := ⟨_, rfl⟩
  rw [he5] at hw5 ⊢
  have HW5 := Lib.hid hw5.selfStore
  clear he5 x0 x1 xf t0 t1 t2 tf0 tf1 tf2
  have x0 : w5.cell? ⟨X, 0, none⟩ = some (.string s) := hw5.cells.1
  have x1 : w5.cell? ⟨X, 1, none⟩ = some (.int .i64 (k : Nat)) := hw5.cells.2.1
  have xf : w5.frozen? ⟨X, 1, none⟩ = false := hw5.cells.2.2
  have t0 : w5.cell? ⟨w.heap.size, 0, none⟩ = some (.int .i64 kind) := hw5.tok.1
  have t1 : w5.cell? ⟨w.heap.size, 1, none⟩ = some (.string (s.extract at_ k)) := hw5.tok.2.1
  have t2 : w5.cell? ⟨w.heap.size, 2, none⟩ = some (.int .i64 at_) := hw5.tok.2.2.1
  have tf0 : w5.frozen? ⟨w.heap.size, 0, none⟩ = false := hw5.tok.2.2.2.1
  have tf1 : w5.frozen? ⟨w.heap.size, 1, none⟩ = false := hw5.tok.2.2.2.2.1
  have tf2 : w5.frozen? ⟨w.heap.size, 2, none⟩ = false := hw5.tok.2.2.2.2.2
  clear hw5
  go_wp2_with fail
  refine HRET.out _ _ ?_
  exact ⟨⟨rfl, rfl, rfl, rfl⟩, _, _, _, _, _, rfl, HW5.out, hk, nextV_some HL.out (by omega) HONE.out _ (pre_text HL.out (by omega) hk) _ (by simp; omega)⟩
set_option maxRecDepth 100000 in
set_option maxHeartbeats 1000000 in
theorem pass4 (s : ByteArray) (l : List UInt8) (X : Nat) (w : World) (_hs : s.size ≤ 1048576) (Q : Exit → Act → World → Prop) (hret : ∀ a' w', Ret s l X w a' w' → Q .ret a' w') (rest : Code) (hr : (Tryz.f41.body.bind firstScope).bind (findLabel · 4) = some rest)
    (a : Act) (wr : World) (hJ : J4 s l X w a wr) : rest.wp Tryz.prog (Jumps (fun l' a' w' => JL s l X w l' a' w' ∧ mu s X l' a' w' < mu s X 4 a wr) Q) a wr := by
  change some _ = some rest at hr
  cases hr
  exact wp_seq (wp_skip (endR s l X w _ Q hret _ rfl a wr hJ))
end Go.Proofs.YtigicmnngppipaaGreatDoor.Lx
