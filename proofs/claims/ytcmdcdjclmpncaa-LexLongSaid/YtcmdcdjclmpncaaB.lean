/- A scope with several labels; a frame whose slots are read one by one; tokens: the plain law. No condition. -/
import Derived.Test.YtcmdcdjclmpncaaA
import Derived.Test.YtcmdcdjclmpncaaShelf
import Derived.ScopeJumps
import Derived.WalkMore
namespace Go.Proofs.Ytcmdcdjclmpncaa
open Go.RowKit
/-- As Q; by a goto to label l: J l. -/
def Jumps (J : Nat → Act → World → Prop) (Q : Exit → Act → World → Prop) : Exit → Act → World → Prop
  | .goto l, a, w => J l a w
  | e, a, w => Q e a w
theorem wp_scope_labels {P : Program} {a : Act} {w : World} {Q : Exit → Act → World → Prop} {c : Code} (J : Nat → Act → World → Prop) (μ : Nat → Act → World → Nat)
    (first : c.wp P (Jumps J Q) a w)
    (pass : ∀ l a w, J l a w → ∃ rest, findLabel c l = some rest ∧ rest.wp P (Jumps (fun l' a' w' => J l' a' w' ∧ μ l' a' w' < μ l a w) Q) a w) : (Code.scope c).wp P Q a w := by
  intro b k cs
  have key : ∀ n l a w, μ l a w = n → J l a w → ∃ rest, findLabel c l = some rest ∧ ∃ e a' w', Q e a' w' ∧ Arrives P (lone (b.at a (.code rest :: .inScope c :: k)) cs w) b k cs e a' w' := by
    intro n
    induction n using Nat.strongRecOn with
    | _ n ih =>
      intro l a w hn hJ
      obtain ⟨rest, hf, hp⟩ := pass l a w hJ
      refine ⟨rest, hf, ?_⟩
      obtain ⟨e, a₁, w₁, hq, harr⟩ := hp b (.inScope c :: k) cs
      cases e with
      | normal => exact ⟨.normal, a₁, w₁, hq, Steps.trans harr (.one step_inScope)⟩
      | exit id => exact ⟨.exit id, a₁, w₁, hq, fun k' hk => harr k' (by simp [exitTo, hk])⟩
      | goto l' =>
        obtain ⟨hJ', hlt⟩ := hq
        obtain ⟨rest', hf', e₂, a₂, w₂, hq₂, harr₂⟩ := ih _ (by omega) l' a₁ w₁ rfl hJ'
        exact ⟨e₂, a₂, w₂, hq₂, .of_steps (harr _ (by simp [gotoIn, hf'])) harr₂⟩
      | ret => exact ⟨_, a₁, w₁, hq, harr⟩
      | panic ch => exact ⟨_, a₁, w₁, hq, harr⟩
      | outgrown => exact ⟨_, a₁, w₁, hq, harr⟩
  obtain ⟨e, a₁, w₁, hq, harr⟩ := first b (.inScope c :: k) cs
  cases e with
  | normal => exact ⟨.normal, a₁, w₁, hq, .head step_scope (Steps.trans harr (.one step_inScope))⟩
  | exit id => exact ⟨.exit id, a₁, w₁, hq, fun k' hk => .head step_scope (harr k' (by simp [exitTo, hk]))⟩
  | goto l' =>
    obtain ⟨rest, hf, e₂, a₂, w₂, hq₂, harr₂⟩ := key _ l' a₁ w₁ rfl hq
    exact ⟨e₂, a₂, w₂, hq₂, .of_steps (.head step_scope (harr _ (by simp [gotoIn, hf]))) harr₂⟩
  | ret => exact ⟨_, a₁, w₁, hq, .of_steps (.one step_scope) harr⟩
  | panic ch => exact ⟨_, a₁, w₁, hq, .of_steps (.one step_scope) harr⟩
  | outgrown => exact ⟨_, a₁, w₁, hq, .of_steps (.one step_scope) harr⟩
theorem all_slots (xs : Array Value) (n : Nat) (h : xs.size = n) : xs = ((List.range n).map fun i => xs.getD i undef).toArray := by
  subst h
  apply Array.ext
  · simp
  · intro i h1 h2
    simp [Array.getD, h1]
set_option maxRecDepth 100000 in
theorem slots272 (xs : Array Value) (h : xs.size = 272) : xs = #[xs.getD 0 undef, xs.getD 1 undef, xs.getD 2 undef, xs.getD 3 undef, xs.getD 4 undef, xs.getD 5 undef, xs.getD 6 undef, xs.getD 7 undef, xs.getD 8 undef, xs.getD 9 undef, xs.getD 10 undef, xs.getD 11 undef, xs.getD 12 undef, xs.getD 13 undef, xs.getD 14 undef, xs.getD 15 undef, xs.getD 16 undef, xs.getD 17 undef, xs.getD 18 undef, xs.getD 19 undef, xs.getD 20 undef, xs.getD 21 undef, xs.getD 22 undef, xs.getD 23 undef, xs.getD 24 undef, xs.getD 25 undef, xs.getD 26 undef, xs.getD 27 undef, xs.getD 28 undef, xs.getD 29 undef, xs.getD 30 undef, xs.getD 31 undef, xs.getD 32 undef, xs.getD 33 undef, xs.getD 34 undef, xs.getD 35 undef, xs.getD 36 undef, xs.getD 37 undef, xs.getD 38 undef, xs.getD 39 undef, xs.getD 40 undef, xs.getD 41 undef, xs.getD 42 undef, xs.getD 43 undef, xs.getD 44 undef, xs.getD 45 undef, xs.getD 46 undef, xs.getD 47 undef, xs.getD 48 undef, xs.getD 49 undef, xs.getD 50 undef, xs.getD 51 undef, xs.getD 52 undef, xs.getD 53 undef, xs.getD 54 undef, xs.getD 55 undef, xs.getD 56 undef, xs.getD 57 undef, xs.getD 58 undef, xs.getD 59 undef, xs.getD 60 undef, xs.getD 61 undef, xs.getD 62 undef, xs.getD 63 undef, xs.getD 64 undef, xs.getD 65 undef, xs.getD 66 undef, xs.getD 67 undef, xs.getD 68 undef, xs.getD 69 undef, xs.getD 70 undef, xs.getD 71 undef, xs.getD 72 undef, xs.getD 73 undef, xs.getD 74 undef, xs.getD 75 undef, xs.getD 76 undef, xs.getD 77 undef, xs.getD 78 undef, xs.getD 79 undef, xs.getD 80 undef, xs.getD 81 undef, xs.getD 82 undef, xs.getD 83 undef, xs.getD 84 undef, xs.getD 85 undef, xs.getD 86 undef, xs.getD 87 undef, xs.getD 88 undef, xs.getD 89 undef, xs.getD 90 undef, xs.getD 91 undef, xs.getD 92 undef, xs.getD 93 undef, xs.getD 94 undef, xs.getD 95 undef, xs.getD 96 undef, xs.getD 97 undef, xs.getD 98 undef, xs.getD 99 undef, xs.getD 100 undef, xs.getD 101 undef, xs.getD 102 undef, xs.getD 103 undef, xs.getD 104 undef, xs.getD 105 undef, xs.getD 106 undef, xs.getD 107 undef, xs.getD 108 undef, xs.getD 109 undef, xs.getD 110 undef, xs.getD 111 undef, xs.getD 112 undef, xs.getD 113 undef, xs.getD 114 undef, xs.getD 115 undef, xs.getD 116 undef, xs.getD 117 undef, xs.getD 118 undef, xs.getD 119 undef, xs.getD 120 undef, xs.getD 121 undef, xs.getD 122 undef, xs.getD 123 undef, xs.getD 124 undef, xs.getD 125 undef, xs.getD 126 undef, xs.getD 127 undef, xs.getD 128 undef, xs.getD 129 undef, xs.getD 130 undef, xs.getD 131 undef, xs.getD 132 undef, xs.getD 133 undef, xs.getD 134 undef, xs.getD 135 undef, xs.getD 136 undef, xs.getD 137 undef, xs.getD 138 undef, xs.getD 139 undef, xs.getD 140 undef, xs.getD 141 undef, xs.getD 142 undef, xs.getD 143 undef, xs.getD 144 undef, xs.getD 145 undef, xs.getD 146 undef, xs.getD 147 undef, xs.getD 148 undef, xs.getD 149 undef, xs.getD 150 undef, xs.getD 151 undef, xs.getD 152 undef, xs.getD 153 undef, xs.getD 154 undef, xs.getD 155 undef, xs.getD 156 undef, xs.getD 157 undef, xs.getD 158 undef, xs.getD 159 undef, xs.getD 160 undef, xs.getD 161 undef, xs.getD 162 undef, xs.getD 163 undef, xs.getD 164 undef, xs.getD 165 undef, xs.getD 166 undef, xs.getD 167 undef, xs.getD 168 undef, xs.getD 169 undef, xs.getD 170 undef, xs.getD 171 undef, xs.getD 172 undef, xs.getD 173 undef, xs.getD 174 undef, xs.getD 175 undef, xs.getD 176 undef, xs.getD 177 undef, xs.getD 178 undef, xs.getD 179 undef, xs.getD 180 undef, xs.getD 181 undef, xs.getD 182 undef, xs.getD 183 undef, xs.getD 184 undef, xs.getD 185 undef, xs.getD 186 undef, xs.getD 187 undef, xs.getD 188 undef, xs.getD 189 undef, xs.getD 190 undef, xs.getD 191 undef, xs.getD 192 undef, xs.getD 193 undef, xs.getD 194 undef, xs.getD 195 undef, xs.getD 196 undef, xs.getD 197 undef, xs.getD 198 undef, xs.getD 199 undef, xs.getD 200 undef, xs.getD 201 undef, xs.getD 202 undef, xs.getD 203 undef, xs.getD 204 undef, xs.getD 205 undef, xs.getD 206 undef, xs.getD 207 undef, xs.getD 208 undef, xs.getD 209 undef, xs.getD 210 undef, xs.getD 211 undef, xs.getD 212 undef, xs.getD 213 undef, xs.getD 214 undef, xs.getD 215 undef, xs.getD 216 undef, xs.getD 217 undef, xs.getD 218 undef, xs.getD 219 undef, xs.getD 220 undef, xs.getD 221 undef, xs.getD 222 undef, xs.getD 223 undef, xs.getD 224 undef, xs.getD 225 undef, xs.getD 226 undef, xs.getD 227 undef, xs.getD 228 undef, xs.getD 229 undef, xs.getD 230 undef, xs.getD 231 undef, xs.getD 232 undef, xs.getD 233 undef, xs.getD 234 undef, xs.getD 235 undef, xs.getD 236 undef, xs.getD 237 undef, xs.getD 238 undef, xs.getD 239 undef, xs.getD 240 undef, xs.getD 241 undef, xs.getD 242 undef, xs.getD 243 undef, xs.getD 244 undef, xs.getD 245 undef, xs.getD 246 undef, xs.getD 247 undef, xs.getD 248 undef, xs.getD 249 undef, xs.getD 250 undef, xs.getD 251 undef, xs.getD 252 undef, xs.getD 253 undef, xs.getD 254 undef, xs.getD 255 undef, xs.getD 256 undef, xs.getD 257 undef, xs.getD 258 undef, xs.getD 259 undef, xs.getD 260 undef, xs.getD 261 undef, xs.getD 262 undef, xs.getD 263 undef, xs.getD 264 undef, xs.getD 265 undef, xs.getD 266 undef, xs.getD 267 undef, xs.getD 268 undef, xs.getD 269 undef, xs.getD 270 undef, xs.getD 271 undef] := all_slots xs 272 h
end Go.Proofs.Ytcmdcdjclmpncaa
