/- What is asked of items. No condition. -/
import Derived.Test.YtigicmnngppipaaGreatDoorFBA
namespace Go.Proofs.YtigicmnngppipaaGreatDoor.Tp
open Go.RowKit Lx
set_option maxRecDepth 100000
def itemCells (l : List (ByteArray × ByteArray)) : List Value := l.flatMap fun i => [.string i.1, .string i.2]
theorem items_snoc (l : List (ByteArray × ByteArray)) (i : ByteArray × ByteArray) : itemCells (l ++ [i]) = itemCells l ++ [.string i.1, .string i.2] := by simp [itemCells]
abbrev XI (a : Bool) (vi : Value) : Array Value := XA a vi ⟨#[]⟩ ⟨#[]⟩ (.slice none 0 0) 0 (.slice none 0 0)
structure InI (P X n : Nat) (w : World) (ts : List Tok) (wr : World) (m : Nat) (acc : List (ByteArray × ByteArray)) (q : List Tok) (vi : Value) : Prop where
  kp : Kp (K2 P X) w wr
  pat : PAt wr P q n 0
  xat : wr.heap[X]? = some (.cells (XI false vi) 31 (0, 0))
  own : wr.ownsRow w.heap.size 83 2 vi acc.length (itemCells acc)
  eq : itemsL 9 [] ts = itemsL m acc q
  fuel : m + acc.length = 9
  few : acc.length ≤ 8
def ItOut (P X n : Nat) (w : World) (x : S0) (R : Res S0) (e : Ending) (w' : World) : Prop :=
  Kp (K2 P X) w w' ∧ match R with
  | .ok (y, q) => e = .returned (.tuple #[]) ∧ PAt w' P q n 0 ∧ y = { x with all := y.all, items := y.items } ∧ ∃ vi, w'.heap[X]? = some (.cells (XI y.all vi) 31 (0, 0)) ∧ w'.ownsRow w.heap.size 83 2 vi y.items.length (itemCells y.items)
  | .error q => e = stuckE n q
theorem InI.pos {P X n m : Nat} {w wr : World} {acc : List (ByteArray × ByteArray)} {vi : Value} {ts q : List Tok} (h : InI P X n w ts wr m acc q vi) : ∃ m', m = m' + 1 := ⟨m - 1, by have h1 := h.fuel; have h2 := h.few; omega⟩
theorem item_form {w : World} {B : Nat} {v : Value} {l : List (ByteArray × ByteArray)} (h : w.ownsRow B 83 2 v l.length (itemCells l)) : ∃ a cap, v = .slice a l.length cap := by
  rcases h.2 with ⟨rfl, h0⟩ | ⟨g, cap, cur, rfl, _⟩
  · exact ⟨none, 0, by rw [h0]⟩
  · exact ⟨_, _, rfl⟩
theorem items_full {m : Nat} {acc : List (ByteArray × ByteArray)} {q : List Tok} (h : acc.length = 8) : itemsL (m + 1) acc q = .error q := by
  conv => lhs; unfold itemsL
  rw [if_pos h]
theorem items_err {m : Nat} {acc : List (ByteArray × ByteArray)} {q q' : List Tok} (h : acc.length ≠ 8) (h1 : itemP q = .error q') : itemsL (m + 1) acc q = .error q' := by
  conv => lhs; unfold itemsL
  rw [if_neg h]; simp only [h1]
theorem items_no {m : Nat} {acc : List (ByteArray × ByteArray)} {i : ByteArray × ByteArray} {q q' r : List Tok} (h : acc.length ≠ 8) (h1 : itemP q = .ok (i, q')) (h2 : hasP wComma [] q' = .ok (false, r)) : itemsL (m + 1) acc q = .ok (acc ++ [i], r) := by
  conv => lhs; unfold itemsL
  rw [if_neg h]; simp only [h1, h2]
theorem items_go {m : Nat} {acc : List (ByteArray × ByteArray)} {i : ByteArray × ByteArray} {q q' r : List Tok} (h : acc.length ≠ 8) (h1 : itemP q = .ok (i, q')) (h2 : hasP wComma [] q' = .ok (true, r)) : itemsL (m + 1) acc q = itemsL m (acc ++ [i]) r := by
  conv => lhs; unfold itemsL
  rw [if_neg h]; simp only [h1, h2]
theorem itemP_eq (q : List Tok) : itemP q = if isFn (hdT q) then mustP [wOpen] q.tail fun r => bindR (nameP r) fun nm r => mustP [wClose] r fun r => .ok (((hdT q).2.1, nm), r) else bindR (nameP q) fun nm r => .ok ((⟨#[]⟩, nm), r) := by
  cases q with
  | nil => rfl
  | cons t r =>
    cases hf : isFn t with
    | false =>
      simp only [itemP, hdT, List.headD_cons, hf, bindR, Bool.false_eq_true, if_false]
      cases nameP (t :: r) <;> rfl
    | true =>
      simp only [itemP, hdT, List.headD_cons, List.tail_cons, hf, mustP, bindR, if_true]
      cases takeAll [wOpen] r with
      | error q => rfl
      | ok r1 =>
        cases hn : nameP r1 with
        | error q => simp only [hn]
        | ok nr =>
          obtain ⟨nm, r2⟩ := nr
          simp only [hn]
theorem InI.bad {P X n m : Nat} {w wr w9 : World} {x : S0} {acc : List (ByteArray × ByteArray)} {vi : Value} {ts q q' : List Tok} (h : InI P X n w ts wr m acc q vi) (hs : hasP wStar [] ts = .ok (false, ts)) (hd : itemsL m acc q = .error q') (hk : Kp (K2 P X) w w9) : ItOut P X n w x (itemsP x ts) (stuckE n q') w9 := by
  have : itemsP x ts = .error q' := by simp only [itemsP, hs, h.eq, hd]
  rw [this]
  exact ⟨hk, rfl⟩
theorem InI.fin {P X n m : Nat} {w wr w9 : World} {x : S0} {acc acc' : List (ByteArray × ByteArray)} {vi vi' : Value} {ts q r : List Tok} (h : InI P X n w ts wr m acc q vi) (hxa : x.all = false) (hs : hasP wStar [] ts = .ok (false, ts)) (hd : itemsL m acc q = .ok (acc', r)) (hk : Kp (K2 P X) w w9) (hp : PAt w9 P r n 0) (hx : w9.heap[X]? = some (.cells (XI false vi') 31 (0, 0))) (ho : w9.ownsRow w.heap.size 83 2 vi' acc'.length (itemCells acc')) : ItOut P X n w x (itemsP x ts) (.returned (.tuple #[])) w9 := by
  have : itemsP x ts = .ok ({ x with items := acc' }, r) := by simp only [itemsP, hs, h.eq, hd]
  rw [this]
  exact ⟨hk, rfl, hp, rfl, vi', by rw [show ({ x with items := acc' } : S0).all = false from hxa]; exact hx, ho⟩
theorem fn_words {tx : ByteArray} (h : inL fns tx = true) : Words (tx ++ ⟨#[32, 40]⟩) [tx, wOpen] := by
  have : tx ∈ fns := by
    unfold inL at h
    rw [List.any_eq_true] at h
    obtain ⟨y, hy, e⟩ := h
    rw [← of_decide_eq_true e]
    exact hy
  unfold fns at this
  simp only [List.mem_cons, List.not_mem_nil, or_false] at this
  rcases this with rfl | rfl | rfl | rfl | rfl | rfl | rfl | rfl <;> exact ⟨by decide, by decide, by decide, by decide⟩
end Go.Proofs.YtigicmnngppipaaGreatDoor.Tp
