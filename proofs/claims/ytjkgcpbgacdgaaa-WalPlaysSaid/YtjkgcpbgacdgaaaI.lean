/- A disk that is awake; disks of one file at most. No condition. -/
import Derived.Test.YtjkgcpbgacdgaaaH
namespace Go.Proofs.Ytjkgcpbgacdgaaa
open Go.RowKit Go.Sort
def nmA : ByteArray := ⟨#[97]⟩
def nmB : ByteArray := ⟨#[98]⟩
theorem nameA : nameB nmA.data.toList = true := by decide
theorem look_one (e : Ent) (s : ByteArray) (h : e.name = s) : look [e] s = some e := by subst h; simp [look]
theorem lens_one (e : Ent) : lens [e] = e.bs.length := by simp [lens]
theorem lens_nil : lens [] = 0 := rfl
/-- A disk of at most one file, by the name a. -/
def One (L : List Ent) : Prop := L = [] ∨ ∃ e, L = [e] ∧ e.name = nmA
theorem One.len {L : List Ent} (h : One L) : L.length ≤ 1 := by rcases h with rfl | ⟨e, rfl, _⟩ <;> simp
theorem One.add {L : List Ent} (h : One L) (f : Nat) (v : Value) (ys : List Value) : ∃ e, addE L nmA f v ys = [e] ∧ e.name = nmA ∧ e.bs.length = lens L + ys.length := by
  rcases h with rfl | ⟨e, rfl, he⟩
  · exact ⟨_, rfl, rfl, by simp [lens]⟩
  · refine ⟨⟨e.name, e.f, v, e.bs ++ ys, e.syn⟩, ?_, he, by simp [lens]⟩
    unfold addE
    rw [look_one e nmA he]
    simp [setF, he]
theorem zero4 (w : World) (S : Nat → Prop) (hS : ∀ k, S k → k < w.heap.size) (xs : List Value) (h1 : ∀ u ∈ xs, u.oneCell' = true) (fz : Nat × Nat) : SrcAt (w.alloc (.cells xs.toArray 5 fz)) S (.slice (some ⟨w.heap.size, 0, none⟩) xs.length xs.length) xs := by
  refine .inr ⟨_, xs.length, rfl, Nat.le_refl _, fun _ => by simp, fun _ h => by have := hS _ h; simp at this, ?_, h1⟩
  intro j u hj
  have := World.news_of_block (cs := xs.toArray) (t := 5) (fr := fz) (heap_alloc_new w _) j u (by simpa using hj)
  exact this
theorem app_one {L L' : List Ent} {room : Int} {xs : List Value} {j : Nat} {err : Int} (h : One L) (hsays : AppSays L room (-1) false nmA xs L' j err) :
    ∃ e, L' = [e] ∧ e.name = nmA ∧ e.bs.length = lens L + j ∧ j = appN L room xs.length ∧ err = if j < xs.length then 7 else 0 := by
  rcases hsays with ⟨h1, _⟩ | ⟨_, h1, _⟩ | ⟨_, _, h1, _⟩ | ⟨_, _, _, hj, he, f, v, hL⟩
  · cases h1
  · rw [nameA] at h1; cases h1
  · exact absurd rfl h1
  · obtain ⟨e, h1, h2, h3⟩ := h.add f v (xs.take j)
    refine ⟨e, by rw [hL, h1], h2, ?_, hj, he⟩
    rw [h3, List.length_take]
    have : j ≤ xs.length := by rw [hj]; unfold appN; omega
    omega
theorem push_modify {α : Type} (a : Array α) (x : α) (f : α → α) : (a.push x).modify a.size f = a.push (f x) := by
  apply Array.ext_getElem?
  intro i
  rw [Array.getElem?_modify, Array.getElem?_push, Array.getElem?_push]
  by_cases hi : a.size = i
  · subst hi; simp
  · rw [if_neg hi, if_neg (fun e => hi e.symm), if_neg (fun e => hi e.symm)]
/-- A literal's bytes, as a slice of bytes: the block is marked at its end. -/
theorem conv23 (cs : Array Value) (w : World) : (convert 23 23 (.slice (some ⟨w.heap.size, 0, none⟩) cs.size cs.size)).run Try.prog (w.alloc (.cells cs 5)) = .ok (.slice (some ⟨w.heap.size, 0, none⟩) cs.size cs.size) (w.alloc (.cells cs 5 (cs.size, cs.size + 1))) := by
  have h := heap_alloc_new w (.cells cs 5)
  have hu := Try.underlying23
  have hs : (w.alloc (.cells cs 5)).shape? w.heap.size = some (5, cs.size) := by unfold World.shape?; rw [h]
  simp [convert, go_sem, markStringish, hs]
  unfold World.freeze
  rw [if_neg (by decide)]
  exact congrArg (fun h => { w with heap := h }) (push_modify w.heap _ _)
set_option maxRecDepth 100000 in
theorem awake9 (w : World) : Calls Try.prog 11 #[] w fun e w' => e = .returned (.bool true) ∧ Below w.heap.size w w' := by
  go_enter Try.func11, Try.ntmps11
  go_wp2_with fail
  refine (new 3 _ (by omega)).mono ?_
  rintro e w1 ⟨rfl, hd1, hb1, hs1⟩
  have HD1 := Lib.hid hd1
  have HB1 := Lib.hid hb1
  have HS1 := Lib.hid hs1
  have hcv := conv23 #[.int .u8 97, .int .u8 98, .int .u8 99, .int .u8 100] w1
  simp only [List.size_toArray, List.length_cons, List.length_nil, Nat.zero_add, Nat.reduceAdd] at hcv
  clear hd1 hb1 hs1
  go_wp2_with fail
  have hd2 := HD1.out.later ((Below.refl _ _).alloc (Nat.le_refl _) (.cells #[.int .u8 97, .int .u8 98, .int .u8 99, .int .u8 100] 5 (4, 5)))
  have hsrc := zero4 w1 (fun k => k = w.heap.size ∨ k = w.heap.size + 1) (fun k hk => by have := HS1.out; rcases hk with rfl | rfl <;> omega) [.int .u8 97, .int .u8 98, .int .u8 99, .int .u8 100] (by simp [Value.oneCell']) (4, 5)
  refine (append _ _ _ _ [] _ _ _ nmA _ _ (by decide) hd2 (by omega) (by omega) (by omega) (by omega) hsrc (by simp [lens]) (by simp [maxLen])).mono ?_
  rintro e w2 ⟨L', j, err, rfl, ht, hd, hsays⟩
  obtain ⟨e, rfl, hen, hel, hj, he⟩ := app_one (.inl rfl) hsays
  have hj3 : j = 3 := by rw [hj]; decide
  subst hj3
  have he7 : err = 7 := by rw [he]; decide
  subst he7
  have hb2 : Below w.heap.size w w2 := HB1.out.trans (((Below.refl _ _).alloc (by have := HS1.out; omega) _).trans (ht.below (by have := HS1.out; simp; omega) (fun x hx => by rcases hx with rfl | rfl <;> omega)))
  have hle : lens [e] = 3 := by rw [lens_one, hel]; rfl
  have HD2 := Lib.hid hd
  have HB2 := Lib.hid hb2
  have HEN := Lib.hid hen
  have HLE := Lib.hid hle
  clear ht hd hsays hen hel hj he hb2 hd2 hsrc hle
  go_wp2_with fail
  refine (used w2 _ _ _ [e] _ _ _ HD2.out (by rw [HLE.out]; omega)).mono ?_
  rw [HLE.out]
  rintro e' w3 ⟨rfl, hb3⟩
  have HD3 := Lib.hid (HD2.out.later hb3)
  have HB3 := Lib.hid (HB2.out.trans (hb3.mono HB2.out.size))
  clear hb3
  go_wp2_with fail
  have hlk : look [e] nmB = none := by
    unfold look
    simp [HEN.out, nmA, nmB]
  have hce : chE [e] (apF (-1) false nmA) (apD (-1) false nmA) nmB = 6 := by simp [chE, getE, hlk, apD, nameA, opD]
  refine (sync w3 _ _ _ [e] _ _ _ nmB (by decide) HD3.out (by decide) (by decide)).mono ?_
  rw [hce]
  rintro e' w4 ⟨rfl, ht4, _, _⟩
  have hb4 : Below w.heap.size w w4 := HB3.out.trans (ht4.below HB3.out.size (fun x hx => by
    have := HS1.out
    rcases hx with (rfl | rfl) | hx
    · omega
    · omega
    · have := hx.1; simp at this; omega))
  have HB4 := Lib.hid hb4
  clear ht4 hb4 hce hlk
  go_wp2_with fail
  go_ret
  exact ⟨rfl, HB4.out⟩
end Go.Proofs.Ytjkgcpbgacdgaaa
