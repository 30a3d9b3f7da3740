/- The walk of IndexNil. Condition: the reach of what comes in. -/
import Derived.Test.YtobcpafalfdpkaaBQ
import Derived.Laws.IdiomRangeMap
import Derived.Lib.QuietBelow
namespace Go.Proofs.Ytobcpafalfdpkaa
open Go.RowKit Go.WideMaps Go.Sort Go.Deep Go.WideShapes Go.ChangeShapes
set_option maxRecDepth 100000 in
theorem ser_param {H : Type} {enc : TypeId × Value → H} {W : World} {base : Nat} {v : Value} {d : DataW H} {q : List MemPlace} (h : DataW.Trod enc Try.prog W 0 (fun _ => true) true 31 v d q) (o : Value.okWide Try.prog W .any base 31 v) : ∃ (s : Sr) (a : Option Addr) (c : Nat), v = .agg #[.string s.name, .slice a s.tags.length c] ∧ SrIn W v s := by
  simp only [Value.okWide, Try.underlying31] at o
  obtain ⟨cs, rfl, hcs, _⟩ := o
  obtain ⟨fuel, hf⟩ := h
  obtain ⟨s, a, c, hp, hok⟩ := ser_trod hf (by show cs.toList.length = 2; rw [Array.length_toList, hcs, cells31])
  have hp' : cs.toList = [.string s.name, .slice a s.tags.length c] := hp
  have e : Value.agg cs = .agg #[.string s.name, .slice a s.tags.length c] := by
    rw [← Array.toArray_toList (xs := cs), hp']
  rw [e]
  exact ⟨s, a, c, rfl, hok⟩
theorem row_set_any {w : World} {base n size g i : Nat} {t : TypeId} {v u : Value} {xs : List Value} (h : w.ownsRow base t size v n xs) : ∃ xs', (w.setCell ⟨g, i, none⟩ u).ownsRow base t size v n xs' := by
  by_cases hg : v.ownBlock = some g
  · rcases h.2 with ⟨rfl, _⟩ | ⟨g', c, cur, rfl, _⟩
    · cases hg
    · cases hg
      exact ⟨_, ownsRow_set h⟩
  · exact ⟨xs, ownsRow_same h fun k hk => Below.heap_setCell w _ u k fun e => hg (by rw [hk]; exact congrArg some e)⟩
theorem row_at {w : World} {base n : Nat} {v : Value} {xs : List Value} (h : w.ownsRow base 51 2 v n xs) {j : Nat} (hj : j < n) : ∃ g c u, v = .slice (some ⟨g, 0, none⟩) n c ∧ base ≤ g ∧ w.cell? ⟨g, j * 2 + 1, none⟩ = some u ∧ w.frozen? ⟨g, j * 2 + 1, none⟩ = false := by
  rcases h.2 with ⟨_, h0⟩ | ⟨g, c, cur, rfl, hb, h2, _⟩
  · omega
  · have hl : xs.length = n * 2 := h.1
    refine ⟨g, c, xs[j * 2 + 1]'(by omega), rfl, hb, ?_, by simp [World.frozen?, h2]⟩
    rw [h.cellAt (j * 2 + 1) (by omega), List.getElem?_eq_getElem (by omega)]
theorem idx_turn {w w' : World} {ρ : Nat → Option Role} {x m : Nat} {L : List (BA × Nat)} {M : BA → Me} (h : IdxAt w ρ x m L M) (ht : Turns (Own ρ x) w w') : IdxAt w' ρ x m L M := by
  have hk : ∀ k, k < w.heap.size → ρ k ≠ some .idx → w'.heap[k]? = w.heap[k]? := fun k hk h1 => ht.block k hk fun h2 => h1 h2.1
  have hx := heap_lt h.blk
  exact ⟨(ht.block x hx fun h2 => h2.2 rfl).trans h.blk, h.rx, h.rm, h.out.same (hk m h.out.lt (by rw [h.rm]; simp)), fun p hp => (h.meas p hp).same ht.size (fun _ _ => rfl) fun k hk2 hr => hk k hk2 fun e => hr _ e, fun b hb => h.dom b (Nat.le_trans ht.size hb)⟩
def roleT (ρ : Nat → Option Role) (v : Value) (k : Nat) : Option Role := if v.ownBlock = some k then some .idx else ρ k
theorem idx_tag {w : World} {x m base : Nat} {v : Value} {n size : Nat} {t : TypeId} {xs : List Value} {ρ : Nat → Option Role} (h : IdxAt w ρ x m [] (fun _ => me0)) (hr : w.ownsRow base t size v n xs) (hm : m < base) : IdxAt w (roleT ρ v) x m [] (fun _ => me0) := by
  refine ⟨h.blk, ?_, ?_, h.out, (fun _ h => nomatch h), fun b hb => ?_⟩
  · unfold roleT; split
    · rfl
    · exact h.rx
  · unfold roleT
    rw [if_neg fun e => by have := (hr.lt m e).1; omega]
    exact h.rm
  · unfold roleT
    rw [if_neg fun e => by have := (hr.lt b e).2; omega]
    exact h.dom b hb
def InT (w6 : World) (base n : Nat) (v i : Value) (wr : World) : Prop := ∃ (k : Nat) (xs : List Value), k ≤ n ∧ i = .int .i64 k ∧ wr.ownsRow base 51 2 v n xs ∧ Turns (fun b => v.ownBlock = some b) w6 wr
/-- The rows of all series are there, whatever they hold. -/
def RowsAt (base : Nat) (L : List SV) (w8 wr : World) : Prop := Turns (fun b => ∃ s ∈ L, s.sl.ownBlock = some b) w8 wr ∧ ∀ s ∈ L, ∃ xs, wr.ownsRow base 51 2 s.sl s.sr.tags.length xs
def InY (base n : Nat) (L : List SV) (w8 : World) (i : Value) (wr : World) : Prop := ∃ k : Nat, k ≤ n ∧ i = .int .i64 k ∧ RowsAt base L w8 wr
theorem rows_set {base : Nat} {L : List SV} {w8 wr : World} (h : RowsAt base L w8 wr) {s : SV} (hs : s ∈ L) {g c n i : Nat} {u : Value} (hv : s.sl = .slice (some ⟨g, 0, none⟩) n c) : RowsAt base L w8 (wr.setCell ⟨g, i, none⟩ u) := by
  refine ⟨h.1.trans ((onlyD_set wr g i u).turns (S := fun b => ∃ s ∈ L, s.sl.ownBlock = some b) ⟨s, hs, by rw [hv]; rfl⟩) fun _ hx => .inl hx, fun s' hs' => ?_⟩
  obtain ⟨xs, hx⟩ := h.2 s' hs'
  exact row_set_any hx
theorem rows_start {base : Nat} {L : List SV} {w8 : World} (hs : ∀ s ∈ L, SerO base w8 s) : RowsAt base L w8 w8 := ⟨Turns.refl _ _, fun s h => ⟨_, (hs s h).row⟩⟩
/-- The program's answer to what was added to an empty index. -/
theorem nil_cases {L : List (BA × Nat)} {M : BA → Me} {s : Sr} (h2 : (addA me0 s).1 = true → ∃ sv : SV, sv.sr = s ∧ (meOf L M s.name).ss = put me0.ss s.txt sv ∧ (meOf L M s.name).kd = me0.kd) :
    (addA me0 s).2 = 1 ∨ ((addA me0 s).2 = 0 ∧ (meOf L M s.name).ss.map (fun p => p.2.sr) = [s]) := by
  unfold addA at h2 ⊢
  by_cases hok : s.ok = true
  · rw [if_pos hok] at h2 ⊢
    rw [if_neg (show ¬ (get me0.ss s.txt).isSome = true from Bool.false_ne_true)] at h2 ⊢
    obtain ⟨sv, hsv, hss, _⟩ := h2 rfl
    right
    refine ⟨rfl, ?_⟩
    rw [hss]
    show [sv.sr] = [s]
    rw [hsv]
  · rw [if_neg hok]
    exact .inl rfl
theorem bytes51 : Try.prog.bytesOf 51 = 32 := by kernel_rfl
set_option maxRecDepth 100000 in
theorem tags_sized {H : Type} {enc : TypeId × Value → H} {W : World} {nm : Value} {a : Option Addr} {n c : Nat} {d : DataW H} {q : List MemPlace} {ts : List TypeId} {ds : List (DataW H)} (h : DataW.Trod enc Try.prog W 0 (fun _ => true) true 31 (.agg #[nm, .slice a n c]) d q) (hsz : (DataW.weightsEach Try.prog (31 :: ts) (d :: ds)).all (· ≤ reachBytes) = true) : n * 32 ≤ 140737488351232 := by
  obtain ⟨fuel, hf⟩ := h
  obtain ⟨xs, k, _, hxx, _, hlen, hg⟩ := DataW.trod_struct Try.underlying31 hf
  match xs, hlen with
  | [y0, y1], _ =>
    have e1 : DataW.trod enc Try.prog W 0 (fun _ => true) true k 29 [.slice a n c] = some y1 := by simpa [cells9, cells29, Value.cells] using hg 1 _ rfl
    rcases open_slice Try.underlying29 e1 with ⟨hcs, _⟩ | ⟨b, l, c', m, k', D, Pl, hcs, _, hl, hm, hmm, hd, hx⟩
    · simp at hcs
      obtain ⟨rfl, rfl, rfl⟩ := hcs
      exact Nat.zero_le _
    · simp at hcs
      obtain ⟨rfl, rfl, rfl⟩ := hcs
      have hmem : ((List.range n).map D).length * 32 ≤ 140737488351232 := by
        have h2 := List.all_eq_true.1 hsz ((((List.range n).map D).length + ((List.range (m - n)).map fun j => D (n + j)).length) * Try.prog.bytesOf 51) (DataW.weights_mem_each (j := 0) rfl rfl _ (by
          have hd0 : d = .agg [y0.1, y1.1] := by injection hxx
          rw [hd0, hd]
          simp [DataW.weights, Try.underlying31, DataW.weightsEach, Try.underlying29]))
        rw [bytes51] at h2
        have h3 : reachBytes = 140737488351232 := rfl
        rw [h3] at h2
        simp only [decide_eq_true_eq] at h2
        simp only [List.length_map, List.length_range] at h2 ⊢
        omega
      rw [List.length_map, List.length_range] at hmem
      exact hmem
/-- What is answered is known to the bit. -/
def Const (v : Value) (w : World) (e : Ending) (w' : World) : Prop := e = .returned v ∧ Below w.heap.size w w'
def nilS : Value := .slice none 0 0
set_option maxRecDepth 100000 in
theorem get32nilX (nm : BA) (w : World) : Calls Try.prog 32 #[.pointer none, .string nm] w fun e w' => e = .returned (.pointer (some ⟨w.heap.size, 0, none⟩)) ∧ w.alloc (.cells #[.map none, .map none, .map none] 72) = w' := by
  go_enter Try.func32, Try.ntmps32
  go_wp2_with fail
  go_ret
  exact ⟨rfl, rfl⟩
set_option maxRecDepth 100000 in
theorem names10nilX (w : World) : Calls Try.prog 10 #[.pointer none] w (Const nilS w) := by
  go_enter Try.func10, Try.ntmps10
  go_wp2_with fail
  go_ret
  exact ⟨rfl, Below.refl _ _⟩
set_option maxRecDepth 100000 in
theorem some33nilX (g : Nat) (w : World) : Calls Try.prog 33 #[.pointer (some ⟨g, 0, none⟩), .slice none 0 0] w fun e w' => e = .returned nilS ∧ w = w' := by
  go_enter Try.func33, Try.ntmps33
  go_wp2_with fail
  go_loopw [5, 10] (fun q i wr => q = .slice none 0 0 ∧ i = .int .i64 0 ∧ w = wr) (fun _ _ _ => 0)
  case atStart => exact ⟨rfl, rfl, rfl⟩
  case round =>
    obtain ⟨rfl, rfl, rfl⟩ := hrel
    go_wp2_with fail
    go_ret
    exact ⟨rfl, rfl⟩
theorem gotX (nm : BA) (w : World) : ∃ w1 g, (Calls Try.prog 32 #[.pointer none, .string nm] w fun e w' => e = .returned (.pointer (some ⟨g, 0, none⟩)) ∧ w1 = w') ∧ w1.cell? ⟨g, 0, none⟩ = some (.map none) ∧ w1.cell? ⟨g, 1, none⟩ = some (.map none) ∧ w1.cell? ⟨g, 2, none⟩ = some (.map none) ∧ Below w.heap.size w w1 := by
  have h := get32nilX nm w
  have hb1 := (Below.refl w.heap.size w).alloc (Nat.le_refl _) (.cells #[.map none, .map none, .map none] 72)
  have hx := heap_alloc_new w (.cells #[.map none, .map none, .map none] 72)
  obtain ⟨w1, hw1⟩ : ∃ w1, w.alloc (.cells #[.map none, .map none, .map none] 72) = w1 := ⟨_, rfl⟩
  obtain ⟨g, hg⟩ : ∃ g, w.heap.size = g := ⟨_, rfl⟩
  rw [hw1] at h hx hb1
  rw [hg] at h hx
  exact ⟨w1, g, h, by simp [World.cell?, hx], by simp [World.cell?, hx], by simp [World.cell?, hx], hb1⟩
set_option maxRecDepth 100000 in
theorem all14nilX (nm : BA) (w : World) : Calls Try.prog 14 #[.pointer none, .string nm] w (Const nilS w) := by
  obtain ⟨w1, g, hget, c0, c1, c2, hb1⟩ := gotX nm w
  have HGET := Lib.hid hget
  have HS := Lib.hid (sortedNil38 w1)
  have HB1 := Lib.hid hb1
  clear hb1 hget
  go_enter Try.func14, Try.ntmps14
  go_wp2_with fail
  refine HGET.out.mono ?_
  rintro e w1' ⟨rfl, rfl⟩
  go_wp2_with fail
  refine (keys38 none _).mono ?_
  rintro e w2 ⟨rfl, rfl⟩
  go_wp2_with fail
  refine HS.out.mono ?_
  rintro e w3 ⟨rfl, hb3⟩
  have HB3 := Lib.hid (HB1.out.trans (hb3.mono HB1.out.size))
  clear hb3 c0 c1 c2
  go_wp2_with fail
  refine (some33nilX _ w3).mono ?_
  rintro e w4 ⟨rfl, rfl⟩
  go_wp2_with fail
  go_ret
  exact ⟨rfl, HB3.out⟩
set_option maxRecDepth 100000 in
theorem keys23nilX (nm : BA) (w : World) : Calls Try.prog 23 #[.pointer none, .string nm] w (Const nilS w) := by
  obtain ⟨w1, g, hget, c0, c1, c2, hb1⟩ := gotX nm w
  have HGET := Lib.hid hget
  have HS := Lib.hid (sortedNil52 w1)
  have HB1 := Lib.hid hb1
  clear hb1 hget
  go_enter Try.func23, Try.ntmps23
  go_wp2_with fail
  refine HGET.out.mono ?_
  rintro e w1' ⟨rfl, rfl⟩
  go_wp2_with fail
  refine (keys52 none _).mono ?_
  rintro e w2 ⟨rfl, rfl⟩
  go_wp2_with fail
  refine HS.out.mono ?_
  rintro e w3 ⟨rfl, hb3⟩
  have HB3 := Lib.hid (HB1.out.trans (hb3.mono HB1.out.size))
  clear hb3 c0 c1 c2
  go_wp2_with fail
  go_ret
  exact ⟨rfl, HB3.out⟩
set_option maxRecDepth 100000 in
theorem fields25nilX (nm : BA) (w : World) : Calls Try.prog 25 #[.pointer none, .string nm] w (Const nilS w) := by
  obtain ⟨w1, g, hget, c0, c1, c2, hb1⟩ := gotX nm w
  have HGET := Lib.hid hget
  have HS := Lib.hid (sortedNil53 w1)
  have HB1 := Lib.hid hb1
  clear hb1 hget
  go_enter Try.func25, Try.ntmps25
  go_wp2_with fail
  refine HGET.out.mono ?_
  rintro e w1' ⟨rfl, rfl⟩
  go_wp2_with fail
  refine (keys53 none _).mono ?_
  rintro e w2 ⟨rfl, rfl⟩
  go_wp2_with fail
  refine HS.out.mono ?_
  rintro e w3 ⟨rfl, hb3⟩
  have HB3 := Lib.hid (HB1.out.trans (hb3.mono HB1.out.size))
  clear hb3 c0 c1 c2
  go_wp2_with fail
  go_ret
  exact ⟨rfl, HB3.out⟩
set_option maxRecDepth 100000 in
theorem values12nilX (nm key : BA) (hk : key.size ≤ maxLen) (w : World) : Calls Try.prog 12 #[.pointer none, .string nm, .string key] w (Const nilS w) := by
  obtain ⟨w1, g, hget, c0, c1, c2, hb1⟩ := gotX nm w
  have HGET := Lib.hid hget
  have HS := Lib.hid (sortedNil37 w1)
  have HB1 := Lib.hid hb1
  have hl := look69 (w := w1) (a := none) (L := []) rfl key hk
  rw [show get ([] : List (BA × Nat)) key = none from rfl] at hl
  clear hb1 hget
  go_enter Try.func12, Try.ntmps12
  go_wp2_with fail
  refine HGET.out.mono ?_
  rintro e w1' ⟨rfl, rfl⟩
  go_wp2_with fail
  refine (keys37 none _).mono ?_
  rintro e w2 ⟨rfl, rfl⟩
  go_wp2_with fail
  refine HS.out.mono ?_
  rintro e w3 ⟨rfl, hb3⟩
  have HB3 := Lib.hid (HB1.out.trans (hb3.mono HB1.out.size))
  clear hb3 c0 c1 c2 hl
  go_wp2_with fail
  go_ret
  exact ⟨rfl, HB3.out⟩
set_option maxRecDepth 100000 in
theorem with11nilX (nm key : BA) (w : World) : Calls Try.prog 11 #[.pointer none, .string nm, .string key, .string ⟨#[]⟩] w (Const nilS w) := by
  obtain ⟨w1, g, hget, c0, c1, c2, hb1⟩ := gotX nm w
  have HGET := Lib.hid hget
  have HB1 := Lib.hid hb1
  clear hb1 hget c1 c2
  go_enter Try.func11, Try.ntmps11
  go_wp2_with fail
  refine HGET.out.mono ?_
  rintro e w1' ⟨rfl, rfl⟩
  have hrg := run_range_nilMap (P := Try.prog) w1 68 9 31 Try.underlying68
  have hnx : ∀ ty, (Instr.next (.pointer (some ⟨w1.heap.size, 0, none⟩)) false ty).run Try.prog (w1.alloc (.mapIter none 0 #[] 0)) = _ := fun ty => run_next_nilMap _ ty 0 0 #[]
  go_wp2_with fail
  clear hrg c0
  go_loopw [10] (fun q wr => q = .slice none 0 0 ∧ wr = w1.alloc (.mapIter none 0 #[] 0)) (fun _ _ => 0)
  case atStart => exact ⟨rfl, rfl⟩
  case round =>
    obtain ⟨rfl, rfl⟩ := hrel
    go_wp2_with fail
    clear hnx
    refine (Try.slices_Sort_string_none none 0 _).mono ?_
    rintro e w2 ⟨rfl, rfl⟩
    have HB3 := Lib.hid (HB1.out.alloc HB1.out.size (.mapIter none 0 #[] 0))
    go_wp2_with fail
    refine (some33nilX _ _).mono ?_
    rintro e w4 ⟨rfl, rfl⟩
    go_wp2_with fail
    go_ret
    exact ⟨rfl, HB3.out⟩
end Go.Proofs.Ytobcpafalfdpkaa
