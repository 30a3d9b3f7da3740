/- A series in memory: its text, its tags, its copy. No condition but the number of tags. -/
import Derived.Test.YtobcpafalfdpkaaQ
import Derived.OwnWalk
import Derived.Lib.LazyBuf
namespace Go.Proofs.Ytobcpafalfdpkaa
open Go.RowKit Go.WideMaps Go.Sort
theorem zinfo51 : (Try.prog.info? 51).map (fun i => (i.size, i.bytes, i.zero.map (·.cells.size))) = some (2, 32, some 2) := by kernel_rfl
theorem zparts51 : ∃ i z, Try.prog.info? 51 = some i ∧ i.zero = some z ∧ i.size = 2 ∧ i.bytes = 32 ∧ z.cells.size = 2 := by
  have e1 := zinfo51
  cases h : Try.prog.info? 51 with
  | none => rw [h] at e1; cases e1
  | some i =>
    rw [h] at e1
    simp only [Option.map_some, Option.some.injEq, Prod.mk.injEq] at e1
    obtain ⟨h1, h2, h3⟩ := e1
    cases hz : i.zero with
    | none => rw [hz] at h3; cases h3
    | some z =>
      rw [hz] at h3
      exact ⟨i, z, rfl, hz, h1, h2, by simpa using h3⟩
theorem zinfo31 : (Try.prog.info? 31).map (fun i => (i.size, i.bytes, i.zero.map (·.cells.size))) = some (2, 40, some 2) := by kernel_rfl
theorem zparts31 : ∃ i z, Try.prog.info? 31 = some i ∧ i.zero = some z ∧ i.size = 2 ∧ i.bytes = 40 ∧ z.cells.size = 2 := by
  have e1 := zinfo31
  cases h : Try.prog.info? 31 with
  | none => rw [h] at e1; cases e1
  | some i =>
    rw [h] at e1
    simp only [Option.map_some, Option.some.injEq, Prod.mk.injEq] at e1
    obtain ⟨h1, h2, h3⟩ := e1
    cases hz : i.zero with
    | none => rw [hz] at h3; cases h3
    | some z =>
      rw [hz] at h3
      exact ⟨i, z, rfl, hz, h1, h2, by simpa using h3⟩
/-- A series in memory. -/
def SrIn (w : World) (v : Value) (s : Sr) : Prop :=
  ∃ a c, v = .agg #[.string s.name, .slice a s.tags.length c] ∧ (a = none → c = 0) ∧ s.tags.length < 2 ^ 63 ∧ TagsAt w a s.tags.length s.kf s.vf ∧ s.name.size ≤ maxLen ∧ ∀ p ∈ s.tags, p.1.size ≤ maxLen ∧ p.2.size ≤ maxLen
theorem SrIn.later {w w' : World} {v : Value} {s : Sr} (h : SrIn w v s) (hb : Below w.heap.size w w') : SrIn w' v s := by
  obtain ⟨a, c, hv, h0, h1, h2, h3⟩ := h
  exact ⟨a, c, hv, h0, h1, h2.later hb, h3⟩
theorem sizes_kf {s : Sr} (h : ∀ p ∈ s.tags, p.1.size ≤ maxLen ∧ p.2.size ≤ maxLen) (i : Nat) : (s.kf i).size ≤ maxLen ∧ (s.vf i).size ≤ maxLen := by
  unfold Sr.kf Sr.vf
  by_cases hi : i < s.tags.length
  · have e : s.tags.getD i (ba0, ba0) = s.tags[i] := by simp [List.getD, List.getElem?_eq_getElem hi]
    rw [e]
    exact h _ (List.getElem_mem hi)
  · have e : s.tags.getD i (ba0, ba0) = (ba0, ba0) := by simp [List.getD, List.getElem?_eq_none (Nat.le_of_not_lt hi)]
    rw [e]
    exact ⟨Nat.zero_le _, Nat.zero_le _⟩
/-- The text and the error of a series. -/
def Sr.tx (s : Sr) : BA × Int := textB s.name s.tags.length s.kf s.vf
theorem text28 {w : World} {v : Value} {s : Sr} (h : SrIn w v s) : Calls Try.prog 28 #[v] w (Answer (.tuple #[.string s.tx.1, .int .i64 s.tx.2]) w) := by
  obtain ⟨a, c, rfl, _, h1, h2, h3, h4⟩ := h
  exact text s.name a s.tags.length c s.kf s.vf w h1 h3 (sizes_kf h4) h2
theorem text39 {w : World} {v : Value} {s : Sr} (h : SrIn w v s) : Calls Try.prog 39 #[v] w (Answer (.tuple #[.string s.tx.1, .int .i64 s.tx.2]) w) := by
  obtain ⟨a, c, rfl, _, h1, h2, h3, h4⟩ := h
  exact rtext s.name a s.tags.length c s.kf s.vf w h1 h3 (sizes_kf h4) h2
/-- A tag by its key. -/
def Sr.tg (s : Sr) (key : BA) : BA × Bool := tagB s.tags.length s.kf s.vf key
theorem tag36 {w : World} {v : Value} {s : Sr} (h : SrIn w v s) (key : BA) : Calls Try.prog 36 #[v, .string key] w (Answer (.tuple #[.string (s.tg key).1, .bool (s.tg key).2]) w) := by
  obtain ⟨a, c, rfl, _, h1, h2, _⟩ := h
  exact tag s.name a s.tags.length c s.kf s.vf key w h1 h2
theorem tag13 {w : World} {v : Value} {s : Sr} (h : SrIn w v s) (key : BA) : Calls Try.prog 13 #[v, .string key] w (Answer (.tuple #[.string (s.tg key).1, .bool (s.tg key).2]) w) := by
  obtain ⟨a, c, rfl, _, h1, h2, _⟩ := h
  exact rtag s.name a s.tags.length c s.kf s.vf key w h1 h2
theorem sameB_refl (s : Sr) : sameB s.name s.name s.tags.length s.tags.length s.kf s.vf s.kf s.vf = true := by
  simp [sameB, tagEq]
theorem same27 {w : World} {u v : Value} {s : Sr} (h : SrIn w u s) (h' : SrIn w v s) : Calls Try.prog 27 #[u, v] w (Answer (.bool true) w) := by
  obtain ⟨a, c, rfl, _, h1, h2, _⟩ := h
  obtain ⟨a', c', rfl, _, _, h3, _⟩ := h'
  have := same s.name s.name a a' s.tags.length s.tags.length c c' s.kf s.vf s.kf s.vf w h1 h2 h3
  rw [sameB_refl] at this
  exact this
theorem kf_get {s : Sr} {i : Nat} {p : BA × BA} (h : s.tags[i]? = some p) : s.kf i = p.1 ∧ s.vf i = p.2 := by
  unfold Sr.kf Sr.vf
  simp [List.getD, h]
def tgV (p : BA × BA) : List Value := [.string p.1, .string p.2]
def tgC (T : List (BA × BA)) : List Value := T.flatMap tgV
theorem flat_at {α : Type} (g : α → List Value) (m : Nat) (hm : ∀ x, (g x).length = m) : ∀ (L : List α) (k i : Nat) (x : α), L[k]? = some x → i < m → (L.flatMap g)[k * m + i]? = (g x)[i]?
  | [], _, _, _, h, _ => by simp at h
  | y :: r, 0, i, x, h, hi => by
    have e : y = x := by simpa using h
    rw [List.flatMap_cons, List.getElem?_append_left (by rw [hm]; omega), Nat.zero_mul, Nat.zero_add, e]
  | y :: r, k + 1, i, x, h, hi => by
    have h' : r[k]? = some x := by simpa using h
    rw [List.flatMap_cons, List.getElem?_append_right (by rw [hm, Nat.succ_mul]; omega), hm, show (k + 1) * m + i - m = k * m + i by rw [Nat.succ_mul]; omega]
    exact flat_at g m hm r k i x h' hi
theorem flat_len {α : Type} (g : α → List Value) (m : Nat) (hm : ∀ x, (g x).length = m) : ∀ L : List α, (L.flatMap g).length = L.length * m
  | [] => by simp
  | y :: r => by rw [List.flatMap_cons, List.length_append, hm, flat_len g m hm r, List.length_cons, Nat.succ_mul]; omega
theorem tgC_len (T : List (BA × BA)) : (tgC T).length = T.length * 2 := flat_len tgV 2 (fun _ => rfl) T
theorem SrIn.src {w : World} {v : Value} {s : Sr} (h : SrIn w v s) : ∃ a c, v = .agg #[.string s.name, .slice a s.tags.length c] ∧ (a = none → c = 0) ∧ SrcN w 2 (.slice a s.tags.length c) s.tags.length (tgC s.tags) := by
  obtain ⟨a, c, rfl, h0, h1, h2, _⟩ := h
  refine ⟨a, c, rfl, h0, tgC_len _, ?_⟩
  cases a with
  | none =>
    left
    have hl : s.tags.length = 0 := by
      rcases Nat.eq_zero_or_pos s.tags.length with h | h
      · exact h
      · obtain ⟨b, o, he, _⟩ := h2 0 h; cases he
    rw [hl, h0 rfl]; exact ⟨rfl, rfl⟩
  | some ad =>
    right
    refine ⟨ad, c, rfl, fun j u hj => ?_, fun u hu => ?_⟩
    · have hj2 : j < s.tags.length * 2 := by rw [← tgC_len]; exact (List.getElem?_eq_some_iff.1 hj).1
      obtain ⟨k, i, hk, hi, rfl⟩ : ∃ k i, k < s.tags.length ∧ i < 2 ∧ j = k * 2 + i := ⟨j / 2, j % 2, by omega, by omega, by omega⟩
      obtain ⟨b, off, he, _, hc1, hc2⟩ := h2 k hk
      cases he
      have hg : s.tags[k]? = some s.tags[k] := List.getElem?_eq_getElem hk
      have h3 := flat_at tgV 2 (fun _ => rfl) s.tags k i _ hg hi
      have h4 : (tgC s.tags)[k * 2 + i]? = (tgV s.tags[k])[i]? := h3
      rw [h4] at hj
      have ha : (⟨b, off, none⟩ : Addr).add (k * 2 + i) = ⟨b, off + (k * 2 + i), none⟩ := by unfold Addr.add; split <;> simp_all
      rw [ha]
      obtain ⟨e1, e2⟩ := kf_get hg
      match i, hi, hj with
      | 0, _, hj => cases hj; rw [Nat.add_zero, hc1, e1]
      | 1, _, hj => cases hj; rw [← Nat.add_assoc, hc2, e2]
    · obtain ⟨p, _, hp⟩ := List.mem_flatMap.1 hu
      simp [tgV] at hp
      rcases hp with rfl | rfl <;> rfl
theorem SerAt.sr {w : World} {sv : SV} (h : SerAt w sv) : SrIn w sv.val sv.sr :=
  ⟨adr sv.a, sv.c, rfl, fun e => h.nil0 (by unfold adr at e; cases ha : sv.a with | none => rfl | some p => rw [ha] at e; cases e), by have := h.few; omega, h.tags, h.name, h.sizes⟩
theorem eql_nil29 (w : World) (a : Option Addr) (n c : Nat) : (binOp .eql 29 (.slice a n c) (.slice none 0 0)).run Try.prog w = .ok (.bool a.isNone) w := run_eql_slice_nil w 29 51 a n c Try.underlying29
set_option maxRecDepth 100000 in
/-- A copy of tags: new memory. -/
theorem clone56 (w : World) (a : Option Addr) (n c : Nat) (T : List (BA × BA)) (hT : T.length = n) (h0 : a = none → c = 0) (hs : SrcN w 2 (.slice a n c) n (tgC T)) (hn : n ≤ 4398046511104) :
    Calls Try.prog 56 #[.slice a n c] w fun e w' => ∃ a' c', e = .returned (.slice a' n c') ∧ w'.ownsRow w.heap.size 51 2 (.slice a' n c') n (tgC T) ∧ Below w.heap.size w w' := by
  obtain ⟨i0, z0', hi, hz0, hz1, hz2, hz3⟩ := zparts51
  have HI := Lib.hid hi
  have HI0 := Lib.hid hz0
  have HI1 := Lib.hid hz1
  have HI2 := Lib.hid hz2
  have HI3 := Lib.hid hz3
  clear hi hz0 hz1 hz2 hz3
  have HS := Lib.hid hs
  rcases hs.2 with ⟨hv, h2⟩ | ⟨ad, c2, hv, _⟩
  · injection hv with e1 e2 e3
    subst e1 e3 h2
    have h3 : T = [] := List.eq_nil_of_length_eq_zero hT
    have H3 := Lib.hid h3
    clear h3 hs hn h0 hT
    have he := fun w' => eql_nil29 w' none 0 0
    go_enter Try.func56, Try.ntmps56
    go_wp2_with fail
    go_ret
    refine ⟨_, _, rfl, ?_, Below.refl _ _⟩
    rw [H3.out]
    exact World.ownsRow_nil _ _ _ _
  · injection hv with e1 e2 e3
    subst e1 e3
    clear hs h0 hT
    have hmade := World.ownsRow_made (w := w) (base := w.heap.size) (e := 51) (size := 2) #[] 0 (Nat.le_refl _) (by unfold maxLen; omega) rfl
    have HM := Lib.hid hmade
    have HSL := Lib.hid (HS.out.later ((Below.refl _ _).alloc (Nat.le_refl _) (.cells #[] 51)))
    clear hmade
    have he := fun w' => eql_nil29 w' (some ad) n c
    go_enter Try.func56, Try.ntmps56
    go_wp2_with (at_builtin; go_must (refine wpList_append_srcN rfl _ _ 29 rfl w.heap.size 51 i0 z0' 2 32 Try.underlying29 HI.out HI0.out HI1.out HI2.out HI3.out (by omega) (.slice (some ⟨w.heap.size, 0, none⟩) 0 0) 0 [] rfl HM.out (.slice (some ad) n c) n (tgC T) rfl HSL.out (by unfold maxLen; omega) (by omega) (by simp) ?_); intro v3 w3 hr3 hg3 hat3)
    simp only [Nat.zero_add, List.nil_append] at hr3
    have HR3 := Lib.hid hr3
    have HB3 := Lib.hid (show Below w.heap.size w w3 from ((Below.refl w.heap.size w).alloc (Nat.le_refl _) _).grown hg3 (by simp) (fun b hb => by simp [Value.ownBlock] at hb; omega))
    obtain ⟨a3, c3, rfl⟩ : ∃ a3 c3, v3 = .slice a3 n c3 := by
      rcases hr3.2 with ⟨h1, h2⟩ | ⟨g, c, cur, h1, _⟩
      · exact ⟨none, 0, by rw [h1, h2]⟩
      · exact ⟨_, c, h1⟩
    clear hr3 hg3 hat3
    go_wp2_with fail
    go_ret
    exact ⟨_, _, rfl, HR3.out, HB3.out⟩
end Go.Proofs.Ytobcpafalfdpkaa
