/- Each call on either index, both in one heap with a box beside them. Condition: the bounds. -/
import Derived.Test.YtobcpafalfdpkaaBN
import Derived.Deep.RegionHeld3
namespace Go.Proofs.Ytobcpafalfdpkaa
open Go.RowKit Go.WideMaps Go.Sort
/-- Both indexes, and what lay beside them in w0. -/
def St (W w : World) (x m : Nat) (L : List (BA × Nat)) (M : BA → Me) (N r : Nat) (E : List (BA × SV)) (K : List (BA × BA × Int)) (w0 : World) (ρ0 : Nat → Option Role) : Prop := ∃ ρ, Duo W w ρ x m L M N r E K ∧ w0.heap.size ≤ w.heap.size ∧ ∀ b, b < w0.heap.size → ρ0 b = none → w.heap[b]? = w0.heap[b]? ∧ ρ b = none
section
variable {W w w' w0 : World} {ρ0 : Nat → Option Role} {x m : Nat} {L L' : List (BA × Nat)} {M M' : BA → Me} {N N' r : Nat} {E E' : List (BA × SV)} {K K' : List (BA × BA × Int)}
theorem St.later (h : St W w x m L M N r E K w0 ρ0) (hb : Below w.heap.size w w') : St W w' x m L M N r E K w0 ρ0 := by
  obtain ⟨ρ, h1, h2, h3⟩ := h
  exact ⟨ρ, h1.later hb, Nat.le_trans h2 hb.size, fun b hb2 hn => ⟨(hb.block b (by omega)).trans (h3 b hb2 hn).1, (h3 b hb2 hn).2⟩⟩
theorem St.drew (h : St W w x m L M N r E K w0 ρ0) : St W w.drew x m L M N r E K w0 ρ0 := h.later (Below.refl _ _).drew
theorem St.box (h : St W w x m L M N r E K w0 ρ0) {B : Nat} {O : Obj} (hB : w0.heap[B]? = some O) (hn : ρ0 B = none) : w.heap[B]? = some O := by
  obtain ⟨ρ, _, _, h3⟩ := h
  exact (h3 B (heap_lt hB) hn).1.trans hB
theorem St.prog {ρ ρ' : Nat → Option Role} {Q : Role → Prop} (h : Duo W w ρ x m L M N r E K) (hB : w0.heap.size ≤ w.heap.size) (hn : ∀ b, b < w0.heap.size → ρ0 b = none → w.heap[b]? = w0.heap[b]? ∧ ρ b = none) (hg : Good w' ρ' x m L' M' N') (hs : Step w w' ρ ρ' Q) (hq : ¬ Q .idx) : St W w' x m L' M' N' r E K w0 ρ0 :=
  ⟨ρ', h.prog hg hs hq, Nat.le_trans hB hs.size, fun b hb h0 => ⟨(hs.block b (by omega) fun r e => by rw [(hn b hb h0).2] at e; cases e).trans (hn b hb h0).1, (hs.role b (by omega)).trans (hn b hb h0).2⟩⟩
theorem St.refs {ρ : Nat → Option Role} (h : Duo W w ρ x m L M N r E K) (hB : w0.heap.size ≤ w.heap.size) (hn : ∀ b, b < w0.heap.size → ρ0 b = none → w.heap[b]? = w0.heap[b]? ∧ ρ b = none) (hs : RefStep w (Own ρ x) r E' K' w') : St W w' x m L M N r E' K' w0 ρ0 :=
  ⟨_, h.refs hs, Nat.le_trans hB hs.1.size, fun b hb h0 => ⟨(hs.1.block b (by omega) fun h2 => by have h3 := (hn b hb h0).2; rw [h2.1] at h3; cases h3).trans (hn b hb h0).1, by
    unfold roleR
    rw [if_neg (by omega)]
    exact (hn b hb h0).2⟩⟩
theorem like_congr (h : Like L M E K) (hs : ∀ nm, (meOf L' M' nm).ss = (meOf L M nm).ss ∧ (meOf L' M' nm).kd = (meOf L M nm).kd) : Like L' M' E K :=
  ⟨h.rise, h.ser, fun t s => by rw [(hs s.name).1]; exact h.mem t s, fun nm f => by rw [(hs nm).2]; exact h.kd nm f⟩
theorem like_same {nm : BA} (h : Like L M E K) (ho : ∀ nm', nm' ≠ nm → meOf L' M' nm' = meOf L M nm') (hs : SameMe (meOf L M nm) (meOf L' M' nm)) : Like L' M' E K := like_congr h fun n => by
  by_cases hn : n = nm
  · subst hn; exact ⟨hs.ss, hs.kd⟩
  · rw [ho n hn]; exact ⟨rfl, rfl⟩
theorem not_idx {nm : BA} : ¬ ((fun r : Role => r = .outer ∨ r.of nm) .idx) := fun h => by
  rcases h with h | h
  · cases h
  · exact h
def PAdd (L : List (BA × Nat)) (M : BA → Me) (L' : List (BA × Nat)) (M' : BA → Me) (s : Sr) : Prop :=
  (∀ nm, nm ≠ s.name → meOf L' M' nm = meOf L M nm) ∧ ((addA (meOf L M s.name) s).1 = false → SameMe (meOf L M s.name) (meOf L' M' s.name)) ∧
    ((addA (meOf L M s.name) s).1 = true → ∃ sv : SV, sv.sr = s ∧ (meOf L' M' s.name).ss = put (meOf L M s.name).ss s.txt sv ∧ (meOf L' M' s.name).kd = (meOf L M s.name).kd)
theorem xadd (h : St W w x m L M N r E K w0 ρ0) (hN : N ≤ 3518437208780) {nm : Value} {a : Option Addr} {n c : Nat} {s : Sr} (hs : SrIn W (.agg #[nm, .slice a n c]) s) : Calls Try.prog 9 #[.pointer (some ⟨x, 0, none⟩), .agg #[nm, .slice a n c]] w fun e w' =>
    e = .returned (.tuple #[.bool (addA (meOf L M s.name) s).1, .int .i64 (addA (meOf L M s.name) s).2]) ∧ ∃ L' M', St W w' x m L' M' (N + 1) r E K w0 ρ0 ∧ PAdd L M L' M' s := by
  obtain ⟨ρ, h1, h2, h3⟩ := h
  refine (add_good h1.good hN (hs.later h1.low) (h1.free hs)).mono ?_
  intro e w' hp
  unfold AddGood at hp
  obtain ⟨ρ', L', M', he, hg, hst, ho, hno, hyes⟩ := hp
  exact ⟨he, L', M', St.prog h1 h2 h3 hg hst not_idx, ho, hno, hyes⟩
theorem addA_cases (hl : Like L M E K) (hme : ∀ nm, MeOk nm (meOf L M nm)) (s : Sr) : (s.ok = false → addA (meOf L M s.name) s = (false, 1)) ∧ (s.ok = true → (∃ p ∈ E, p.1 = s.txt) → addA (meOf L M s.name) s = (false, 0)) ∧ (s.ok = true → (∀ p ∈ E, p.1 ≠ s.txt) → addA (meOf L M s.name) s = (true, 0)) := by
  unfold addA
  refine ⟨fun h => by rw [if_neg (by rw [h]; exact Bool.false_ne_true)], fun h hp => ?_, fun h hp => ?_⟩
  · rw [if_pos h, if_pos ((like_get hl hme).2 hp)]
  · rw [if_pos h, if_neg fun h2 => by
      obtain ⟨p, hp1, hp2⟩ := (like_get hl hme).1 h2
      exact hp p hp1 hp2]
theorem radd {L0 : List (BA × Nat)} {M0 : BA → Me} (h : St W w x m L M N r E K w0 ρ0) (hl : Like L0 M0 E K) (hme : ∀ nm, MeOk nm (meOf L0 M0 nm)) (hE : E.length ≤ 1000000000000) {v : Value} {s : Sr} (hs : SrIn W v s) : Calls Try.prog 16 #[.pointer (some ⟨r, 0, none⟩), v] w fun e w' =>
    e = .returned (.tuple #[.bool (addA (meOf L0 M0 s.name) s).1, .int .i64 (addA (meOf L0 M0 s.name) s).2]) ∧ ∃ E', St W w' x m L M N r E' K w0 ρ0 ∧ E'.length ≤ E.length + 1 ∧ ∀ L' M', PAdd L0 M0 L' M' s → Like L' M' E' K := by
  obtain ⟨ρ, h1, h2, h3⟩ := h
  obtain ⟨c1, c2, c3⟩ := addA_cases hl hme s
  refine (radd16 h1.ref (hs.later h1.low) hE).mono ?_
  intro e w' hp
  rcases hp with ⟨hok, he, hst⟩ | ⟨hok, hex, he, hst⟩ | ⟨hok, k, sv, hpl, hno, hsv, he, hst⟩
  · rw [c1 hok]
    refine ⟨he, E, St.refs h1 h2 h3 hst, Nat.le_succ _, fun L' M' hp => ?_⟩
    exact like_same hl hp.1 (hp.2.1 (by rw [c1 hok]))
  · rw [c2 hok hex]
    refine ⟨he, E, St.refs h1 h2 h3 hst, Nat.le_succ _, fun L' M' hp => ?_⟩
    exact like_same hl hp.1 (hp.2.1 (by rw [c2 hok hex]))
  · have hni := not_in hl.rise hpl hno
    rw [c3 hok hni]
    refine ⟨he, _, St.refs h1 h2 h3 hst, ?_, fun L' M' hp => ?_⟩
    · rw [List.length_append, List.length_cons, List.length_take, List.length_drop]; omega
    · obtain ⟨sv', hsv', hss, hkd⟩ := hp.2.2 (by rw [c3 hok hni])
      refine like_add hl hok hpl hno hsv hsv' ?_ hss hkd hp.1
      cases hg : get (meOf L0 M0 s.name).ss s.txt with
      | none => rfl
      | some sv2 =>
        obtain ⟨p, hp1, hp2⟩ := (like_get hl hme).1 (by rw [hg]; rfl)
        exact absurd hp2 (hni p hp1)
def PDrop (L : List (BA × Nat)) (M : BA → Me) (L' : List (BA × Nat)) (M' : BA → Me) (s : Sr) : Prop :=
  (∀ nm, nm ≠ s.name → meOf L' M' nm = meOf L M nm) ∧ (dropA (meOf L M s.name) s = false → SameMe (meOf L M s.name) (meOf L' M' s.name)) ∧
    (dropA (meOf L M s.name) s = true → (meOf L' M' s.name).ss = del (meOf L M s.name).ss s.txt ∧ (meOf L' M' s.name).kd = (meOf L M s.name).kd)
theorem xdrop (h : St W w x m L M N r E K w0 ρ0) {nm : Value} {a : Option Addr} {n c : Nat} {s : Sr} (hs : SrIn W (.agg #[nm, .slice a n c]) s) : Calls Try.prog 17 #[.pointer (some ⟨x, 0, none⟩), .agg #[nm, .slice a n c]] w fun e w' =>
    e = .returned (.bool (dropA (meOf L M s.name) s)) ∧ ∃ L' M', St W w' x m L' M' N r E K w0 ρ0 ∧ PDrop L M L' M' s := by
  obtain ⟨ρ, h1, h2, h3⟩ := h
  refine (drop_good h1.good (hs.later h1.low) (h1.free hs)).mono ?_
  intro e w' hp
  unfold DropGood at hp
  obtain ⟨M', he, hg, hst, ho, hno, hyes⟩ := hp
  exact ⟨he, L, M', St.prog h1 h2 h3 hg hst not_idx, ho, hno, hyes⟩
theorem rdrop {L0 : List (BA × Nat)} {M0 : BA → Me} (h : St W w x m L M N r E K w0 ρ0) (hl : Like L0 M0 E K) (hme : ∀ nm, MeOk nm (meOf L0 M0 nm)) (hE : E.length ≤ 1000000000000) {v : Value} {s : Sr} (hs : SrIn W v s) : Calls Try.prog 49 #[.pointer (some ⟨r, 0, none⟩), v] w fun e w' =>
    e = .returned (.bool (dropA (meOf L0 M0 s.name) s)) ∧ ∃ E', St W w' x m L M N r E' K w0 ρ0 ∧ E'.length ≤ E.length + 1 ∧ ∀ L' M', PDrop L0 M0 L' M' s → Like L' M' E' K := by
  obtain ⟨ρ, h1, h2, h3⟩ := h
  refine (rdrop49 h1.ref (hs.later h1.low) hE).mono ?_
  intro e w' hp
  rcases hp with ⟨hok, he, hst⟩ | ⟨hok, ⟨k, hpl, hno⟩, he, hst⟩ | ⟨hok, k, p, hpk, hpt, he, hst⟩
  · have hd : dropA (meOf L0 M0 s.name) s = false := by unfold dropA; rw [hok]; rfl
    rw [hd]
    exact ⟨he, E, St.refs h1 h2 h3 hst, Nat.le_succ _, fun L' M' hp => like_same hl hp.1 (hp.2.1 hd)⟩
  · have hni := not_in hl.rise hpl hno
    have hd : dropA (meOf L0 M0 s.name) s = false := by
      unfold dropA
      rw [hok, Bool.true_and, Bool.eq_false_iff]
      intro h2
      obtain ⟨p, hp1, hp2⟩ := (like_get hl hme).1 h2
      exact hni p hp1 hp2
    rw [hd]
    exact ⟨he, E, St.refs h1 h2 h3 hst, Nat.le_succ _, fun L' M' hp => like_same hl hp.1 (hp.2.1 hd)⟩
  · have hd : dropA (meOf L0 M0 s.name) s = true := by
      unfold dropA
      rw [hok, Bool.true_and]
      exact (like_get hl hme).2 ⟨p, List.mem_of_getElem? hpk, hpt⟩
    rw [hd]
    refine ⟨he, _, St.refs h1 h2 h3 hst, Nat.le_succ_of_le (List.length_eraseIdx_le ..), fun L' M' hp => ?_⟩
    obtain ⟨hss, hkd⟩ := hp.2.2 hd
    exact like_drop hl hpk hpt hss hkd hp.1
def PSet (L : List (BA × Nat)) (M : BA → Me) (L' : List (BA × Nat)) (M' : BA → Me) (nm f : BA) (k : Int) : Prop :=
  (∀ nm', nm' ≠ nm → meOf L' M' nm' = meOf L M nm') ∧ (meOf L' M' nm).ss = (meOf L M nm).ss ∧ (meOf L' M' nm).kd = skD (meOf L M nm).kd f k
theorem xset (h : St W w x m L M N r E K w0 ρ0) (hN : N ≤ 3518437208780) (nm f : BA) (k : Int) (hn : nm.size ≤ maxLen) (hf : f.size ≤ maxLen) : Calls Try.prog 24 #[.pointer (some ⟨x, 0, none⟩), .string nm, .string f, .int .i64 k] w fun e w' =>
    e = .returned (.int .i64 (skE (get (meOf L M nm).kd f) k)) ∧ ∃ L' M', St W w' x m L' M' (N + 1) r E K w0 ρ0 ∧ PSet L M L' M' nm f k := by
  obtain ⟨ρ, h1, h2, h3⟩ := h
  refine (set_good h1.good hN nm f k hn hf).mono ?_
  intro e w' hp
  unfold SetGood at hp
  obtain ⟨ρ', L', M', he, hg, hst, ho, hss, hkd⟩ := hp
  exact ⟨he, L', M', St.prog h1 h2 h3 hg hst not_idx, ho, hss, hkd⟩
theorem rset {L0 : List (BA × Nat)} {M0 : BA → Me} (h : St W w x m L M N r E K w0 ρ0) (hl : Like L0 M0 E K) (hK : K.length ≤ 1000000000000) (nm f : BA) (k : Int) : Calls Try.prog 50 #[.pointer (some ⟨r, 0, none⟩), .string nm, .string f, .int .i64 k] w fun e w' =>
    e = .returned (.int .i64 (skE (get (meOf L0 M0 nm).kd f) k)) ∧ ∃ K', St W w' x m L M N r E K' w0 ρ0 ∧ K'.length ≤ K.length + 1 ∧ ∀ L' M', PSet L0 M0 L' M' nm f k → Like L' M' E K' := by
  obtain ⟨ρ, h1, h2, h3⟩ := h
  refine (rsetKind50 h1.ref nm f k (by omega)).mono ?_
  rintro e w' ⟨he, hst⟩
  refine ⟨by rw [hl.kd]; exact he, _, St.refs h1 h2 h3 hst, ?_, fun L' M' hp => like_set hl hp.2.1 hp.2.2 hp.1⟩
  unfold kinS
  split
  · rw [List.length_append]; exact Nat.le_refl _
  · exact Nat.le_succ _
def PFor (L : List (BA × Nat)) (M : BA → Me) (L' : List (BA × Nat)) (M' : BA → Me) (nm : BA) : Prop := (∀ nm', nm' ≠ nm → meOf L' M' nm' = meOf L M nm') ∧ meOf L' M' nm = me0
theorem xforget (h : St W w x m L M N r E K w0 ρ0) (hN : N ≤ 3518437208780) (nm : BA) (hn : nm.size ≤ maxLen) : Calls Try.prog 26 #[.pointer (some ⟨x, 0, none⟩), .string nm] w fun e w' =>
    e = .returned (.int .i64 (meOf L M nm).ss.length) ∧ ∃ L' M', St W w' x m L' M' N r E K w0 ρ0 ∧ PFor L M L' M' nm := by
  obtain ⟨ρ, h1, h2, h3⟩ := h
  refine (forget_good h1.good hN nm hn).mono ?_
  rintro e w' ⟨he, hg, hst, ho⟩
  exact ⟨he, _, M, St.prog h1 h2 h3 hg hst not_idx, ho, meOf_del L M nm⟩
theorem rforget {L0 : List (BA × Nat)} {M0 : BA → Me} (h : St W w x m L M N r E K w0 ρ0) (hl : Like L0 M0 E K) (hme : ∀ nm, MeOk nm (meOf L0 M0 nm)) (hr : ∀ nm, Rises (meOf L0 M0 nm)) (hE : E.length ≤ 1000000000000) (hK : K.length ≤ 1000000000000) (nm : BA) : Calls Try.prog 51 #[.pointer (some ⟨r, 0, none⟩), .string nm] w fun e w' =>
    e = .returned (.int .i64 (meOf L0 M0 nm).ss.length) ∧ ∃ E' K', St W w' x m L M N r E' K' w0 ρ0 ∧ E'.length ≤ E.length + 1 ∧ K'.length ≤ K.length + 1 ∧ ∀ L' M', PFor L0 M0 L' M' nm → Like L' M' E' K' := by
  obtain ⟨ρ, h1, h2, h3⟩ := h
  refine (rforget51 h1.ref nm hE hK).mono ?_
  rintro e w' ⟨he, hst⟩
  refine ⟨by rw [he, fE_len hl hme hr], _, _, St.refs h1 h2 h3 hst, Nat.le_succ_of_le (List.length_filter_le ..), Nat.le_succ_of_le (List.length_filter_le ..), fun L' M' hp => like_forget hl hp.2 hp.1⟩
end
end Go.Proofs.Ytobcpafalfdpkaa
/- A call of a script on both indexes. Condition: the bounds. -/
namespace Go.Proofs.Ytobcpafalfdpkaa
open Go.RowKit Go.WideMaps Go.Sort
def opV (call : Int) (nm : BA) (a : Option Addr) (n c : Nat) (f : BA) (k : Int) : Array Value := #[.int .i64 call, .string nm, .slice a n c, .string f, .int .i64 k]
def PlayPost (W w : World) (ρ : Nat → Option Role) (x m N r : Nat) (e1 k1 : Nat) (e : Ending) (w' : World) : Prop :=
  e = .returned (.bool true) ∧ ∃ ρ' L' M' E' K', Duo W w' ρ' x m L' M' (N + 1) r E' K' ∧ Like L' M' E' K' ∧ E'.length ≤ e1 + 1 ∧ K'.length ≤ k1 + 1 ∧ w.heap.size ≤ w'.heap.size ∧ ∀ b, b < w.heap.size → ρ b = none → w'.heap[b]? = w.heap[b]? ∧ ρ' b = none
theorem Duo.more {W w : World} {ρ : Nat → Option Role} {x m : Nat} {L : List (BA × Nat)} {M : BA → Me} {N N' r : Nat} {E : List (BA × SV)} {K : List (BA × BA × Int)} (h : Duo W w ρ x m L M N r E K) (hN : N ≤ N') : Duo W w ρ x m L M N' r E K :=
  ⟨h.good.more hN, h.ref, h.low, h.role⟩
theorem play_end {W w w0 : World} {ρ0 : Nat → Option Role} {x m : Nat} {L : List (BA × Nat)} {M : BA → Me} {N N' r : Nat} {E : List (BA × SV)} {K : List (BA × BA × Int)} {O : Obj} {e1 k1 : Nat} (h : St W w x m L M N' r E K (w0.alloc O) ρ0) (hN : N' ≤ N + 1) (hl : Like L M E K) (hE : E.length ≤ e1 + 1) (hK : K.length ≤ k1 + 1) : PlayPost W w0 ρ0 x m N r e1 k1 (.returned (.bool true)) w := by
  obtain ⟨ρ, h1, h2, h3⟩ := h
  have h2' : w0.heap.size + 1 ≤ w.heap.size := by simpa using h2
  exact ⟨rfl, ρ, L, M, E, K, h1.more hN, hl, hE, hK, by omega, fun b hb hn => ⟨(h3 b (by simp; omega) hn).1.trans (heap_alloc_old w0 O hb), (h3 b (by simp; omega) hn).2⟩⟩
set_option maxRecDepth 100000 in
set_option maxHeartbeats 4000000 in
theorem play21 {W w : World} {ρ : Nat → Option Role} {x m : Nat} {L : List (BA × Nat)} {M : BA → Me} {N r : Nat} {E : List (BA × SV)} {K : List (BA × BA × Int)} (h : Duo W w ρ x m L M N r E K) (hl : Like L M E K) (hN : N ≤ 100000000000) (hE : E.length ≤ 100000000000) (hK : K.length ≤ 100000000000)
    (call : Int) (f : BA) (k : Int) {a : Option Addr} {c : Nat} {s : Sr} (hs : SrIn W (.agg #[.string s.name, .slice a s.tags.length c]) s) (hf : f.size ≤ maxLen) :
    Calls Try.prog 21 #[.pointer (some ⟨x, 0, none⟩), .pointer (some ⟨r, 0, none⟩), .agg (opV call s.name a s.tags.length c f k)] w (PlayPost W w ρ x m N r E.length K.length) := by
  have hnm : s.name.size ≤ maxLen := by obtain ⟨_, _, _, _, _, _, h, _⟩ := hs; exact h
  obtain ⟨nt, hnt⟩ : ∃ nt, s.tags.length = nt := ⟨_, rfl⟩
  rw [hnt] at hs ⊢
  have hst : St W (w.alloc (.cells (opV call s.name a nt c f k) 48)) x m L M N r E K (w.alloc (.cells (opV call s.name a nt c f k) 48)) ρ :=
    ⟨ρ, h.later ((Below.refl _ _).alloc (Nat.le_refl _) _), Nat.le_refl _, fun b hb hn => ⟨rfl, hn⟩⟩
  have HBN := Lib.hid (h.good.idx.dom _ (Nat.le_refl _))
  have HBX := Lib.hid (heap_alloc_new w (.cells (opV call s.name a nt c f k) 48))
  have HME := Lib.hid h.good.me
  have HRI := Lib.hid h.good.rises
  have HL := Lib.hid hl
  have HS := Lib.hid hs
  obtain ⟨w1, hw1⟩ : ∃ w1, w.alloc (.cells (opV call s.name a nt c f k) 48) = w1 := ⟨_, rfl⟩
  obtain ⟨B, hB⟩ : ∃ B, w.heap.size = B := ⟨_, rfl⟩
  have HW1 := Lib.hid hw1
  rw [hw1] at hst HBX
  rw [hB] at HBN HBX
  have HT := Lib.hid hst
  have HCELL := Lib.hid (fun (w' : World) (h : w'.heap[B]? = some (.cells (opV call s.name a nt c f k) 48)) => (show w'.cell? ⟨B, 0, none⟩ = some (.int .i64 call) ∧ w'.cell? ⟨B, 1, none⟩ = some (.string s.name) ∧ w'.cell? ⟨B, 2, none⟩ = some (.slice a nt c) ∧ w'.cell? ⟨B, 3, none⟩ = some (.string f) ∧ w'.cell? ⟨B, 4, none⟩ = some (.int .i64 k) by simp [World.cell?, h, opV]))
  obtain ⟨k0, k1, k2, k3, k4⟩ := HCELL.out w1 HBX.out
  have HNT := Lib.hid hnt
  clear h hl hs hst hnt
  obtain ⟨O, hO⟩ : ∃ O, Obj.cells (opV call s.name a nt c f k) 48 = O := ⟨_, rfl⟩
  rw [hO] at HCELL HBX HW1
  clear hO
  have hcase : call = 1 ∨ call = 2 ∨ call = 3 ∨ call = 4 ∨ ((call == 1) = false ∧ (call == 2) = false ∧ (call == 3) = false ∧ (call == 4) = false) := by
    simp only [beq_eq_false_iff_ne]
    omega
  unfold opV at hw1 ⊢
  rcases hcase with rfl | rfl | rfl | rfl | ⟨g1, g2, g3, g4⟩
  · go_enter Try.func21, Try.ntmps21
    go_wp2_with fail
    clear hw1 hB k0 k1 k2 k3 k4
    refine (xadd HT.out (by omega) HS.out).mono ?_
    rintro e w2 ⟨rfl, L', M', ht2, hp⟩
    have HT2 := Lib.hid ht2
    have HP := Lib.hid hp
    obtain ⟨k0, k1, k2, k3, k4⟩ := HCELL.out w2 (ht2.box HBX.out HBN.out)
    clear ht2 hp
    have HR := Lib.hid (radd HT2.out HL.out HME.out (by omega) HS.out)
    obtain ⟨ad, had⟩ : ∃ ad, addA (meOf L M s.name) s = ad := ⟨_, rfl⟩
    rw [had] at HR ⊢
    obtain ⟨ab, ae⟩ := ad
    simp only at HR ⊢
    clear had
    go_wp2_with fail
    clear k0 k1 k2 k3 k4
    refine HR.out.mono ?_
    rintro e w3 ⟨rfl, E', ht3, hle, hlk⟩
    have HT3 := Lib.hid ht3
    have HLE := Lib.hid hle
    have HLK := Lib.hid (hlk L' M' HP.out)
    clear ht3 hle hlk
    cases ab <;>
      (go_wp2_with fail
       go_ret
       exact play_end (by rw [HW1.out]; exact HT3.out) (Nat.le_refl _) HLK.out HLE.out (Nat.le_succ _))
  · go_enter Try.func21, Try.ntmps21
    go_wp2_with fail
    have HO := Lib.hid (fun (w' : World) (h : w'.heap[B]? = some O) => (show w'.cell? ⟨B, 1, none⟩ = some (.string s.name) ∧ w'.cell? ⟨B, 2, none⟩ = some (.slice a nt c) from ⟨(HCELL.out w' h).2.1, (HCELL.out w' h).2.2.1⟩))
    clear hw1 hB k0 k3 k4
    go_region_held3 (fun w' => w'.cell? ⟨B, 1, none⟩ = some (.string s.name) ∧ w'.cell? ⟨B, 2, none⟩ = some (.slice a nt c)) (first | exact HO.out _ (HT2.out.box HBX.out HBN.out) | exact HO.out _ (HT3.out.box HBX.out HBN.out) | go_keep)
      (first
        | (go_at_call 17; refine (xdrop (by first | exact HT.out | exact HT.out.drew | exact HT3.out | exact HT3.out.drew) HS.out).mono ?_; rintro e w2 ⟨rfl, L', M', ht2, hp⟩; have HT2 := Lib.hid ht2; have HP := Lib.hid hp; clear ht2 hp)
        | (go_at_call 49; refine (rdrop (L0 := L) (M0 := M) (by first | exact HT.out | exact HT.out.drew | exact HT2.out | exact HT2.out.drew) HL.out HME.out (by omega) HS.out).mono ?_; rintro e w3 ⟨rfl, E', ht3, hle, hlk⟩; have HT3 := Lib.hid ht3; have HLE := Lib.hid hle; have HLK := Lib.hid hlk; clear ht3 hle hlk))
    all_goals
      clear k1 k2
      go_wp2_with fail
      go_ret
      first
        | exact play_end (by rw [HW1.out]; exact HT3.out) (Nat.le_succ _) (HLK.out _ _ HP.out) HLE.out (Nat.le_succ _)
        | exact play_end (by rw [HW1.out]; exact HT2.out) (Nat.le_succ _) (HLK.out _ _ HP.out) HLE.out (Nat.le_succ _)
  · go_enter Try.func21, Try.ntmps21
    go_wp2_with fail
    have HO := Lib.hid (fun (w' : World) (h : w'.heap[B]? = some O) => (show w'.cell? ⟨B, 1, none⟩ = some (.string s.name) ∧ w'.cell? ⟨B, 3, none⟩ = some (.string f) ∧ w'.cell? ⟨B, 4, none⟩ = some (.int .i64 k) from ⟨(HCELL.out w' h).2.1, (HCELL.out w' h).2.2.2.1, (HCELL.out w' h).2.2.2.2⟩))
    clear hw1 hB k0 k2
    go_region_held3 (fun w' => w'.cell? ⟨B, 1, none⟩ = some (.string s.name) ∧ w'.cell? ⟨B, 3, none⟩ = some (.string f) ∧ w'.cell? ⟨B, 4, none⟩ = some (.int .i64 k)) (first | exact HO.out _ (HT2.out.box HBX.out HBN.out) | exact HO.out _ (HT3.out.box HBX.out HBN.out) | go_keep)
      (first
        | (go_at_call 24; refine (xset (by first | exact HT.out | exact HT.out.drew | exact HT3.out | exact HT3.out.drew) (by omega) s.name f k hnm hf).mono ?_; rintro e w2 ⟨rfl, L', M', ht2, hp⟩; have HT2 := Lib.hid ht2; have HP := Lib.hid hp; clear ht2 hp)
        | (go_at_call 50; refine (rset (L0 := L) (M0 := M) (by first | exact HT.out | exact HT.out.drew | exact HT2.out | exact HT2.out.drew) HL.out (by omega) s.name f k).mono ?_; rintro e w3 ⟨rfl, K', ht3, hle, hlk⟩; have HT3 := Lib.hid ht3; have HLE := Lib.hid hle; have HLK := Lib.hid hlk; clear ht3 hle hlk))
    all_goals
      clear k1 k3 k4
      go_wp2_with fail
      go_ret
      first
        | exact play_end (by rw [HW1.out]; exact HT3.out) (Nat.le_refl _) (HLK.out _ _ HP.out) (Nat.le_succ _) HLE.out
        | exact play_end (by rw [HW1.out]; exact HT2.out) (Nat.le_refl _) (HLK.out _ _ HP.out) (Nat.le_succ _) HLE.out
  · go_enter Try.func21, Try.ntmps21
    go_wp2_with fail
    have HO := Lib.hid (fun (w' : World) (h : w'.heap[B]? = some O) => (show w'.cell? ⟨B, 1, none⟩ = some (.string s.name) from (HCELL.out w' h).2.1))
    clear hw1 hB k0 k2 k3 k4
    go_region_held3 (fun w' => w'.cell? ⟨B, 1, none⟩ = some (.string s.name)) (first | exact HO.out _ (HT2.out.box HBX.out HBN.out) | exact HO.out _ (HT3.out.box HBX.out HBN.out) | go_keep)
      (first
        | (go_at_call 26; refine (xforget (by first | exact HT.out | exact HT.out.drew | exact HT3.out | exact HT3.out.drew) (by omega) s.name hnm).mono ?_; rintro e w2 ⟨rfl, L', M', ht2, hp⟩; have HT2 := Lib.hid ht2; have HP := Lib.hid hp; clear ht2 hp)
        | (go_at_call 51; refine (rforget (L0 := L) (M0 := M) (by first | exact HT.out | exact HT.out.drew | exact HT2.out | exact HT2.out.drew) HL.out HME.out HRI.out (by omega) (by omega) s.name).mono ?_; rintro e w3 ⟨rfl, E', K', ht3, hle, hlek, hlk⟩; have HT3 := Lib.hid ht3; have HLE := Lib.hid hle; have HLEK := Lib.hid hlek; have HLK := Lib.hid hlk; clear ht3 hle hlek hlk))
    all_goals
      clear k1
      go_wp2_with fail
      go_ret
      first
        | exact play_end (by rw [HW1.out]; exact HT3.out) (Nat.le_succ _) (HLK.out _ _ HP.out) HLE.out HLEK.out
        | exact play_end (by rw [HW1.out]; exact HT2.out) (Nat.le_succ _) (HLK.out _ _ HP.out) HLE.out HLEK.out
  · go_enter Try.func21, Try.ntmps21
    go_wp2_with fail
    go_ret
    exact play_end (by rw [HW1.out]; exact HT.out) (Nat.le_succ _) HL.out (Nat.le_succ _) (Nat.le_succ _)
end Go.Proofs.Ytobcpafalfdpkaa
