/- One call on both caches, and a box that lies beside them stays. Conditions: what both hold, and what comes, is in its bounds. -/
import Derived.Test.YtfhdaihladgchaaAN
import Derived.Test.YtfhdaihladgchaaAF
namespace Go.Proofs.Ytfhdaihladgchaa
open Go.RowKit Go.WideMaps Go.Sort
structure BothX (X : Nat × Obj) (W w : World) (S T : Nat → Prop) (B : Nat) (O : Option Obj) (c m : Nat) (L : List Col) (most : Int) (r : Nat) (R : List RC) (rmost : Int) : Prop where
  both : Both W w S T B O c m L most r R rmost
  x : w.heap[X.1]? = some X.2 ∧ ¬ S X.1 ∧ ¬ T X.1
section
variable {X : Nat × Obj} {W w w' : World} {S T : Nat → Prop} {B : Nat} {O : Option Obj} {c m m' : Nat} {L L' : List Col} {most : Int} {r : Nat} {R R' : List RC} {rmost : Int}
theorem BothX.ca (h : BothX X W w S T B O c m L most r R rmost) : CacheAt w S c m L most (total L) := h.both.ca
theorem BothX.re (h : BothX X W w S T B O c m L most r R rmost) : RefAt w T r R rmost := h.both.re
theorem BothX.good (h : BothX X W w S T B O c m L most r R rmost) : Good (R.map pc) := h.both.good
theorem BothX.box (h : BothX X W w S T B O c m L most r R rmost) : ∀ o, O = some o → w.heap[B]? = some o ∧ ¬ S B ∧ ¬ T B := h.both.box
theorem BothX.cache (h : BothX X W w S T B O c m L most r R rmost) (ht : Turns S w w') (hc : CacheAt w' (With S w w') c m' L' most (total L')) : BothX X W w' (With S w w') T B O c m' L' most r R rmost := by
  obtain ⟨h1, h2, h3⟩ := h.x
  have hl := heap_lt h1
  refine ⟨h.both.cache ht hc, (ht.block X.1 hl h2).trans h1, fun hk => ?_, h3⟩
  rcases hk with hk | hk
  · exact h2 hk
  · omega
theorem BothX.ref (h : BothX X W w S T B O c m L most r R rmost) (ht : Turns T w w') (hr : RefAt w' (With T w w') r R' rmost) (hg : Good (R'.map pc)) : BothX X W w' S (With T w w') B O c m L most r R' rmost := by
  obtain ⟨h1, h2, h3⟩ := h.x
  have hl := heap_lt h1
  refine ⟨h.both.ref ht hr hg, (ht.block X.1 hl h3).trans h1, h2, fun hk => ?_⟩
  rcases hk with hk | hk
  · exact h3 hk
  · omega
theorem BothX.later (h : BothX X W w S T B O c m L most r R rmost) (hb : Below w.heap.size w w') : BothX X W w' S T B O c m L most r R rmost :=
  ⟨h.both.later hb, (hb.block X.1 (heap_lt h.x.1)).trans h.x.1, h.x.2⟩
theorem BothX.drew (h : BothX X W w S T B O c m L most r R rmost) : BothX X W w.drew S T B O c m L most r R rmost := h.later ((Below.refl _ _).drew)
theorem BothX.boxed (h : BothX X W w S T B O c m L most r R rmost) (o : Obj) : BothX X W (w.alloc o) S T w.heap.size (some o) c m L most r R rmost :=
  ⟨h.both.boxed o, (h.later ((Below.refl w.heap.size w).alloc (Nat.le_refl _) o)).x⟩
end
def XPlayPost (X : Nat × Obj) (W : World) (c r : Nat) (most rmost : Int) (L : List Col) (R : List RC) (e : Ending) (w' : World) : Prop :=
  ∃ b S T B O m L' R', e = .returned (.bool b) ∧ BothX X W w' S T B O c m L' most r R' rmost ∧ (Like L R → most = rmost → b = true ∧ Like L' R') ∧ total L' ≤ total L + 1 ∧ totP (R'.map pc) ≤ totP (R.map pc) + 1 ∧ ((total L : Int) ≤ most → (total L' : Int) ≤ most)
section
variable {X : Nat × Obj} {W w : World} {S T : Nat → Prop} {B : Nat} {O : Option Obj} {c m : Nat} {L : List Col} {most : Int} {r : Nat} {R : List RC} {rmost : Int}
set_option maxHeartbeats 1000000 in
set_option maxRecDepth 100000 in
theorem xplay1 (h : BothX X W w S T B O c m L most r R rmost) (s f : ByteArray) (p : Pt) (a b : Int) (hs : s.size ≤ maxLen) (hf : f.size ≤ maxLen) (hp : PtOk p) (hL : total L ≤ 1000000000000) (hR : totP (R.map pc) ≤ 1000000000000) :
    Calls Try.prog 14 #[.pointer (some ⟨c, 0, none⟩), .pointer (some ⟨r, 0, none⟩), .agg #[.int .i64 1, .string s, .string f, .int .i64 p.t, .int .i64 p.k, .int .u64 p.b, .string p.s, .int .i64 a, .int .i64 b]] w (XPlayPost X W c r most rmost L R) := by
  have h1 := h.boxed (opO ⟨1, s, f, p, a, b⟩)
  obtain ⟨w1, hw1⟩ : ∃ w1, w.alloc (opO ⟨1, s, f, p, a, b⟩) = w1 := ⟨_, rfl⟩
  obtain ⟨K, hK⟩ : ∃ K, w.heap.size = K := ⟨_, rfl⟩
  rw [hw1, hK] at h1
  have hS : ∀ (w' : World), w'.heap[K]? = some (opO ⟨1, s, f, p, a, b⟩) → w'.cell? ⟨K, 0, none⟩ = some (.int .i64 1) ∧ w'.cell? ⟨K, 1, none⟩ = some (.string s) ∧ w'.cell? ⟨K, 2, none⟩ = some (.string f) ∧ w'.cell? ⟨K, 3, none⟩ = some (.int .i64 p.t) ∧ w'.cell? ⟨K, 4, none⟩ = some (.int .i64 p.k) ∧ w'.cell? ⟨K, 5, none⟩ = some (.int .u64 p.b) ∧ w'.cell? ⟨K, 6, none⟩ = some (.string p.s) := fun w' hw => by
    simp [World.cell?, hw, opO]
  have HS := Lib.hid hS
  obtain ⟨b0, b1, b2, b3, b4, b5, b6⟩ := hS _ (h1.box _ rfl).1
  have HB := Lib.hid h1
  have HP := Lib.hid hp
  have HLN := Lib.hid hL
  have HRN := Lib.hid (show rtot R ≤ 1000000000000 by rw [rtot_pc]; exact hR)
  obtain ⟨e1, he1⟩ : ∃ e, putE (ptsOf (look L s f)) (total L) most p = e := ⟨_, rfl⟩
  obtain ⟨e2, he2⟩ : ∃ e, putE (ptsP (R.map pc) s f) (totP (R.map pc)) rmost p = e := ⟨_, rfl⟩
  have HE1 := Lib.hid he1
  have HE2 := Lib.hid he2
  unfold opO at hw1
  clear hS h1 h hp hL hR he1 he2
  go_enter Try.func14, Try.ntmps14
  go_wp2_with fail
  clear b0 hw1 hK
  go_region_held3 (fun w' => w'.cell? ⟨K, 1, none⟩ = some (.string s) ∧ w'.cell? ⟨K, 2, none⟩ = some (.string f) ∧ w'.cell? ⟨K, 3, none⟩ = some (.int .i64 p.t) ∧ w'.cell? ⟨K, 4, none⟩ = some (.int .i64 p.k) ∧ w'.cell? ⟨K, 5, none⟩ = some (.int .u64 p.b) ∧ w'.cell? ⟨K, 6, none⟩ = some (.string p.s)) (first | exact (HS.out _ (HB2.out.box _ rfl).1).2 | exact (HS.out _ (HB3.out.box _ rfl).1).2 | go_keep)
    (first
      | (go_at_call 10; refine (putC10 _ _ c m L most s f p (by first | exact HB.out.ca | exact HB.out.drew.ca | exact HB3.out.ca | exact HB3.out.drew.ca) hs hf ⟨HP.out.2.2.2.2.1, HP.out.2.2.2.2.2.1⟩ HP.out.2.2.2.2.2.2 HLN.out).mono ?_; rintro e w2 ⟨L', rfl, ht2, hc2, hlk2, htot2⟩; rw [HE1.out]; have HB2 := Lib.hid (BothX.cache (by first | exact HB.out | exact HB.out.drew | exact HB3.out | exact HB3.out.drew) ht2 hc2); have HLK := Lib.hid hlk2; have HTOT := Lib.hid htot2; clear ht2 hc2 hlk2 htot2)
      | (go_at_call 27; refine (refPut _ _ r R rmost s f p (by first | exact HB.out.re | exact HB.out.drew.re | exact HB2.out.re | exact HB2.out.drew.re) HB.out.good ⟨HP.out.2.2.2.2.1, HP.out.2.2.2.2.2.1⟩ HP.out.2.2.2.2.2.2 HRN.out).mono ?_; rintro e w3 ⟨R', rfl, ht3, hr3, hm3⟩; rw [HE2.out]; have HB3 := Lib.hid (BothX.ref (by first | exact HB.out | exact HB.out.drew | exact HB2.out | exact HB2.out.drew) ht3 hr3 (by rw [hm3]; exact newP_good HB.out.good)); have HM3 := Lib.hid hm3; clear ht3 hr3 hm3))
  all_goals
    go_wp2_with fail
    go_ret
    refine ⟨_, _, _, _, _, _, L', R', rfl, (by first | exact HB3.out | exact HB2.out), fun hlk hmm => ⟨?_, ?_⟩, ?_, ?_, fun hb => ?_⟩
    · have h1 := HE1.out
      have h2 := HE2.out
      rw [hlk.1 s f, hlk.2, hmm, h2] at h1
      simp [h1]
    · refine like_put (most := most) hlk HB.out.good HLK.out HTOT.out ?_
      rw [hmm]; exact HM3.out
    · rw [HTOT.out]
      have := putD_le (ptsOf (look L s f)) (total L) most p
      omega
    · rw [HM3.out]; exact newP_tot HB.out.good
    · rw [HTOT.out]; exact putD_bound hb
set_option maxHeartbeats 1000000 in
set_option maxRecDepth 100000 in
theorem xplay2 (h : BothX X W w S T B O c m L most r R rmost) (s f : ByteArray) (p : Pt) (a b : Int) (hs : s.size ≤ maxLen) (hf : f.size ≤ maxLen) (hL : total L ≤ 1000000000000) (hR : totP (R.map pc) ≤ 1000000000000) :
    Calls Try.prog 14 #[.pointer (some ⟨c, 0, none⟩), .pointer (some ⟨r, 0, none⟩), .agg #[.int .i64 2, .string s, .string f, .int .i64 p.t, .int .i64 p.k, .int .u64 p.b, .string p.s, .int .i64 a, .int .i64 b]] w (XPlayPost X W c r most rmost L R) := by
  have h1 := h.boxed (opO ⟨2, s, f, p, a, b⟩)
  obtain ⟨w1, hw1⟩ : ∃ w1, w.alloc (opO ⟨2, s, f, p, a, b⟩) = w1 := ⟨_, rfl⟩
  obtain ⟨K, hK⟩ : ∃ K, w.heap.size = K := ⟨_, rfl⟩
  rw [hw1, hK] at h1
  have hS : ∀ (w' : World), w'.heap[K]? = some (opO ⟨2, s, f, p, a, b⟩) → w'.cell? ⟨K, 0, none⟩ = some (.int .i64 2) ∧ w'.cell? ⟨K, 1, none⟩ = some (.string s) ∧ w'.cell? ⟨K, 2, none⟩ = some (.string f) ∧ w'.cell? ⟨K, 7, none⟩ = some (.int .i64 a) ∧ w'.cell? ⟨K, 8, none⟩ = some (.int .i64 b) := fun w' hw => by
    simp [World.cell?, hw, opO]
  have HS := Lib.hid hS
  obtain ⟨b0, b1, b2, b7, b8⟩ := hS _ (h1.box _ rfl).1
  have HB := Lib.hid h1
  have HLN := Lib.hid hL
  have HRN := Lib.hid (show rtot R ≤ 1000000000000 by rw [rtot_pc]; exact hR)
  have HRL := Lib.hid (Nat.le_trans (both_len h.both) hR)
  obtain ⟨e1, he1⟩ : ∃ e, endI (ptsOf (look L s f)) a b - loI (ptsOf (look L s f)) a = e := ⟨_, rfl⟩
  obtain ⟨e2, he2⟩ : ∃ e, gone s f a b R = e := ⟨_, rfl⟩
  have HE1 := Lib.hid he1
  have HE2 := Lib.hid he2
  unfold opO at hw1
  clear hS h1 h hL hR he1 he2
  go_enter Try.func14, Try.ntmps14
  go_wp2_with fail
  clear b0 hw1 hK
  go_region_held3 (fun w' => w'.cell? ⟨K, 1, none⟩ = some (.string s) ∧ w'.cell? ⟨K, 2, none⟩ = some (.string f) ∧ w'.cell? ⟨K, 7, none⟩ = some (.int .i64 a) ∧ w'.cell? ⟨K, 8, none⟩ = some (.int .i64 b)) (first | exact (HS.out _ (HB2.out.box _ rfl).1).2 | exact (HS.out _ (HB3.out.box _ rfl).1).2 | go_keep)
    (first
      | (go_at_call 21; refine (take _ _ c m L most s f a b (by first | exact HB.out.ca | exact HB.out.drew.ca | exact HB3.out.ca | exact HB3.out.drew.ca) hs hf HLN.out).mono ?_; rintro e w2 ⟨L', rfl, ht2, hc2, hlk2, htot2⟩; rw [HE1.out]; have HB2 := Lib.hid (BothX.cache (by first | exact HB.out | exact HB.out.drew | exact HB3.out | exact HB3.out.drew) ht2 hc2); have HLK := Lib.hid hlk2; have HTOT := Lib.hid htot2; clear ht2 hc2 hlk2 htot2)
      | (go_at_call 28; refine (refDelete _ _ r R rmost s f a b (by first | exact HB.out.re | exact HB.out.drew.re | exact HB2.out.re | exact HB2.out.drew.re) HRL.out HRN.out).mono ?_; rintro e w3 ⟨R', rfl, ht3, hr3, hm3⟩; rw [HE2.out]; have HB3 := Lib.hid (BothX.ref (by first | exact HB.out | exact HB.out.drew | exact HB2.out | exact HB2.out.drew) ht3 hr3 (by rw [hm3, takeP_cut]; exact HB.out.good.cut _ _ _ _)); have HM3 := Lib.hid hm3; clear ht3 hr3 hm3))
  all_goals
    go_wp2_with fail
    go_ret
    refine ⟨_, _, _, _, _, _, L', R', rfl, (by first | exact HB3.out | exact HB2.out), fun hlk hmm => ⟨?_, ?_⟩, ?_, ?_, fun hb => ?_⟩
    · have h1 := HE1.out
      have h2 := HE2.out
      rw [gone_eq HB.out.good, ← hlk.1 s f, h1] at h2
      simp [h2]
    · exact like_take hlk HB.out.good HLK.out HTOT.out HM3.out
    · have := HTOT.out; omega
    · rw [HM3.out, takeP_cut]
      have := gone_tot s f a b R
      omega
    · have := HTOT.out; omega
set_option maxHeartbeats 1000000 in
set_option maxRecDepth 100000 in
theorem xplay3 (h : BothX X W w S T B O c m L most r R rmost) (s f : ByteArray) (p : Pt) (a b : Int) :
    Calls Try.prog 14 #[.pointer (some ⟨c, 0, none⟩), .pointer (some ⟨r, 0, none⟩), .agg #[.int .i64 3, .string s, .string f, .int .i64 p.t, .int .i64 p.k, .int .u64 p.b, .string p.s, .int .i64 a, .int .i64 b]] w (XPlayPost X W c r most rmost L R) := by
  have h1 := h.boxed (opO ⟨3, s, f, p, a, b⟩)
  obtain ⟨w1, hw1⟩ : ∃ w1, w.alloc (opO ⟨3, s, f, p, a, b⟩) = w1 := ⟨_, rfl⟩
  obtain ⟨K, hK⟩ : ∃ K, w.heap.size = K := ⟨_, rfl⟩
  rw [hw1, hK] at h1
  have hbx := (h1.box _ rfl).1
  have b0 : w1.cell? ⟨K, 0, none⟩ = some (.int .i64 3) := by simp [World.cell?, hbx, opO]
  have HB := Lib.hid h1
  unfold opO at hw1
  clear h1 h hbx
  go_enter Try.func14, Try.ntmps14
  go_wp2_with fail
  refine (clearC _ _ c m L most _ HB.out.ca).mono ?_
  rintro e w2 ⟨rfl, ht2, hc2⟩
  have HB2 := Lib.hid (BothX.cache HB.out ht2 (L' := []) hc2)
  clear ht2 hc2 b0 hw1 hK
  go_wp2_with fail
  refine (refClear _ _ r R rmost HB2.out.re).mono ?_
  rintro e w3 ⟨rfl, hr3, ht3⟩
  have HB3 := Lib.hid (BothX.ref HB2.out ht3 (hr3.grow fun _ => .inl) good_nil)
  clear hr3 ht3
  go_wp2_with fail
  go_ret
  refine ⟨true, _, _, _, _, _, [], [], rfl, HB3.out, fun _ _ => ⟨rfl, like_nil⟩, Nat.zero_le _, Nat.zero_le _, fun hb => ?_⟩
  have : total ([] : List Col) = 0 := rfl
  rw [this]
  omega
set_option maxRecDepth 100000 in
theorem xplay0 (h : BothX X W w S T B O c m L most r R rmost) (k : Int) (s f : ByteArray) (p : Pt) (a b : Int) (k1 : (k == 1) = false) (k2 : (k == 2) = false) (k3 : (k == 3) = false) :
    Calls Try.prog 14 #[.pointer (some ⟨c, 0, none⟩), .pointer (some ⟨r, 0, none⟩), .agg #[.int .i64 k, .string s, .string f, .int .i64 p.t, .int .i64 p.k, .int .u64 p.b, .string p.s, .int .i64 a, .int .i64 b]] w (XPlayPost X W c r most rmost L R) := by
  have HB := Lib.hid (h.boxed (opO ⟨k, s, f, p, a, b⟩))
  unfold opO at HB
  clear h
  go_enter Try.func14, Try.ntmps14
  go_wp2_with fail
  go_ret
  exact ⟨true, _, _, _, _, _, L, R, rfl, HB.out, fun hl _ => ⟨rfl, hl⟩, by omega, by omega, fun hb => hb⟩
theorem xplay_any (h : BothX X W w S T B O c m L most r R rmost) (x : OpX) (hx : OpOk x) (hL : total L ≤ 1000000000000) (hR : totP (R.map pc) ≤ 1000000000000) :
    Calls Try.prog 14 #[.pointer (some ⟨c, 0, none⟩), .pointer (some ⟨r, 0, none⟩), .agg #[.int .i64 x.kind, .string x.s, .string x.f, .int .i64 x.p.t, .int .i64 x.p.k, .int .u64 x.p.b, .string x.p.s, .int .i64 x.a, .int .i64 x.b]] w (XPlayPost X W c r most rmost L R) := by
  obtain ⟨kind, s, f, p, a, b⟩ := x
  obtain ⟨hs, hf, hp⟩ := hx
  by_cases h1 : kind = 1
  · subst h1; exact xplay1 h s f p a b hs hf hp hL hR
  by_cases h2 : kind = 2
  · subst h2; exact xplay2 h s f p a b hs hf hL hR
  by_cases h3 : kind = 3
  · subst h3; exact xplay3 h s f p a b
  exact xplay0 h kind s f p a b (beq_eq_false_iff_ne.2 h1) (beq_eq_false_iff_ne.2 h2) (beq_eq_false_iff_ne.2 h3)
end
end Go.Proofs.Ytfhdaihladgchaa
