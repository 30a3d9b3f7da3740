/- Several texts of this proof, laid together. Conditions: as each says. -/
import Derived.Test.YtigicmnngppipaaGreatDoorFAX
/- How many leaves a taken condition has: plain. No condition. -/
namespace Go.Proofs.YtigicmnngppipaaGreatDoor.Tp
open Go.RowKit Lx
set_option maxRecDepth 100000
mutual
/-- Leaves. -/
def Cd.lv : Cd → Nat
  | .mk _ _ _ _ p => max 1 (Cd.lvs p)
def Cd.lvs : List Cd → Nat
  | [] => 0
  | c :: r => c.lv + Cd.lvs r
end
theorem lvs_app : ∀ a b : List Cd, Cd.lvs (a ++ b) = Cd.lvs a + Cd.lvs b
  | [], b => by simp [Cd.lvs]
  | c :: a, b => by simp [Cd.lvs, lvs_app a b, Nat.add_assoc]
theorem lv_parts (c : Cd) : c.lv = max 1 (Cd.lvs c.parts) := by cases c; simp [Cd.lv, Cd.parts]
theorem lv_pos (c : Cd) : 1 ≤ c.lv := by rw [lv_parts]; omega
theorem lvs_len : ∀ l : List Cd, l.length ≤ Cd.lvs l
  | [] => Nat.le_refl _
  | c :: l => by have := lvs_len l; have := lv_pos c; simp [Cd.lvs]; omega
theorem lvs_flat (op : Int) : ∀ l : List Cd, Cd.lvs (flatC op l) ≤ Cd.lvs l
  | [] => Nat.le_refl _
  | c :: l => by
    have := lvs_flat op l
    have e : flatC op (c :: l) = (if c.op = op then c.parts else [c]) ++ flatC op l := by simp [flatC]
    rw [e, lvs_app]
    have h : Cd.lvs (if c.op = op then c.parts else [c]) ≤ c.lv := by
      split
      · rw [lv_parts]; omega
      · simp [Cd.lvs]
    simp only [Cd.lvs]
    omega
theorem flat_len_le (op : Int) (l : List Cd) : (flatC op l).length ≤ Cd.lvs l := Nat.le_trans (lvs_len _) (lvs_flat op l)
theorem lv_join (op : Int) (l : List Cd) : (joinC op l).lv ≤ max 1 (Cd.lvs l) := by
  have h := lvs_flat op l
  have e : joinC op l = cdJ op (flatC op l) := rfl
  rw [e]
  unfold cdJ
  split
  · rename_i c hc
    rw [hc] at h
    simp [Cd.lvs] at h
    omega
  · simp only [Cd.lv]
    omega
/-- What is taken is no more than what was there. -/
def Gr (f : List Tok → Res Cd) : Prop := ∀ ts c q, f ts = .ok (c, q) → c.lv + q.length ≤ ts.length
theorem leaf_lv (op : Int) (a b : ByteArray) (v : Val) : (Cd.mk op a b v []).lv = 1 := by simp [Cd.lv, Cd.lvs]
theorem name_len {ts q : List Tok} {s : ByteArray} (h : nameP ts = .ok (s, q)) : q.length + 1 = ts.length := by
  cases ts with
  | nil => cases h
  | cons t r =>
    rw [nameP_cons] at h
    split at h
    · injection h with h; injection h with _ h; rw [h]; rfl
    · cases h
theorem sign_len {ts q : List Tok} {s : ByteArray} (h : signP ts = .ok (s, q)) : q.length + 1 = ts.length := by
  cases ts with
  | nil => cases h
  | cons t r =>
    rw [signP_cons] at h
    split at h
    · injection h with h; injection h with _ h; rw [h]; rfl
    · cases h
theorem int_len {a b : Int} {ts q : List Tok} {s : Int} (h : intP a b ts = .ok (s, q)) : q.length + 1 = ts.length := by
  cases ts with
  | nil => cases h
  | cons t r =>
    rw [intP_cons] at h
    split at h
    · injection h with h; injection h with _ h; rw [h]; rfl
    · cases h
theorem num_len {V : List UInt8 → Value × Int} {ts q : List Tok} {v : Val} (h : numP V ts = some (v, q)) : q.length + 1 = ts.length := by
  cases ts with
  | nil => cases h
  | cons t r =>
    have h' : (numV V t).map (fun v => (v, r)) = some (v, q) := h
    cases hv : numV V t with
    | none => rw [hv] at h'; cases h'
    | some u => rw [hv] at h'; injection h' with h'; injection h' with _ h'; rw [h']; rfl
theorem right_len {V : List UInt8 → Value × Int} {n s : ByteArray} {ts q : List Tok} {c : Cd} (h : rightP V n s ts = .ok (c, q)) : c.lv = 1 ∧ q.length + 1 = ts.length := by
  cases ts with
  | nil => cases h
  | cons t r =>
    rw [rightP_eq] at h
    split at h
    · injection h with h; injection h with h1 h2; rw [← h1, ← h2]; exact ⟨leaf_lv _ _ _ _, rfl⟩
    · split at h
      · injection h with h; injection h with h1 h2; rw [← h1, ← h2]; exact ⟨leaf_lv _ _ _ _, rfl⟩
      · split at h
        · injection h with h; injection h with h1 h2; rw [← h1, ← h2]; exact ⟨leaf_lv _ _ _ _, rfl⟩
        · split at h
          · rename_i v r2 hv
            injection h with h; injection h with h1 h2; rw [← h1, ← h2]; exact ⟨leaf_lv _ _ _ _, num_len hv⟩
          · cases h
theorem leaf_gr (V : List UInt8 → Value × Int) : Gr (leafP V) := fun ts c q h => by
  unfold leafP at h
  split at h
  · cases h
  · rename_i n r hn
    split at h
    · cases h
    · rename_i s r2 hs
      have h1 := name_len hn
      have h2 := sign_len hs
      have h3 := right_len h
      omega
theorem time_gr : Gr timeP := fun ts c q h => by
  unfold timeP at h
  split at h
  · cases h
  · rename_i n r hn
    split at h
    · cases h
    · rename_i s r2 hs
      injection h with h; injection h with h1 h2
      rw [← h1, ← h2, leaf_lv]
      have h1 := sign_len hn
      have h2 := int_len hs
      omega
theorem takeAll_len {L : List ByteArray} : ∀ {ts q : List Tok}, takeAll L ts = .ok q → q.length + L.length = ts.length := by
  induction L with
  | nil => intro ts q h; injection h with h; rw [h]; rfl
  | cons u us ih =>
    intro ts q h
    cases ts with
    | nil => cases h
    | cons t r =>
      rw [takeAll_cons] at h
      split at h
      · have := ih h; simp; omega
      · cases h
theorem close_gr {ts : List Tok} {R : Res Cd} {c : Cd} {q : List Tok} (hR : ∀ c q, R = .ok (c, q) → c.lv + q.length ≤ ts.length) (h : closeP R = .ok (c, q)) : c.lv + q.length ≤ ts.length := by
  unfold closeP at h
  split at h
  · cases h
  · rename_i c1 q1
    have h1 := hR c1 q1 rfl
    split at h
    · cases h
    · rename_i q2 h2
      have := takeAll_len h2
      injection h with h; injection h with e1 e2
      subst e1 e2
      omega
theorem test_gr (V : List UInt8 → Value × Int) (rc : Option (List Tok → Res Cd)) (hrc : ∀ f, rc = some f → Gr f) : Gr (testP V rc) := fun ts c q h => by
  rw [testP_eq] at h
  split at h
  · cases rc with
    | none => cases h
    | some f =>
      rw [brack_some] at h
      have := close_gr (ts := ts.tail) (fun c q e => hrc f rfl _ c q e) h
      have : ts.tail.length ≤ ts.length := by simp
      omega
  · split at h
    · have := time_gr _ _ _ h
      have : ts.tail.length ≤ ts.length := by simp
      omega
    · exact leaf_gr V _ _ _ h
theorem loop_gr {w : ByteArray} {f : List Tok → Res Cd} (hf : Gr f) : ∀ (n : Nat) (acc : List Cd) (ts : List Tok) (cs : List Cd) (q : List Tok), loopP w f n acc ts = .ok (cs, q) → Cd.lvs acc ≤ Cd.lvs cs ∧ Cd.lvs cs + q.length ≤ Cd.lvs acc + ts.length
  | 0, acc, ts, cs, q, h => by
    injection h with h; injection h with h1 h2; rw [h1, h2]
    exact ⟨Nat.le_refl _, Nat.le_refl _⟩
  | n + 1, acc, [], cs, q, h => by
    injection h with h; injection h with h1 h2; rw [h1, ← h2]
    exact ⟨Nat.le_refl _, Nat.le_refl _⟩
  | n + 1, acc, t :: r, cs, q, h => by
    unfold loopP at h
    split at h
    · split at h
      · cases h
      · rename_i c q1 hc
        have h1 := hf _ _ _ hc
        have h2 := loop_gr hf n _ _ _ _ h
        rw [lvs_app] at h2
        simp [Cd.lvs] at h2 ⊢
        omega
    · injection h with h; injection h with h1 h2; rw [h1, ← h2]
      exact ⟨Nat.le_refl _, Nat.le_refl _⟩
theorem lvs_one (c : Cd) : Cd.lvs [c] = c.lv := by simp [Cd.lvs]
theorem parts_gr (w : ByteArray) (op : Int) {f : List Tok → Res Cd} (hf : Gr f) : Gr (partsP w op f) := fun ts c q h => by
  unfold partsP at h
  split at h
  · cases h
  · rename_i c1 r h1
    split at h
    · cases h
    · rename_i cs q1 h2
      injection h with h; injection h with e1 e2
      subst e1 e2
      have k1 := hf _ _ _ h1
      have k2 := loop_gr hf _ _ _ _ _ h2
      have k3 := lv_join op cs
      rw [lvs_one] at k2
      have := lv_pos c1
      omega
theorem orP_gr (V : List UInt8 → Value × Int) : ∀ d, Gr (orP V d)
  | 0 => parts_gr _ _ (parts_gr _ _ (test_gr V _ fun f e => by cases e))
  | d + 1 => parts_gr _ _ (parts_gr _ _ (test_gr V _ fun f e => by injection e with e; rw [← e]; exact orP_gr V d))
theorem loop_stop {w : ByteArray} {f : List Tok → Res Cd} {m : Nat} {acc : List Cd} {q : List Tok} (h : tokIs w (hdT q) = false) : loopP w f m acc q = .ok (acc, q) := by
  cases m with
  | zero => rfl
  | succ m =>
    cases q with
    | nil => rfl
    | cons t r =>
      have : tokIs w t = false := h
      unfold loopP
      rw [this]
      rfl
theorem loop_bad {w : ByteArray} {f : List Tok → Res Cd} {m : Nat} {acc : List Cd} {t : Tok} {r q : List Tok} (h : tokIs w t = true) (hf : f r = .error q) : loopP w f (m + 1) acc (t :: r) = .error q := by
  unfold loopP
  rw [if_pos h, hf]
theorem loop_go {w : ByteArray} {f : List Tok → Res Cd} {m : Nat} {acc : List Cd} {t : Tok} {r q : List Tok} {c : Cd} (h : tokIs w t = true) (hf : f r = .ok (c, q)) : loopP w f (m + 1) acc (t :: r) = loopP w f m (acc ++ [c]) q := by
  conv => lhs; unfold loopP
  rw [if_pos h, hf]
theorem parts_err {w : ByteArray} {op : Int} {f : List Tok → Res Cd} {ts q : List Tok} (h : f ts = .error q) : partsP w op f ts = .error q := by unfold partsP; rw [h]
theorem parts_eq {w : ByteArray} {op : Int} {f : List Tok → Res Cd} {ts r : List Tok} {c : Cd} (h : f ts = .ok (c, r)) : (∀ q, loopP w f r.length [c] r = .error q → partsP w op f ts = .error q) ∧ (∀ cs q, loopP w f r.length [c] r = .ok (cs, q) → partsP w op f ts = .ok (joinC op cs, q)) := by
  constructor
  · intro q hq; unfold partsP; rw [h]; simp only [hq]
  · intro cs q hq; unfold partsP; rw [h]; simp only [hq]
end Go.Proofs.YtigicmnngppipaaGreatDoor.Tp
/- Conditions are taken: and, or. Conditions: what ParseInt and the reader of values answer. -/
namespace Go.Proofs.YtigicmnngppipaaGreatDoor.Tp
open Go.RowKit Lx
set_option maxRecDepth 100000
def lenAt (P : Nat) (w : World) : Nat := match w.cell? ⟨P, 0, none⟩ with
  | some (.slice _ n _) => n
  | _ => 0
theorem len_at {w : World} {P n o : Nat} {ts : List Tok} (h : PAt w P ts n o) : lenAt P w = ts.length := by
  obtain ⟨a, c, h1, _⟩ := h.row
  have h0 : w.cell? ⟨P, 0, none⟩ = some (.slice a ts.length c) := Lib.cell_of_heap h1 0
  unfold lenAt
  rw [h0]
theorem CdRow.one {w : World} {B : Nat} {D D' : Nat → Prop} {c : Cd} {sl : Value} (hB : B ≤ w.heap.size) (h : CdsIs w D' sl c.parts) (hD : ∀ k, D' k → k < w.heap.size → D k) : CdRow (w.alloc (.cells (cdCells c sl).toArray 51 (0, 0))) B D (.slice (some ⟨w.heap.size, 0, none⟩) 1 1) [c] [(c, sl)] := by
  refine ⟨rfl, fun e => (by cases e), ?_, fun z hz => ?_⟩
  · have := World.ownsRow_lit (base := B) (e := 51) (size := 7) w (cdCells c sl).toArray 1 hB (by unfold maxLen; decide) rfl
    have e : flatCells [(c, sl)] = (cdCells c sl).toArray.toList := by simp [flatCells]
    rw [e]
    exact this
  · rw [List.mem_singleton] at hz
    subst hz
    exact h.keep fun k h1 h2 => ⟨Below.heap_alloc w _ k h2, hD k h1 h2, fun e => absurd (show w.heap.size = k by simpa [Value.ownBlock] using e) (by omega)⟩
/-- In the loop of parts. -/
structure InP (wd : ByteArray) (f : List Tok → Res Cd) (P n o : Nat) (w : World) (c0 : Cd) (r0 : List Tok) (wr : World) (v : Value) (cs : List Cd) (q : List Tok) (zs : List (Cd × Value)) : Prop where
  kp : Kp (· = P) w wr
  pat : PAt wr P q n o
  row : CdRow wr (w.heap.size + 1) (fun k => w.heap.size + 1 ≤ k) v cs zs
  res : wr.heap[w.heap.size]? = some (.cells #[.int .i64 0, .string ⟨#[]⟩, .string ⟨#[]⟩, .int .i64 0, .int .u64 0, .string ⟨#[]⟩, .slice none 0 0] 51 (0, 0))
  lve : Cd.lvs cs + q.length ≤ 70000
  fuel : ∃ m, q.length ≤ m ∧ loopP wd f r0.length [c0] r0 = loopP wd f m cs q
  ne : 0 < cs.length
theorem InP.start (wd : ByteArray) (f : List Tok → Res Cd) {P n o : Nat} {w w1 w0 : World} (ts : List Tok) {c0 : Cd} {r0 : List Tok} {sl : Value} (hf : f ts = .ok (c0, r0)) (hg : Gr f) (hL : ts.length ≤ 70000) (hk : Kp (· = P) w w1) (hp : PAt w1 P r0 n o) (hs : CdsIs w1 (fun k => w0.heap.size ≤ k) sl c0.parts) (hr : w1.heap[w.heap.size]? = some (.cells #[.int .i64 0, .string ⟨#[]⟩, .string ⟨#[]⟩, .int .i64 0, .int .u64 0, .string ⟨#[]⟩, .slice none 0 0] 51 (0, 0))) (h0 : w.heap.size + 1 ≤ w0.heap.size) :
    InP wd f P n o w c0 r0 (w1.alloc (.cells (cdCells c0 sl).toArray 51 (0, 0))) (.slice (some ⟨w1.heap.size, 0, none⟩) 1 1) [c0] r0 [(c0, sl)] :=
  ⟨hk.alloc _, hp.later ((Below.refl _ _).alloc (Nat.le_refl _) _), CdRow.one (lt_of_block hr) hs (fun k h _ => by omega), (Below.heap_alloc w1 _ _ (lt_of_block hr)).trans hr, by have := hg _ _ _ hf; rw [lvs_one]; omega, ⟨_, Nat.le_refl _, rfl⟩, Nat.zero_lt_one⟩
theorem InP.keep {wd : ByteArray} {f : List Tok → Res Cd} {P n o : Nat} {w wr w3 : World} {c0 : Cd} {r0 cs' : List Tok} {v : Value} {cs : List Cd} {zs : List (Cd × Value)} (h : InP wd f P n o w c0 r0 wr v cs cs' zs) (hk : Kp (· = P) wr w3) (hP : P < w.heap.size) (hp : PAt w3 P cs' n o) : InP wd f P n o w c0 r0 w3 v cs cs' zs :=
  ⟨h.kp.then hk, hp, h.row.keep fun k h1 h2 => hk.block k h2 (by show ¬ k = P; rcases h1 with h1 | h1 <;> omega), (hk.block _ (lt_of_block h.res) (by show ¬ w.heap.size = P; omega)).trans h.res, h.lve, h.fuel, h.ne⟩
theorem InP.row5 {wd : ByteArray} {f : List Tok → Res Cd} {P n o : Nat} {w wr w5 : World} {c0 : Cd} {r0 q : List Tok} {v : Value} {cs : List Cd} {zs : List (Cd × Value)} (h : InP wd f P n o w c0 r0 wr v cs q zs) (hk : Kp (· = P) wr w5) (hP : P < w.heap.size) (ob : Obj) : (w5.alloc ob).ownsRow (w.heap.size + 1) 51 7 v cs.length (flatCells zs) :=
  ((h.row.keep fun k h1 h2 => hk.block k h2 (by show ¬ k = P; rcases h1 with h1 | h1 <;> omega)).own).alloc ob
theorem InP.next {wd : ByteArray} {f : List Tok → Res Cd} {P n o : Nat} {w wr w3 w5 w' : World} {c0 c : Cd} {r0 r q2 : List Tok} {t0 : Tok} {v sl : Value} {cs : List Cd} {zs : List (Cd × Value)} {g cap : Nat} (h : InP wd f P n o w c0 r0 wr v cs (t0 :: r) zs) (hg : Gr f) (ht : tokIs wd t0 = true) (hf : f r = .ok (c, q2))
    (hk3 : Kp (· = P) wr w3) (hk5 : Kp (· = P) w3 w5) (hP : P < w.heap.size) (hp5 : PAt w5 P q2 n o) (hs : CdsIs w5 (fun k => w3.heap.size ≤ k) sl c.parts)
    (hown : w'.ownsRow (w.heap.size + 1) 51 7 (.slice (some ⟨g, 0, none⟩) (cs.length + 1) cap) (cs.length + 1) (flatCells zs ++ cdCells c sl)) (hgr : (w5.alloc (.cells (cdCells c sl).toArray 51 (0, 0))).grownBy w' v.ownBlock) (hat : v.ownBlock = some g ∨ g = w5.heap.size + 1) :
    InP wd f P n o w c0 r0 w' (.slice (some ⟨g, 0, none⟩) (cs.length + 1) cap) (cs ++ [c]) q2 (zs ++ [(c, sl)]) := by
  have hsz3 : w.heap.size < w3.heap.size := Nat.lt_of_lt_of_le (lt_of_block h.res) hk3.size
  have hkk := hk3.then hk5
  have hrow5 := (h.row.keep (w' := w5) fun k h1 h2 => hkk.block k h2 (by show ¬ k = P; rcases h1 with h1 | h1 <;> omega))
  have hrowa := hrow5.later ((Below.refl _ _).alloc (Nat.le_refl w5.heap.size) (.cells (cdCells c sl).toArray 51 (0, 0)))
  have hbl : ∀ j, v.ownBlock = some j → w.heap.size + 1 ≤ j ∧ j < wr.heap.size := h.row.own.lt
  have hres5 : w5.heap[w.heap.size]? = _ := (hkk.block _ (lt_of_block h.res) (by show ¬ w.heap.size = P; omega)).trans h.res
  have hb := h.lve
  have hgq := hg _ _ _ hf
  have hr := hrowa.append (w' := w') (g := g) (cap := cap) (m := 1) (cs' := [c]) (zs' := [(c, sl)]) rfl (Nat.zero_lt_one) rfl (fun z hz => by
    rw [List.mem_singleton] at hz
    subst hz
    exact hs.keep fun k h1 h2 => ⟨Below.heap_alloc w5 _ k h2, by show w.heap.size + 1 ≤ k; omega, fun e => by have := (hbl k e).2; have := hk3.size; omega⟩) (by
    have e : flatCells [(c, sl)] = cdCells c sl := by simp [flatCells]
    rw [e]; exact hown) hgr (hat.imp id fun e => by simpa using e)
  rw [List.length_append] at hr
  refine ⟨?_, ?_, hr, ?_, ?_, ?_, by simp⟩
  · exact ((h.kp.then hkk).alloc _).grown hgr fun k e => .inr (by have := (hbl k e).1; omega)
  · refine (hp5.later ((Below.refl _ _).alloc (Nat.le_refl w5.heap.size) (.cells (cdCells c sl).toArray 51 (0, 0)))).keep (S := fun k => v.ownBlock = some k) ((Kp.refl _ _).grown hgr fun k e => .inl e) (fun k hk e => by have := (hbl k e).1; omega)
  · refine (hgr.block _ (by have := lt_of_block hres5; simp; omega) (fun e => by have := (hbl _ e.symm).1; omega)).trans ?_
    exact (Below.heap_alloc w5 _ _ (lt_of_block hres5)).trans hres5
  · rw [lvs_app, lvs_one]
    simp at hb
    omega
  · obtain ⟨m, hm, e⟩ := h.fuel
    obtain ⟨m, rfl⟩ : ∃ m', m = m' + 1 := ⟨m - 1, by simp at hm; omega⟩
    have := lv_pos c
    simp at hm
    exact ⟨m, by omega, e.trans (loop_go ht hf)⟩
set_option maxHeartbeats 8000000 in
theorem parts_114 (P n o : Nat) (f : List Tok → Res Cd) {V : List UInt8 → Value × Int} (W : World) (hR : Rd V W) (hWP : W.heap.size ≤ P) (hg : Gr f)
    (hf : ∀ ts w, ts.length ≤ 70000 → Below W.heap.size W w → PAt w P ts n o → Calls Tryz.prog 135 #[.pointer (some ⟨P, 0, none⟩)] w (CdOut P n o w (f ts)))
    (ts : List Tok) (w : World) (hL : ts.length ≤ 70000) (hW : Below W.heap.size W w) (hP : PAt w P ts n o) :
    Calls Tryz.prog 114 #[.pointer (some ⟨P, 0, none⟩)] w (CdOut P n o w (partsP wAND 1 f ts)) := by
  obtain ⟨i0, hi, hz0, hz1, hz2⟩ := info_parts info51
  have HI := Lib.hid hi
  have HZ0 := Lib.hid hz0
  have HZ1 := Lib.hid hz1
  have HZ2 := Lib.hid hz2
  obtain ⟨PP, hPP⟩ : ∃ PP, CdOut P n o w (partsP wAND 1 f ts) = PP := ⟨_, rfl⟩
  rw [hPP]
  have HPP := Lib.hid hPP
  have HR := Lib.hid hR
  have HW := Lib.hid hW
  have HP := Lib.hid hP
  have HL := Lib.hid hL
  have HWP := Lib.hid hWP
  have HG := Lib.hid hg
  have HF := Lib.hid hf
  have HPB := Lib.hid hP.lt
  clear hi hz0 hz1 hz2 hPP hR hW hP hL hWP hg hf
  have HR0 := Lib.hid (newest w (.cells #[.int .i64 0, .string ⟨#[]⟩, .string ⟨#[]⟩, .int .i64 0, .int .u64 0, .string ⟨#[]⟩, .slice none 0 0] 51 (0, 0)))
  have HB0 : Hid (Below w.heap.size w (w.alloc (.cells #[.int .i64 0, .string ⟨#[]⟩, .string ⟨#[]⟩, .int .i64 0, .int .u64 0, .string ⟨#[]⟩, .slice none 0 0] 51 (0, 0)))) := Lib.hid ((Below.refl _ _).alloc (Nat.le_refl _) _)
  have M0 := Lib.hid (HF.out ts _ HL.out (HW.out.trans (HB0.out.mono HW.out.size)) (HP.out.later HB0.out))
  go_enter Tryz.func114, Tryz.ntmps114
  go_wp2_with fail
  refine M0.out.mono ?_
  clear M0
  rintro e w1 ⟨hk1, hm1⟩
  have HR1 := Lib.hid ((hk1.block w.heap.size (lt_of_block HR0.out) (by show ¬ w.heap.size = P; have := HPB.out; omega)).trans HR0.out)
  have HK1 := Lib.hid ((Kp.of HB0.out).then hk1)
  have HS1 := Lib.hid (lt_of_block HR1.out)
  clear hk1
  cases hft : f ts with
  | error q =>
    rw [hft] at hm1
    obtain rfl := hm1
    unfold stuckE
    simp (config := { zetaDelta := true }) only
    refine ⟨rfl, ?_⟩
    rw [← HPP.out, parts_err hft]
    exact ⟨HK1.out, rfl⟩
  | ok cr =>
    obtain ⟨c0, r0⟩ := cr
    rw [hft] at hm1
    obtain ⟨cv, rfl, ⟨sl, rfl, hsl⟩, hp1⟩ := hm1
    obtain ⟨sa, sc, rfl⟩ := cds_slice hsl
    have hst := InP.start wAND f ts hft HG.out HL.out HK1.out hp1 hsl HR1.out (by simp)
    obtain ⟨cop, cn, csg, ⟨ck, cb, ct⟩, cp⟩ := c0
    unfold cdV
    simp only [Cd.op, Cd.name, Cd.sign, Cd.val, Cd.parts] at hst ⊢
    have HST := Lib.hid hst
    have HFT := Lib.hid hft
    clear hsl hp1 hst hft
    obtain ⟨c0, hc0⟩ : ∃ c0, Cd.mk cop cn csg (ck, cb, ct) cp = c0 := ⟨_, rfl⟩
    rw [hc0] at HST HFT
    have HPE := Lib.hid (parts_eq (w := wAND) (op := 1) HFT.out)
    have HC0 := Lib.hid hc0
    clear hc0
    go_wp2_with fail
    go_loopw [3] (fun v wr => ∃ cs q zs, InP wAND f P n o w c0 r0 wr v cs q zs) (fun _ wr => lenAt P wr)
    case atStart =>
      obtain rfl := HC0.out
      exact ⟨_, _, _, HST.out⟩
    case round =>
      obtain ⟨cs, q, zs, hin⟩ := hrel
      obtain ⟨a0, cap0, hlv⟩ := cds_slice (hin.row.done (fun _ => True) fun _ _ _ => trivial)
      obtain rfl := hlv
      have HIN := Lib.hid hin
      clear hin
      have HLA := Lib.hid (len_at HIN.out.pat)
      have HM := Lib.hid (has_42 P n o ⟨#[65, 78, 68]⟩ wAND [] words1.2.2.2.2.1 q W wr HR.out.env (HW.out.trans (HIN.out.kp.below HW.out.size (fun k e => by show W.heap.size ≤ k; rw [e]; exact HWP.out))) HIN.out.pat)
      go_wp2_with fail
      refine HM.out.mono ?_
      clear HM
      rintro e w3 ⟨hk3, hm3⟩
      have HK3 := Lib.hid hk3
      clear hk3
      rcases has_one wAND q with ⟨e1, e2⟩ | ⟨t0, r, e0, e1, e2⟩
      · rw [e1] at hm3
        obtain ⟨rfl, hp3⟩ := hm3
        have hin3 := HIN.out.keep HK3.out HPB.out hp3
        obtain ⟨m, hm, hlp⟩ := hin3.fuel
        have HJ := Lib.hid (HPE.out.2 _ _ (hlp.trans (loop_stop e2)))
        have hlv := lvs_len cs
        have hle := hin3.lve
        have hfl := flat_len_le 1 cs
        have HJN := Lib.hid (join_115 1 (.slice a0 cs.length cap0) cs (fun k => w.heap.size + 1 ≤ k) w3 (hin3.row.done _ fun k h _ => h.elim id id) hin3.ne (by omega) (by omega))
        have HR3 := Lib.hid hin3.res
        have HKK := Lib.hid hin3.kp
        have HQ3 := Lib.hid hp3
        clear e1 e2 hp3 hin3 hlp hlv hle hfl hm
        go_wp2_with fail
        refine HJN.out.mono ?_
        clear HJN
        rintro e w4 ⟨cv, rfl, hb4, sl, rfl, hsl⟩
        obtain ⟨sa, sc, rfl⟩ := cds_slice hsl
        have HR4 := Lib.hid ((hb4.block w.heap.size (lt_of_block HR3.out)).trans HR3.out)
        have HK4 := Lib.hid (HKK.out.then (Kp.of hb4))
        have HQ4 := Lib.hid (HQ3.out.later hb4)
        have HSZ := Lib.hid (lt_of_block HR3.out)
        obtain ⟨jc, hjc⟩ : ∃ jc, joinC 1 cs = jc := ⟨_, rfl⟩
        rw [hjc] at hsl HJ ⊢
        obtain ⟨cop, cn, csg, ⟨ck, cb, ct⟩, cp⟩ := jc
        unfold cdV
        simp only [Cd.op, Cd.name, Cd.sign, Cd.val, Cd.parts] at hsl ⊢
        have HSL := Lib.hid hsl
        clear hb4 hsl hjc
        have q0 : w4.cell? ⟨w.heap.size, 0, none⟩ = some (.int .i64 0) := Lib.cell_of_heap HR4.out 0
        have f0 : w4.frozen? ⟨w.heap.size, 0, none⟩ = false := Lib.frozen_of_heap HR4.out 0
        have q1 : w4.cell? ⟨w.heap.size, 1, none⟩ = some (.string ⟨#[]⟩) := Lib.cell_of_heap HR4.out 1
        have f1 : w4.frozen? ⟨w.heap.size, 1, none⟩ = false := Lib.frozen_of_heap HR4.out 1
        have q2 : w4.cell? ⟨w.heap.size, 2, none⟩ = some (.string ⟨#[]⟩) := Lib.cell_of_heap HR4.out 2
        have f2 : w4.frozen? ⟨w.heap.size, 2, none⟩ = false := Lib.frozen_of_heap HR4.out 2
        have q3 : w4.cell? ⟨w.heap.size, 3, none⟩ = some (.int .i64 0) := Lib.cell_of_heap HR4.out 3
        have f3 : w4.frozen? ⟨w.heap.size, 3, none⟩ = false := Lib.frozen_of_heap HR4.out 3
        have q4 : w4.cell? ⟨w.heap.size, 4, none⟩ = some (.int .u64 0) := Lib.cell_of_heap HR4.out 4
        have f4 : w4.frozen? ⟨w.heap.size, 4, none⟩ = false := Lib.frozen_of_heap HR4.out 4
        have q5 : w4.cell? ⟨w.heap.size, 5, none⟩ = some (.string ⟨#[]⟩) := Lib.cell_of_heap HR4.out 5
        have f5 : w4.frozen? ⟨w.heap.size, 5, none⟩ = false := Lib.frozen_of_heap HR4.out 5
        have q6 : w4.cell? ⟨w.heap.size, 6, none⟩ = some (.slice none 0 0) := Lib.cell_of_heap HR4.out 6
        have f6 : w4.frozen? ⟨w.heap.size, 6, none⟩ = false := Lib.frozen_of_heap HR4.out 6
        go_wp2_with fail
        refine bodyPost_ret (results_cell_row rfl _ _ w.heap.size 51 _ (0, 0) _ rfl (put7_heap HR4.out _ _ _ _ _ _ _) Tryz.underlying51 (by kernel_rfl) info51s) rfl ?_
        rw [← HPP.out, HJ.out]
        exact ⟨put7_kp HK4.out (Nat.le_refl _) _ _ _ _ _ _ _, _, rfl, ⟨_, rfl, HSL.out.keep fun k h1 h2 => ⟨put7_far (by have := HSZ.out; rcases h1 with h1 | h1 <;> omega) _ _ _ _ _ _ _, by have := HSZ.out; rcases h1 with h1 | h1 <;> omega⟩⟩, put7_pat HQ4.out HPB.out _ _ _ _ _ _ _⟩
      · rw [e1] at hm3
        obtain ⟨rfl, hp3⟩ := hm3
        subst e0
        have hlr : r.length ≤ 70000 := by have := HIN.out.lve; simp at this; omega
        have HK33 := Lib.hid (HIN.out.kp.then HK3.out)
        have HM5 := Lib.hid (HF.out r w3 hlr (HW.out.trans (HK33.out.below HW.out.size (fun k e => by show W.heap.size ≤ k; rw [e]; exact HWP.out))) hp3)
        have HTI := Lib.hid e2
        have HSR := Lib.hid (Nat.lt_of_lt_of_le (lt_of_block HIN.out.res) HK3.out.size)
        clear e1 e2 hp3 hlr
        go_wp2_with fail
        refine HM5.out.mono ?_
        clear HM5
        rintro e w5 ⟨hk5, hm5⟩
        have HK5 := Lib.hid (HK3.out.then hk5)
        have HK55 := Lib.hid hk5
        clear hk5
        cases hfr : f r with
        | error q2 =>
          rw [hfr] at hm5
          obtain rfl := hm5
          obtain ⟨m, hm, hlp⟩ := HIN.out.fuel
          obtain ⟨m, rfl⟩ : ∃ m', m = m' + 1 := ⟨m - 1, by simp at hm; omega⟩
          unfold stuckE
          simp (config := { zetaDelta := true }) only
          refine ⟨rfl, ?_⟩
          rw [← HPP.out, HPE.out.1 _ (hlp.trans (loop_bad HTI.out hfr))]
          exact ⟨HIN.out.kp.then HK5.out, rfl⟩
        | ok cr =>
          obtain ⟨c, q2⟩ := cr
          rw [hfr] at hm5
          obtain ⟨cv, rfl, ⟨sl, rfl, hsl⟩, hp5⟩ := hm5
          obtain ⟨sa, sc, rfl⟩ := cds_slice hsl
          have HQ5 := Lib.hid hp5
          have HNX := Lib.hid (fun g cap w' h1 h2 h3 => HIN.out.next (w5 := w5) (w' := w') (g := g) (cap := cap) HG.out HTI.out hfr HK3.out HK55.out HPB.out hp5 hsl h1 h2 h3)
          obtain ⟨cop, cn, csg, ⟨ck, cb, ct⟩, cp⟩ := c
          unfold cdV
          simp only [Cd.op, Cd.name, Cd.sign, Cd.val, Cd.parts] at hsl ⊢
          have hrow := HIN.out.row5 HK5.out HPB.out
          have hlv := lvs_len cs
          have hle := HIN.out.lve
          have hm1 : cs.length + 1 ≤ maxLen := by unfold maxLen; omega
          have hm2 : (cs.length + 1) * 96 ≤ 140737488355328 := by omega
          have hsz5 : w.heap.size + 1 ≤ w5.heap.size := by have := HSR.out; have := HK55.out.size; omega
          have HQL : Hid (q2.length < (t0 :: r).length) := Lib.hid (by have := HG.out _ _ _ hfr; have := lv_pos (.mk cop cn csg (ck, cb, ct) cp); simp; omega)
          clear hp5 hsl hfr hlv hle
          go_wp2_with ((at_builtin; go_must (refine wpList_append_lies _ rfl (.tmp 9) (.tmp 12) 24 rfl (w.heap.size + 1) 51 i0 _ 7 96 Tryz.underlying24 HI.out HZ0.out HZ1.out HZ2.out rfl (by omega) _ cs.length _ rfl (hrow _) ⟨w5.heap.size, 0, none⟩ 1 1 [.int .i64 cop, .string cn, .string csg, .int .i64 ck, .int .u64 cb, .string ct, .slice sa cp.length sc] rfl rfl (World.news_of_block (cs := #[.int .i64 cop, .string cn, .string csg, .int .i64 ck, .int .u64 cb, .string ct, .slice sa cp.length sc]) (t := 51) (fr := (0, 0)) (heap_alloc_new _ _)) (by simp [Value.oneCell']) (Nat.zero_lt_one) hm1 hm2 (by simp; omega) (w5.heap.size + 1) (by simp) ?_); intro g3 cap3 w6 hown3 hgrow3 hat3 hlt3; have HOW3 := Lib.hid hown3; have HGR3 := Lib.hid hgrow3; have HAT3 := Lib.hid hat3; clear hown3 hgrow3 hat3 hlt3))
          have hnx := HNX.out g3 cap3 w6 HOW3.out HGR3.out HAT3.out
          refine ⟨⟨_, _, _, hnx⟩, ?_⟩
          have h1 := len_at hnx.pat
          have h2 := HLA.out
          have h3 := HQL.out
          rw [h1, h2]
          exact h3
set_option maxHeartbeats 8000000 in
theorem parts_75 (P n o : Nat) (f : List Tok → Res Cd) {V : List UInt8 → Value × Int} (W : World) (hR : Rd V W) (hWP : W.heap.size ≤ P) (hg : Gr f)
    (hf : ∀ ts w, ts.length ≤ 70000 → Below W.heap.size W w → PAt w P ts n o → Calls Tryz.prog 114 #[.pointer (some ⟨P, 0, none⟩)] w (CdOut P n o w (f ts)))
    (ts : List Tok) (w : World) (hL : ts.length ≤ 70000) (hW : Below W.heap.size W w) (hP : PAt w P ts n o) :
    Calls Tryz.prog 75 #[.pointer (some ⟨P, 0, none⟩)] w (CdOut P n o w (partsP wOR 2 f ts)) := by
  obtain ⟨i0, hi, hz0, hz1, hz2⟩ := info_parts info51
  have HI := Lib.hid hi
  have HZ0 := Lib.hid hz0
  have HZ1 := Lib.hid hz1
  have HZ2 := Lib.hid hz2
  obtain ⟨PP, hPP⟩ : ∃ PP, CdOut P n o w (partsP wOR 2 f ts) = PP := ⟨_, rfl⟩
  rw [hPP]
  have HPP := Lib.hid hPP
  have HR := Lib.hid hR
  have HW := Lib.hid hW
  have HP := Lib.hid hP
  have HL := Lib.hid hL
  have HWP := Lib.hid hWP
  have HG := Lib.hid hg
  have HF := Lib.hid hf
  have HPB := Lib.hid hP.lt
  clear hi hz0 hz1 hz2 hPP hR hW hP hL hWP hg hf
  have HR0 := Lib.hid (newest w (.cells #[.int .i64 0, .string ⟨#[]⟩, .string ⟨#[]⟩, .int .i64 0, .int .u64 0, .string ⟨#[]⟩, .slice none 0 0] 51 (0, 0)))
  have HB0 : Hid (Below w.heap.size w (w.alloc (.cells #[.int .i64 0, .string ⟨#[]⟩, .string ⟨#[]⟩, .int .i64 0, .int .u64 0, .string ⟨#[]⟩, .slice none 0 0] 51 (0, 0)))) := Lib.hid ((Below.refl _ _).alloc (Nat.le_refl _) _)
  have M0 := Lib.hid (HF.out ts _ HL.out (HW.out.trans (HB0.out.mono HW.out.size)) (HP.out.later HB0.out))
  go_enter Tryz.func75, Tryz.ntmps75
  go_wp2_with fail
  refine M0.out.mono ?_
  clear M0
  rintro e w1 ⟨hk1, hm1⟩
  have HR1 := Lib.hid ((hk1.block w.heap.size (lt_of_block HR0.out) (by show ¬ w.heap.size = P; have := HPB.out; omega)).trans HR0.out)
  have HK1 := Lib.hid ((Kp.of HB0.out).then hk1)
  have HS1 := Lib.hid (lt_of_block HR1.out)
  clear hk1
  cases hft : f ts with
  | error q =>
    rw [hft] at hm1
    obtain rfl := hm1
    unfold stuckE
    simp (config := { zetaDelta := true }) only
    refine ⟨rfl, ?_⟩
    rw [← HPP.out, parts_err hft]
    exact ⟨HK1.out, rfl⟩
  | ok cr =>
    obtain ⟨c0, r0⟩ := cr
    rw [hft] at hm1
    obtain ⟨cv, rfl, ⟨sl, rfl, hsl⟩, hp1⟩ := hm1
    obtain ⟨sa, sc, rfl⟩ := cds_slice hsl
    have hst := InP.start wOR f ts hft HG.out HL.out HK1.out hp1 hsl HR1.out (by simp)
    obtain ⟨cop, cn, csg, ⟨ck, cb, ct⟩, cp⟩ := c0
    unfold cdV
    simp only [Cd.op, Cd.name, Cd.sign, Cd.val, Cd.parts] at hst ⊢
    have HST := Lib.hid hst
    have HFT := Lib.hid hft
    clear hsl hp1 hst hft
    obtain ⟨c0, hc0⟩ : ∃ c0, Cd.mk cop cn csg (ck, cb, ct) cp = c0 := ⟨_, rfl⟩
    rw [hc0] at HST HFT
    have HPE := Lib.hid (parts_eq (w := wOR) (op := 2) HFT.out)
    have HC0 := Lib.hid hc0
    clear hc0
    go_wp2_with fail
    go_loopw [3] (fun v wr => ∃ cs q zs, InP wOR f P n o w c0 r0 wr v cs q zs) (fun _ wr => lenAt P wr)
    case atStart =>
      obtain rfl := HC0.out
      exact ⟨_, _, _, HST.out⟩
    case round =>
      obtain ⟨cs, q, zs, hin⟩ := hrel
      obtain ⟨a0, cap0, hlv⟩ := cds_slice (hin.row.done (fun _ => True) fun _ _ _ => trivial)
      obtain rfl := hlv
      have HIN := Lib.hid hin
      clear hin
      have HLA := Lib.hid (len_at HIN.out.pat)
      have HM := Lib.hid (has_42 P n o ⟨#[79, 82]⟩ wOR [] words1.2.2.2.2.2.1 q W wr HR.out.env (HW.out.trans (HIN.out.kp.below HW.out.size (fun k e => by show W.heap.size ≤ k; rw [e]; exact HWP.out))) HIN.out.pat)
      go_wp2_with fail
      refine HM.out.mono ?_
      clear HM
      rintro e w3 ⟨hk3, hm3⟩
      have HK3 := Lib.hid hk3
      clear hk3
      rcases has_one wOR q with ⟨e1, e2⟩ | ⟨t0, r, e0, e1, e2⟩
      · rw [e1] at hm3
        obtain ⟨rfl, hp3⟩ := hm3
        have hin3 := HIN.out.keep HK3.out HPB.out hp3
        obtain ⟨m, hm, hlp⟩ := hin3.fuel
        have HJ := Lib.hid (HPE.out.2 _ _ (hlp.trans (loop_stop e2)))
        have hlv := lvs_len cs
        have hle := hin3.lve
        have hfl := flat_len_le 2 cs
        have HJN := Lib.hid (join_115 2 (.slice a0 cs.length cap0) cs (fun k => w.heap.size + 1 ≤ k) w3 (hin3.row.done _ fun k h _ => h.elim id id) hin3.ne (by omega) (by omega))
        have HR3 := Lib.hid hin3.res
        have HKK := Lib.hid hin3.kp
        have HQ3 := Lib.hid hp3
        clear e1 e2 hp3 hin3 hlp hlv hle hfl hm
        go_wp2_with fail
        refine HJN.out.mono ?_
        clear HJN
        rintro e w4 ⟨cv, rfl, hb4, sl, rfl, hsl⟩
        obtain ⟨sa, sc, rfl⟩ := cds_slice hsl
        have HR4 := Lib.hid ((hb4.block w.heap.size (lt_of_block HR3.out)).trans HR3.out)
        have HK4 := Lib.hid (HKK.out.then (Kp.of hb4))
        have HQ4 := Lib.hid (HQ3.out.later hb4)
        have HSZ := Lib.hid (lt_of_block HR3.out)
        obtain ⟨jc, hjc⟩ : ∃ jc, joinC 2 cs = jc := ⟨_, rfl⟩
        rw [hjc] at hsl HJ ⊢
        obtain ⟨cop, cn, csg, ⟨ck, cb, ct⟩, cp⟩ := jc
        unfold cdV
        simp only [Cd.op, Cd.name, Cd.sign, Cd.val, Cd.parts] at hsl ⊢
        have HSL := Lib.hid hsl
        clear hb4 hsl hjc
        have q0 : w4.cell? ⟨w.heap.size, 0, none⟩ = some (.int .i64 0) := Lib.cell_of_heap HR4.out 0
        have f0 : w4.frozen? ⟨w.heap.size, 0, none⟩ = false := Lib.frozen_of_heap HR4.out 0
        have q1 : w4.cell? ⟨w.heap.size, 1, none⟩ = some (.string ⟨#[]⟩) := Lib.cell_of_heap HR4.out 1
        have f1 : w4.frozen? ⟨w.heap.size, 1, none⟩ = false := Lib.frozen_of_heap HR4.out 1
        have q2 : w4.cell? ⟨w.heap.size, 2, none⟩ = some (.string ⟨#[]⟩) := Lib.cell_of_heap HR4.out 2
        have f2 : w4.frozen? ⟨w.heap.size, 2, none⟩ = false := Lib.frozen_of_heap HR4.out 2
        have q3 : w4.cell? ⟨w.heap.size, 3, none⟩ = some (.int .i64 0) := Lib.cell_of_heap HR4.out 3
        have f3 : w4.frozen? ⟨w.heap.size, 3, none⟩ = false := Lib.frozen_of_heap HR4.out 3
        have q4 : w4.cell? ⟨w.heap.size, 4, none⟩ = some (.int .u64 0) := Lib.cell_of_heap HR4.out 4
        have f4 : w4.frozen? ⟨w.heap.size, 4, none⟩ = false := Lib.frozen_of_heap HR4.out 4
        have q5 : w4.cell? ⟨w.heap.size, 5, none⟩ = some (.string ⟨#[]⟩) := Lib.cell_of_heap HR4.out 5
        have f5 : w4.frozen? ⟨w.heap.size, 5, none⟩ = false := Lib.frozen_of_heap HR4.out 5
        have q6 : w4.cell? ⟨w.heap.size, 6, none⟩ = some (.slice none 0 0) := Lib.cell_of_heap HR4.out 6
        have f6 : w4.frozen? ⟨w.heap.size, 6, none⟩ = false := Lib.frozen_of_heap HR4.out 6
        go_wp2_with fail
        refine bodyPost_ret (results_cell_row rfl _ _ w.heap.size 51 _ (0, 0) _ rfl (put7_heap HR4.out _ _ _ _ _ _ _) Tryz.underlying51 (by kernel_rfl) info51s) rfl ?_
        rw [← HPP.out, HJ.out]
        exact ⟨put7_kp HK4.out (Nat.le_refl _) _ _ _ _ _ _ _, _, rfl, ⟨_, rfl, HSL.out.keep fun k h1 h2 => ⟨put7_far (by have := HSZ.out; rcases h1 with h1 | h1 <;> omega) _ _ _ _ _ _ _, by have := HSZ.out; rcases h1 with h1 | h1 <;> omega⟩⟩, put7_pat HQ4.out HPB.out _ _ _ _ _ _ _⟩
      · rw [e1] at hm3
        obtain ⟨rfl, hp3⟩ := hm3
        subst e0
        have hlr : r.length ≤ 70000 := by have := HIN.out.lve; simp at this; omega
        have HK33 := Lib.hid (HIN.out.kp.then HK3.out)
        have HM5 := Lib.hid (HF.out r w3 hlr (HW.out.trans (HK33.out.below HW.out.size (fun k e => by show W.heap.size ≤ k; rw [e]; exact HWP.out))) hp3)
        have HTI := Lib.hid e2
        have HSR := Lib.hid (Nat.lt_of_lt_of_le (lt_of_block HIN.out.res) HK3.out.size)
        clear e1 e2 hp3 hlr
        go_wp2_with fail
        refine HM5.out.mono ?_
        clear HM5
        rintro e w5 ⟨hk5, hm5⟩
        have HK5 := Lib.hid (HK3.out.then hk5)
        have HK55 := Lib.hid hk5
        clear hk5
        cases hfr : f r with
        | error q2 =>
          rw [hfr] at hm5
          obtain rfl := hm5
          obtain ⟨m, hm, hlp⟩ := HIN.out.fuel
          obtain ⟨m, rfl⟩ : ∃ m', m = m' + 1 := ⟨m - 1, by simp at hm; omega⟩
          unfold stuckE
          simp (config := { zetaDelta := true }) only
          refine ⟨rfl, ?_⟩
          rw [← HPP.out, HPE.out.1 _ (hlp.trans (loop_bad HTI.out hfr))]
          exact ⟨HIN.out.kp.then HK5.out, rfl⟩
        | ok cr =>
          obtain ⟨c, q2⟩ := cr
          rw [hfr] at hm5
          obtain ⟨cv, rfl, ⟨sl, rfl, hsl⟩, hp5⟩ := hm5
          obtain ⟨sa, sc, rfl⟩ := cds_slice hsl
          have HQ5 := Lib.hid hp5
          have HNX := Lib.hid (fun g cap w' h1 h2 h3 => HIN.out.next (w5 := w5) (w' := w') (g := g) (cap := cap) HG.out HTI.out hfr HK3.out HK55.out HPB.out hp5 hsl h1 h2 h3)
          obtain ⟨cop, cn, csg, ⟨ck, cb, ct⟩, cp⟩ := c
          unfold cdV
          simp only [Cd.op, Cd.name, Cd.sign, Cd.val, Cd.parts] at hsl ⊢
          have hrow := HIN.out.row5 HK5.out HPB.out
          have hlv := lvs_len cs
          have hle := HIN.out.lve
          have hm1 : cs.length + 1 ≤ maxLen := by unfold maxLen; omega
          have hm2 : (cs.length + 1) * 96 ≤ 140737488355328 := by omega
          have hsz5 : w.heap.size + 1 ≤ w5.heap.size := by have := HSR.out; have := HK55.out.size; omega
          have HQL : Hid (q2.length < (t0 :: r).length) := Lib.hid (by have := HG.out _ _ _ hfr; have := lv_pos (.mk cop cn csg (ck, cb, ct) cp); simp; omega)
          clear hp5 hsl hfr hlv hle
          go_wp2_with ((at_builtin; go_must (refine wpList_append_lies _ rfl (.tmp 9) (.tmp 12) 24 rfl (w.heap.size + 1) 51 i0 _ 7 96 Tryz.underlying24 HI.out HZ0.out HZ1.out HZ2.out rfl (by omega) _ cs.length _ rfl (hrow _) ⟨w5.heap.size, 0, none⟩ 1 1 [.int .i64 cop, .string cn, .string csg, .int .i64 ck, .int .u64 cb, .string ct, .slice sa cp.length sc] rfl rfl (World.news_of_block (cs := #[.int .i64 cop, .string cn, .string csg, .int .i64 ck, .int .u64 cb, .string ct, .slice sa cp.length sc]) (t := 51) (fr := (0, 0)) (heap_alloc_new _ _)) (by simp [Value.oneCell']) (Nat.zero_lt_one) hm1 hm2 (by simp; omega) (w5.heap.size + 1) (by simp) ?_); intro g3 cap3 w6 hown3 hgrow3 hat3 hlt3; have HOW3 := Lib.hid hown3; have HGR3 := Lib.hid hgrow3; have HAT3 := Lib.hid hat3; clear hown3 hgrow3 hat3 hlt3))
          have hnx := HNX.out g3 cap3 w6 HOW3.out HGR3.out HAT3.out
          refine ⟨⟨_, _, _, hnx⟩, ?_⟩
          have h1 := len_at hnx.pat
          have h2 := HLA.out
          have h3 := HQL.out
          rw [h1, h2]
          exact h3
theorem or_75 (P n : Nat) {V : List UInt8 → Value × Int} (W : World) (hR : Rd V W) (hWP : W.heap.size ≤ P) : ∀ (d o : Nat), o + d = 16 → ∀ (ts : List Tok) (w : World), ts.length ≤ 70000 → Below W.heap.size W w → PAt w P ts n o →
    Calls Tryz.prog 75 #[.pointer (some ⟨P, 0, none⟩)] w (CdOut P n o w (orP V d ts))
  | 0, o, ho => fun ts w hL hW hP => parts_75 P n o _ W hR hWP (parts_gr _ _ (test_gr V _ fun f e => by cases e)) (fun ts w hL hW hP => parts_114 P n o _ W hR hWP (test_gr V _ fun f e => by cases e) (fun ts w hL hW hP => test_135 P n o none W hR hWP (by omega) ⟨fun _ => by omega, fun _ => rfl⟩ (fun f e => by cases e) ts w hL hW hP) ts w hL hW hP) ts w hL hW hP
  | d + 1, o, ho => fun ts w hL hW hP => parts_75 P n o _ W hR hWP (parts_gr _ _ (test_gr V _ fun f e => by injection e with e; rw [← e]; exact orP_gr V d)) (fun ts w hL hW hP => parts_114 P n o _ W hR hWP (test_gr V _ fun f e => by injection e with e; rw [← e]; exact orP_gr V d) (fun ts w hL hW hP => test_135 P n o (some (orP V d)) W hR hWP (by omega) ⟨fun e => (by cases e), fun e => by omega⟩ (fun f e => by
      injection e with e
      subst e
      exact or_75 P n W hR hWP d (o + 1) (by omega)) ts w hL hW hP) ts w hL hW hP) ts w hL hW hP
end Go.Proofs.YtigicmnngppipaaGreatDoor.Tp
