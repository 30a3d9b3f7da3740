/- The document's index: Kind, SetKind. Condition: the bounds. -/
import Derived.Test.YtobcpafalfdpkaaBE
import Derived.Test.YtobcpafalfdpkaaAC
namespace Go.Proofs.Ytobcpafalfdpkaa
open Go.RowKit Go.WideMaps Go.Sort
def isKind (nm f : BA) (p : BA × BA × Int) : Bool := decide (p.1 = nm ∧ p.2.1 = f)
def kindOf (K : List (BA × BA × Int)) (nm f : BA) : Option Int := (K.find? (isKind nm f)).map (·.2.2)
theorem str_eq {a b : BA} (h : (a.toList == b.toList) = true) : a = b := by
  rw [beq_iff_eq, ByteArray.toList_eq, ByteArray.toList_eq] at h; exact ba_eq h
theorem str_ne {a b : BA} (h : (a.toList == b.toList) = false) : a ≠ b := fun e => by rw [e] at h; simp at h
set_option maxRecDepth 100000 in
set_option maxHeartbeats 1000000 in
theorem rkind41 {w : World} {T : Nat → Prop} {x : Nat} {E : List (BA × SV)} {K : List (BA × BA × Int)} (h : RefAt w T x E K) (nm f : BA) (hn : K.length ≤ 2000000000000) : Calls Try.prog 41 #[.pointer (some ⟨x, 0, none⟩), .string nm, .string f] w fun e w' => e = .returned (.tuple #[.int .i64 ((kindOf K nm f).getD 0), .bool (kindOf K nm f).isSome]) ∧ w = w' := by
  obtain ⟨_, _, _, a, n, c, hx, _, hKn, _, hrow⟩ := h.open
  have c1 : w.cell? ⟨x, 1, none⟩ = some (.slice a n c) := by simp [World.cell?, hx]
  have HK := Lib.hid hKn
  have HCELL : Hid (∀ (k : Nat) (p : BA × BA × Int), K[k]? = some p → ∃ g, a = some ⟨g, 0, none⟩ ∧ w.cell? ⟨g, k * 3, none⟩ = some (.string p.1) ∧ w.cell? ⟨g, k * 3 + 1, none⟩ = some (.string p.2.1) ∧ w.cell? ⟨g, k * 3 + 2, none⟩ = some (.int .i64 p.2.2)) := Lib.hid fun k p hp => ki_cell hrow hKn hp
  rw [hKn] at hn
  clear h hx hKn hrow
  go_enter Try.func41, Try.ntmps41
  go_wp2_with fail
  go_loopw [14] (fun i wr => ∃ k : Nat, k ≤ n ∧ i = .int .i64 k ∧ Hid (∀ (j : Nat) (p : BA × BA × Int), j < k → K[j]? = some p → isKind nm f p = false) ∧ w = wr) (fun i _ => n - (intOf i).toNat)
  case atStart => exact ⟨0, Nat.zero_le _, rfl, Lib.hid (fun j p hj => by omega), rfl⟩
  case round =>
    obtain ⟨k, hk, rfl, hall, rfl⟩ := hrel
    have HALL := Lib.hid hall
    clear hall
    by_cases hlt : k < n
    · obtain ⟨p, hp⟩ : ∃ p, K[k]? = some p := ⟨_, List.getElem?_eq_getElem (by rw [HK.out]; exact hlt)⟩
      obtain ⟨g, rfl, q0, q1, q2⟩ := HCELL.out k p hp
      have HP := Lib.hid hp
      obtain ⟨pn, pf, pk⟩ := p
      simp only at q0 q1 q2
      have HNO : Hid (isKind nm f (pn, pf, pk) = false → ∀ (j : Nat) (p : BA × BA × Int), j < k + 1 → K[j]? = some p → isKind nm f p = false) := Lib.hid fun hno j p' hj hj' => by
        by_cases hjk : j = k
        · subst hjk
          rw [HP.out] at hj'
          injection hj' with hj'
          rw [← hj']; exact hno
        · exact HALL.out.out j p' (by omega) hj'
      clear hp
      cases e1 : (pn.toList == nm.toList) with
      | false =>
        have HX := Lib.hid (HNO.out (by unfold isKind; rw [decide_eq_false_iff_not]; exact fun h => str_ne e1 h.1))
        go_wp2_with fail
        go_roundw
        case rel => exact ⟨k + 1, by omega, by go_num, HX, trivial⟩
        case measure => simp [intOf]; omega
      | true =>
        cases e2 : (pf.toList == f.toList) with
        | false =>
          have HX := Lib.hid (HNO.out (by unfold isKind; rw [decide_eq_false_iff_not]; exact fun h => str_ne e2 h.2))
          go_wp2_with fail
          go_roundw
          case rel => exact ⟨k + 1, by omega, by go_num, HX, trivial⟩
          case measure => simp [intOf]; omega
        | true =>
          have HX := Lib.hid (show kindOf K nm f = some pk by
            unfold kindOf
            obtain ⟨hk', he'⟩ := List.getElem?_eq_some_iff.1 HP.out
            rw [show K.find? (isKind nm f) = some (pn, pf, pk) from by
              rw [List.find?_eq_some_iff_getElem]
              refine ⟨by unfold isKind; rw [decide_eq_true_eq]; exact ⟨str_eq e1, str_eq e2⟩, k, hk', he', fun j hj => ?_⟩
              rw [HALL.out.out j _ hj (List.getElem?_eq_getElem (by omega))]; rfl]
            rfl)
          go_wp2_with fail
          go_ret2
          rw [HX.out]
          exact ⟨rfl, rfl⟩
    · have hke : k = n := by omega
      have HX := Lib.hid (show kindOf K nm f = none by
        unfold kindOf
        rw [show K.find? (isKind nm f) = none from by
          rw [List.find?_eq_none]
          intro p hp
          obtain ⟨j, hj, e⟩ := List.mem_iff_getElem.1 hp
          rw [HALL.out.out j p (by rw [hke, ← HK.out]; exact hj) (by rw [List.getElem?_eq_getElem hj, e])]; exact Bool.false_ne_true]
        rfl)
      go_wp2_with fail
      go_ret2
      rw [HX.out]
      exact ⟨rfl, rfl⟩
theorem zinfo103 : (Try.prog.info? 103).map (fun i => (i.size, i.bytes, i.zero.map (·.cells.size))) = some (3, 40, some 3) := by kernel_rfl
theorem zparts103 : ∃ i z, Try.prog.info? 103 = some i ∧ i.zero = some z ∧ i.size = 3 ∧ i.bytes = 40 ∧ z.cells.size = 3 := by
  have e1 := zinfo103
  cases h : Try.prog.info? 103 with
  | none => rw [h] at e1; cases e1
  | some i =>
    rw [h] at e1
    simp only [Option.map_some, Option.some.injEq, Prod.mk.injEq] at e1
    obtain ⟨h1, h2, h3⟩ := e1
    cases hz : i.zero with
    | none => rw [hz] at h3; cases h3
    | some z =>
      rw [hz] at h3
      exact ⟨i, z, rfl, hz, h1, h2, by simpa using h3⟩
def kinS (K : List (BA × BA × Int)) (nm f : BA) (k : Int) : List (BA × BA × Int) := if skE (kindOf K nm f) k = 0 ∧ kindOf K nm f = none then K ++ [(nm, f, k)] else K
def RefStep (w : World) (T : Nat → Prop) (x : Nat) (E : List (BA × SV)) (K : List (BA × BA × Int)) (w' : World) : Prop := Turns T w w' ∧ RefAt w' (With T w w') x E K
theorem refStep_refl {w : World} {T : Nat → Prop} {x : Nat} {E : List (BA × SV)} {K : List (BA × BA × Int)} (h : RefAt w T x E K) : RefStep w T x E K w := ⟨Turns.refl _ _, h.more fun _ _ h => .inl h⟩
theorem refStep_later {w w' : World} {T : Nat → Prop} {x : Nat} {E : List (BA × SV)} {K : List (BA × BA × Int)} (h : RefAt w T x E K) (hb : Below w.heap.size w w') : RefStep w T x E K w' := ⟨Turns.of_below hb, (h.later hb).more fun _ _ h => .inl h⟩
theorem skE_bad {o : Option Int} {k : Int} (h : k < 1 ∨ 4 < k) : skE o k = 1 := if_pos h
theorem row_kind {w : World} {b b' n n' z z' : Nat} {t t' : TypeId} {u v : Value} {xs ys : List Value} (hu : w.ownsRow b t z u n xs) (hv : w.ownsRow b' t' z' v n' ys) (ht : t ≠ t') {k : Nat} (hk : u.ownBlock = some k) : v.ownBlock ≠ some k := types_apart hu hv ht hk
theorem row_not {w : World} {b n z x : Nat} {t t' : TypeId} {u : Value} {xs : List Value} {cs : Array Value} (hu : w.ownsRow b t z u n xs) (hx : w.heap[x]? = some (.cells cs t' (0, 0))) (ht : t ≠ t') {k : Nat} (hk : u.ownBlock = some k) : k ≠ x := fun e => by
  obtain ⟨c1, h1⟩ := row_cellsB hu hk
  rw [e, hx] at h1
  simp at h1
  exact ht h1.2.symm
set_option maxRecDepth 100000 in
set_option maxHeartbeats 1000000 in
theorem rsetKind50 {w : World} {T : Nat → Prop} {x : Nat} {E : List (BA × SV)} {K : List (BA × BA × Int)} (h : RefAt w T x E K) (nm f : BA) (k : Int) (hn : K.length ≤ 2000000000000) : Calls Try.prog 50 #[.pointer (some ⟨x, 0, none⟩), .string nm, .string f, .int .i64 k] w fun e w' => e = .returned (.int .i64 (skE (kindOf K nm f) k)) ∧ RefStep w T x E (kinS K nm f k) w' := by
  have HH := Lib.hid h
  by_cases hbad : k < 1 ∨ 4 < k
  · have hE : skE (kindOf K nm f) k = 1 := skE_bad hbad
    have HK2 := Lib.hid (show kinS K nm f k = K by unfold kinS; rw [hE]; rw [if_neg (by omega)])
    rw [hE]
    clear h hE
    rcases hbad with h1 | h1
    · have hd1 : decide (k < 1) = true := by simpa using h1
      go_enter Try.func50, Try.ntmps50
      go_wp2_with fail
      go_ret
      rw [HK2.out]
      exact ⟨rfl, refStep_refl HH.out⟩
    · have hd1 : decide (k < 1) = false := by simp; omega
      have hd2 : decide (4 < k) = true := by simpa using h1
      go_enter Try.func50, Try.ntmps50
      go_wp2_with fail
      go_ret
      rw [HK2.out]
      exact ⟨rfl, refStep_refl HH.out⟩
  · have HKI := Lib.hid (rkind41 h nm f hn)
    have hd1 : decide (k < 1) = false := by simp; omega
    have hd2 : decide (4 < k) = false := by simp; omega
    cases hkd : kindOf K nm f with
    | some o =>
      rw [hkd] at HKI
      have HK2 := Lib.hid (show kinS K nm f k = K by unfold kinS; rw [hkd]; rw [if_neg (by simp)])
      clear h
      by_cases hok : o = k
      · have hE : skE (some o) k = 0 := by unfold skE; rw [if_neg hbad]; simp [hok]
        subst hok
        rw [hE]
        clear hbad hE hkd
        go_enter Try.func50, Try.ntmps50
        go_wp2_with fail
        refine HKI.out.mono ?_
        rintro e w1 ⟨rfl, rfl⟩
        go_wp2_with fail
        go_ret
        rw [HK2.out]
        exact ⟨rfl, refStep_refl HH.out⟩
      · have hE : skE (some o) k = 5 := by unfold skE; rw [if_neg hbad]; simp [hok]
        have hne : (o != k) = true := by simpa using hok
        have hne2 : (o == k) = false := by simpa using hok
        rw [hE]
        clear hbad hE hkd hok
        go_enter Try.func50, Try.ntmps50
        go_wp2_with fail
        refine HKI.out.mono ?_
        rintro e w1 ⟨rfl, rfl⟩
        go_wp2_with fail
        go_ret
        rw [HK2.out]
        exact ⟨rfl, refStep_refl HH.out⟩
    | none =>
      rw [hkd] at HKI
      have hE : skE none k = 0 := by unfold skE; rw [if_neg hbad]
      have HK2 := Lib.hid (show kinS K nm f k = K ++ [(nm, f, k)] by unfold kinS; rw [hkd, hE]; rw [if_pos ⟨rfl, rfl⟩])
      rw [hE]
      obtain ⟨la, ln, lc, a, n, c, hx, hEn, hKn, hrl, hrow⟩ := h.open
      obtain ⟨i0, z0', hi0, hz0, hz1, hz2, hz3⟩ := zparts103
      have HI := Lib.hid hi0
      have HI0 := Lib.hid hz0
      have HI1 := Lib.hid hz1
      have HI2 := Lib.hid hz2
      have HI3 := Lib.hid hz3
      have c1 : w.cell? ⟨x, 1, none⟩ = some (.slice a n c) := by simp [World.cell?, hx]
      have HX := Lib.hid hx
      have HKN := Lib.hid hKn
      have HRL := Lib.hid hrl
      have HROW := Lib.hid hrow
      have HA := Lib.hid (hrow.alloc (.cells #[.string nm, .string f, .int .i64 k] 103))
      have HBA := Lib.hid ((Below.refl w.heap.size w).alloc (Nat.le_refl _) (.cells #[.string nm, .string f, .int .i64 k] 103))
      have HSRC := Lib.hid (SrcN.of_block (size := 3) (m := 1) (heap_alloc_new w (.cells #[.string nm, .string f, .int .i64 k] 103)) rfl (by simp [Value.oneCell']) 1)
      rw [hKn] at hn
      clear h hx hEn hKn hrl hrow hi0 hz0 hz1 hz2 hz3 hbad hE hkd
      go_enter Try.func50, Try.ntmps50
      go_wp2_with fail
      refine HKI.out.mono ?_
      rintro e w1 ⟨rfl, rfl⟩
      go_wp2_with (at_builtin; refine wpList_append_srcN (by rfl) _ _ 85 (by rfl) 0 103 i0 z0' 3 40 Try.underlying85 HI.out HI0.out HI1.out HI2.out HI3.out (by omega) (.slice a n c) n (kiC K) (by rfl) HA.out (.slice (some ⟨w.heap.size, 0, none⟩) 1 1) 1 [.string nm, .string f, .int .i64 k] (by rfl) HSRC.out (by unfold maxLen; omega) (by omega) (by exact Nat.zero_le _) ?_; intro v8 w8 hr8 hg8 hat8; obtain ⟨a8, c8, rfl⟩ := row_form hr8; have hx8 : w8.heap[x]? = some (.cells #[.slice la ln lc, .slice a n c] 87 (0, 0)) := (hg8.block x (Nat.lt_of_lt_of_le (heap_lt HX.out) HBA.out.size) (fun e => row_not HROW.out HX.out (by decide) e.symm rfl)).trans ((HBA.out.block x (heap_lt HX.out)).trans HX.out); have z8 : w8.frozen? ⟨x, 1, none⟩ = false := (by simp [World.frozen?, hx8]); have k8 : w8.cell? ⟨x, 1, none⟩ = some (.slice a n c) := (by simp [World.cell?, hx8]); have HX8 := Lib.hid hx8; have HR8 := Lib.hid hr8; have HG8 := Lib.hid hg8; have HAT := Lib.hid hat8; clear hr8 hg8 hat8 hx8)
      go_ret
      refine ⟨rfl, ?_⟩
      rw [HK2.out]
      have hset := heap_setCell_same w8 x 1 _ _ (.slice a8 (n + 1) c8) HX8.out
      have ho := onlyD_set w8 x 1 (.slice a8 (n + 1) c8)
      obtain ⟨w9, hw9⟩ : ∃ w9, w8.setCell ⟨x, 1, none⟩ (.slice a8 (n + 1) c8) = w9 := ⟨_, rfl⟩
      rw [hw9] at hset ho ⊢
      have hsz : w.heap.size ≤ w8.heap.size := Nat.le_trans HBA.out.size HG8.out.size
      have hown : ∀ g, (Value.slice a8 (n + 1) c8).ownBlock = some g → (Value.slice a n c).ownBlock = some g ∨ (w.heap.size ≤ g ∧ g < w9.heap.size) := fun g hg => by
        rcases HAT.out with h1 | h1
        · exact .inl (h1.symm.trans hg)
        · right
          have h2 := (HR8.out.lt g hg).2
          have h3 := Option.some.inj (hg.symm.trans h1)
          rw [ho.sized]
          have := HBA.out.size
          exact ⟨by omega, h2⟩
      obtain ⟨lv, kv, hxx, hl1, hk1, hlT, hkT⟩ := HH.out.blk
      have hxe := hxx.symm.trans HX.out
      simp at hxe
      obtain ⟨rfl, rfl⟩ := hxe
      have hturn : Turns T w w9 := by
        refine ⟨ho.1.trans (HG8.out.os.trans HBA.out.os), ho.2.1.trans (HG8.out.tape.trans HBA.out.tape), ho.2.2.1.trans (HG8.out.output.trans HBA.out.output), by rw [ho.sized]; exact hsz, fun g hg hT => ?_⟩
        rw [ho.2.2.2.2 g fun e => hT (e ▸ HH.out.here), HG8.out.block g (Nat.lt_of_lt_of_le hg HBA.out.size) fun e => hT (hkT g e.symm), HBA.out.block g hg]
      have hlow : ∀ g, g < w.heap.size → g ≠ x → (Value.slice a n c).ownBlock ≠ some g → w9.heap[g]? = w.heap[g]? := fun g hg h1 h2 => by
        rw [ho.2.2.2.2 g h1, HG8.out.block g (Nat.lt_of_lt_of_le hg HBA.out.size) fun e => h2 e.symm, HBA.out.block g hg]
      refine ⟨hturn, ⟨⟨.slice la ln lc, .slice a8 (n + 1) c8, hset, ?_, ?_, fun g hg => .inl (hlT g hg), fun g hg => (hown g hg).elim (fun h => .inl (hkT g h)) .inr⟩, fun p hp => ?_, .inl HH.out.here⟩⟩
      · exact ownsRow_same hl1 fun g hg => hlow g (hl1.lt g hg).2 (row_not hl1 HX.out (by decide) hg) (row_kind hl1 HROW.out (by decide) hg)
      · have h1 : w9.ownsRow 0 103 3 (.slice a8 (n + 1) c8) (n + 1) (kiC K ++ [.string nm, .string f, .int .i64 k]) := ownsRow_same HR8.out fun g hg => ho.2.2.2.2 g (row_not HR8.out HX8.out (by decide) hg)
        have h2 : kiC (K ++ [(nm, f, k)]) = kiC K ++ [.string nm, .string f, .int .i64 k] := by unfold kiC; rw [List.flatMap_append]; simp [kiV]
        rw [h2, List.length_append, HKN.out]
        exact h1
      · obtain ⟨h1, h2⟩ := HH.out.ser p hp
        exact ⟨⟨ownsRow_same h1.row fun g hg => hlow g (h1.row.lt g hg).2 (row_not h1.row HX.out (by decide) hg) (row_kind h1.row HROW.out (by decide) hg), h1.name, h1.sizes⟩, fun g hg => .inl (h2 g hg)⟩
end Go.Proofs.Ytobcpafalfdpkaa
