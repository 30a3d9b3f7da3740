/- The walk of WaveEnds. No condition. -/
import Derived.Test.YtnnoefbmoafbnaaDoorF
import Derived.Deep.Slices
import Derived.ChangeShapes
namespace Go.Proofs.YtnnoefbmoafbnaaDoor
open Go.RowKit Go.WideShapes Go.ChangeShapes Go.Deep
set_option maxRecDepth 100000
def FloatsAt (w : World) (a : Option Addr) (len : Nat) (zs : List Nat) : Prop := ∀ i, i < len → ∃ b off, a = some ⟨b, off, none⟩ ∧ b < w.heap.size ∧ w.cell? ⟨b, off + i, none⟩ = some (.float .f64 (zs.getD i 0))
theorem own_lt {w : World} {base e size n g cp : Nat} {xs : List Value} (h : w.ownsRow base e size (.slice (some ⟨g, 0, none⟩) n cp) n xs) : g < w.heap.size := (h.lt g rfl).2
theorem FloatsAt.later {w w' : World} {a : Option Addr} {n : Nat} {zs : List Nat} (h : FloatsAt w a n zs) (hb : Below w.heap.size w w') : FloatsAt w' a n zs := fun i hi => by
  obtain ⟨b, off, h1, h2, h3⟩ := h i hi
  exact ⟨b, off, h1, Nat.lt_of_lt_of_le h2 hb.size, by rw [← h3]; exact hb.cell h2⟩
theorem FloatsAt.sums {w : World} {a : Option Addr} {n : Nat} {zs : List Nat} (h : FloatsAt w a n zs) : ∀ i, i < n → ∃ b off, a = some ⟨b, off, none⟩ ∧ w.cell? ⟨b, off + i, none⟩ = some (.float .f64 (zs.getD i 0)) := fun i hi => by
  obtain ⟨b, off, h1, h2, h3⟩ := h i hi
  exact ⟨b, off, h1, h3⟩
theorem own_floats {w : World} {base n : Nat} {v : Value} {xs : List Nat} (h : w.ownsRow base 23 1 v n (xs.map (Value.float .f64))) : ∃ a cap, v = .slice a n cap ∧ FloatsAt w a n xs := by
  have hl : xs.length = n := by have := h.1; simp at this; omega
  rcases h.2 with ⟨rfl, rfl⟩ | ⟨g, cap, cur, rfl, _⟩
  · exact ⟨none, 0, rfl, fun i hi => absurd hi (by omega)⟩
  · refine ⟨_, cap, rfl, fun i hi => ⟨g, 0, rfl, own_lt h, ?_⟩⟩
    have := h.cellAt i (by omega)
    rw [Nat.zero_add, this]
    simp [List.getD, hl, hi]
theorem info23 : (Tryd.prog.info? 23).map (fun i => (i.zero, i.size, i.bytes)) = some (some (.float .f64 0), 1, 8) := by kernel_rfl
def vals (v K : Nat) : List Value := (zs v K).map (Value.float .f64)
theorem vals_succ (v K : Nat) : vals v (K + 1) = vals v K ++ [.float .f64 v, .float .f64 0, .float .f64 (neg v), .float .f64 0] := by simp [vals, zs_succ]
def InRow (v K : Nat) (w : World) (l i : Value) (wr : World) : Prop := ∃ k : Nat, k ≤ K ∧ i = .int .i64 k ∧ wr.ownsRow w.heap.size 23 1 l (4 * k) (vals v k) ∧ Below w.heap.size w wr
theorem neg_run (w : World) : (Op.unary .neg (.float .f64 9218868437227405311)).run Tryd.prog w = .ok (.float .f64 18442240474082181119) w := by kernel_rfl
theorem neg_run' (w : World) : (Op.unary .neg (.float .f64 18442240474082181119)).run Tryd.prog w = .ok (.float .f64 9218868437227405311) w := by kernel_rfl
theorem zs_lt (v K : Nat) (hv : v < 2 ^ 64) (hn : neg v < 2 ^ 64) (i : Nat) : (zs v K).getD i 0 < 2 ^ 64 := by
  by_cases h : i < 4 * K
  · rw [zs_get _ _ _ h]
    unfold el
    split
    · exact hv
    · split
      · exact hn
      · omega
  · have e : (zs v K).getD i 0 = 0 := by simp [zs, List.getD, h]
    rw [e]; omega
theorem below_app23 {B n : Nat} {w w' w2 : World} {o : Obj} {v : Value} {xs : List Value} (hle : B ≤ w.heap.size) (hb : Below B w w') (hown : w'.ownsRow B 23 1 v n xs) (hg : (w'.alloc o).grownBy w2 v.ownBlock) : Below B w w2 :=
  (hb.alloc (Nat.le_trans hle hb.size) o).grown hg (by have := hb.size; simp; omega) (fun j hj => own_ge hown hj)
theorem waveEnds_walk (H : Type) (enc : TypeId × Value → H) (W : World) (base : Nat) (v0 v1 : Value) (d0 d1 : DataW H) (p0 p1 : List MemPlace) (h0 : DataW.Trod enc Tryd.prog W 0 (fun _ => true) true 5 v0 d0 p0) (o0 : Value.okWide Tryd.prog W .any base 5 v0)
    (h1 : DataW.Trod enc Tryd.prog W 0 (fun _ => true) true 4 v1 d1 p1) (o1 : Value.okWide Tryd.prog W .any base 4 v1) {lst : List (String × DataW Unit)} (hL : laidMetH Tryd.prog lst W) :
    Calls Tryd.prog 3 #[v0, v1] W fun e w' => e = .returned (.bool true) ∧ Below W.heap.size W w' := by
  obtain ⟨n0, rfl, rfl, rfl, wn⟩ := open_int Tryd.underlying5 o0 h0
  obtain ⟨s, rfl, rfl, rfl⟩ := open_bool Tryd.underlying4 o1 h1
  have hn : 0 ≤ n0 ∧ n0 ≤ 255 := by simpa [Lit.wf, IntKind.min, IntKind.max, IntKind.signed, IntKind.bits] using wn
  obtain ⟨n, rfl⟩ := Int.eq_ofNat_of_zero_le hn.1
  obtain ⟨K, hK⟩ : ∃ K, n % 12 = K := ⟨_, rfl⟩
  have hK11 : K ≤ 11 := by omega
  have hmod : (n : Int).tmod 12 = (K : Int) := by rw [Int.tmod_eq_emod_of_nonneg (by omega)]; omega
  clear wn h0 o0 h1 o1 hL
  obtain ⟨i0, hi, hz0, hz1, hz2⟩ := info_parts info23
  have HI := Lib.hid hi
  have HZ0 := Lib.hid hz0
  have HZ1 := Lib.hid hz1
  have HZ2 := Lib.hid hz2
  clear hi hz0 hz1 hz2 hK
  cases s with
  | false =>
    have hneg := neg_run
    have hneg' := neg_run'
    go_enter Tryd.func3, Tryd.ntmps3
    go_wp2_with fail
    refine (awake _).mono ?_
    rintro e w1 ⟨rfl, hb⟩
    have HB := Lib.hid hb
    clear hb
    go_wp2_with fail
    go_loopw [6, 15] (fun l i wr => InRow 9218868437227405311 K w1 l i wr) (fun _ i _ => K - (intOf i).toNat)
    case atStart => exact ⟨0, Nat.zero_le _, rfl, World.ownsRow_nil _ _ _ _, Below.refl _ _⟩
    case round =>
      obtain ⟨k, hk, rfl, hown, hb⟩ := hrel
      have HO := Lib.hid hown
      have HX := Lib.hid hb
      clear hown hb
      by_cases hlt : k < K
      · go_wp2_with (at_builtin; go_must (refine wpList_append_own _ rfl (.tmp 17) (.tmp 21) 24 rfl w1.heap.size 23 i0 _ 1 8 Tryd.underlying24 HI.out HZ0.out HZ1.out HZ2.out rfl (by omega) _ (4 * k) _ rfl (World.ownsRow.alloc HO.out _) ⟨wr.heap.size, 0, none⟩ 4 4 [.float .f64 9218868437227405311, .float .f64 0, .float .f64 18442240474082181119, .float .f64 0] rfl rfl (World.news_of_block (cs := #[.float .f64 9218868437227405311, .float .f64 0, .float .f64 18442240474082181119, .float .f64 0]) (t := 23) (fr := (0, 0)) (heap_alloc_new wr _)) (by simp [Value.oneCell']) (by unfold maxLen; omega) (by omega) (by have := HX.out.size; simp; omega) ?_); intro v1 w2 hown1 hgrow1 hnn; clear hnn)
        have HO1 := Lib.hid hown1
        have HX1 := Lib.hid (below_app23 (Nat.le_refl _) HX.out HO.out hgrow1)
        clear hown1 hgrow1
        go_roundw
        case rel => exact ⟨k + 1, hlt, by go_num, by rw [vals_succ, nnp]; exact HO1.out, HX1.out⟩
        case measure => simp [intOf]; omega
      · obtain rfl : k = K := by omega
        clear hlt hk
        obtain ⟨a, cap, rfl, hat⟩ := own_floats HO.out
        have HA := Lib.hid hat
        have hz := zs_lt 9218868437227405311 k (by omega) (by rw [nnp]; omega)
        have HZ := Lib.hid hz
        obtain ⟨R, s, hR⟩ : ∃ R s, (if k = 0 then 0 else 9218868437227405312) = R ∧ PT R s := by
          by_cases h0 : k = 0
          · exact ⟨0, _, by rw [if_pos h0], .inl ⟨rfl, rfl⟩⟩
          · exact ⟨_, _, by rw [if_neg h0], .inr (.inl ⟨rfl, rfl⟩)⟩
        have HR := Lib.hid hR
        have h4 : 4 * k < 2 ^ 63 := by omega
        clear hat hz hR
        go_wp2_with fail
        refine (wsum _ _ _ (zs 9218868437227405311 k) _ h4 HA.out.sums).mono ?_
        rintro e w4 ⟨ra, rb, rfl, hs, n1, rfl⟩
        obtain ⟨rfl, hra⟩ := endsp k k _ _ (Nat.le_refl _) hs
        rw [HR.out.1] at hra
        subst hra
        clear hs
        go_wp2_with fail
        refine (rsum _ _ _ (zs 9218868437227405311 k) (wr.drewN n1) h4 HZ.out HA.out.sums).mono ?_
        rintro e w4 ⟨ra, rb, rfl, hs, n2, rfl⟩
        obtain ⟨rfl, hra⟩ := endsp k k _ _ (Nat.le_refl _) hs
        rw [HR.out.1] at hra
        subst hra
        clear hs
        go_wp2_with fail
        refine (rSame _ _ _ _ _ (.inl rfl) (.inl rfl)).mono ?_
        rintro e w4 ⟨rfl, rfl⟩
        go_wp2_with fail
        refine (wsum _ _ _ (zs 9218868437227405311 k) (wr.drewN (n1 + n2)) h4 HA.out.sums).mono ?_
        rintro e w4 ⟨ra, rb, rfl, hs, n3, rfl⟩
        obtain ⟨rfl, hra⟩ := endsp k k _ _ (Nat.le_refl _) hs
        rw [HR.out.1] at hra
        subst hra
        clear hs
        go_wp2_with fail
        refine (wtext HR.out.2 _).mono ?_
        rintro e w5 ⟨rfl, hb5⟩
        have hb6 := (below_drewN (Below.refl _ wr) (n1 + n2 + n3)).trans hb5
        have HB6 := Lib.hid hb6
        have HA6 := Lib.hid (HA.out.later hb6)
        clear hb5 hb6
        go_wp2_with fail
        refine (rsum _ _ _ (zs 9218868437227405311 k) _ h4 HZ.out HA6.out.sums).mono ?_
        rintro e w6 ⟨ra, rb, rfl, hs, n4, rfl⟩
        obtain ⟨rfl, hra⟩ := endsp k k _ _ (Nat.le_refl _) hs
        rw [HR.out.1] at hra
        subst hra
        clear hs
        go_wp2_with fail
        refine (rtext HR.out.2 _).mono ?_
        rintro e w7 ⟨rfl, hb7⟩
        have HB7 := Lib.hid ((below_drewN (Below.refl _ w5) n4).trans hb7)
        clear hb7
        go_wp2_with fail
        go_ret
        exact ⟨rfl, (HB.out.trans (HX.out.mono HB.out.size)).trans (((HB6.out.trans (HB7.out.mono HB6.out.size))).mono (Nat.le_trans HB.out.size HX.out.size))⟩
  | true =>
    have hneg := neg_run
    have hneg' := neg_run'
    go_enter Tryd.func3, Tryd.ntmps3
    go_wp2_with fail
    refine (awake _).mono ?_
    rintro e w1 ⟨rfl, hb⟩
    have HB := Lib.hid hb
    clear hb
    go_wp2_with fail
    go_loopw [6, 15] (fun l i wr => InRow 18442240474082181119 K w1 l i wr) (fun _ i _ => K - (intOf i).toNat)
    case atStart => exact ⟨0, Nat.zero_le _, rfl, World.ownsRow_nil _ _ _ _, Below.refl _ _⟩
    case round =>
      obtain ⟨k, hk, rfl, hown, hb⟩ := hrel
      have HO := Lib.hid hown
      have HX := Lib.hid hb
      clear hown hb
      by_cases hlt : k < K
      · go_wp2_with (at_builtin; go_must (refine wpList_append_own _ rfl (.tmp 17) (.tmp 21) 24 rfl w1.heap.size 23 i0 _ 1 8 Tryd.underlying24 HI.out HZ0.out HZ1.out HZ2.out rfl (by omega) _ (4 * k) _ rfl (World.ownsRow.alloc HO.out _) ⟨wr.heap.size, 0, none⟩ 4 4 [.float .f64 18442240474082181119, .float .f64 0, .float .f64 9218868437227405311, .float .f64 0] rfl rfl (World.news_of_block (cs := #[.float .f64 18442240474082181119, .float .f64 0, .float .f64 9218868437227405311, .float .f64 0]) (t := 23) (fr := (0, 0)) (heap_alloc_new wr _)) (by simp [Value.oneCell']) (by unfold maxLen; omega) (by omega) (by have := HX.out.size; simp; omega) ?_); intro v1 w2 hown1 hgrow1 hnn; clear hnn)
        have HO1 := Lib.hid hown1
        have HX1 := Lib.hid (below_app23 (Nat.le_refl _) HX.out HO.out hgrow1)
        clear hown1 hgrow1
        go_roundw
        case rel => exact ⟨k + 1, hlt, by go_num, by rw [vals_succ, nnn]; exact HO1.out, HX1.out⟩
        case measure => simp [intOf]; omega
      · obtain rfl : k = K := by omega
        clear hlt hk
        obtain ⟨a, cap, rfl, hat⟩ := own_floats HO.out
        have HA := Lib.hid hat
        have hz := zs_lt 18442240474082181119 k (by omega) (by rw [nnn]; omega)
        have HZ := Lib.hid hz
        obtain ⟨R, s, hR⟩ : ∃ R s, (if k = 0 then 0 else 18442240474082181120) = R ∧ PT R s := by
          by_cases h0 : k = 0
          · exact ⟨0, _, by rw [if_pos h0], .inl ⟨rfl, rfl⟩⟩
          · exact ⟨_, _, by rw [if_neg h0], .inr (.inr ⟨rfl, rfl⟩)⟩
        have HR := Lib.hid hR
        have h4 : 4 * k < 2 ^ 63 := by omega
        clear hat hz hR
        go_wp2_with fail
        refine (wsum _ _ _ (zs 18442240474082181119 k) _ h4 HA.out.sums).mono ?_
        rintro e w4 ⟨ra, rb, rfl, hs, n1, rfl⟩
        obtain ⟨rfl, hra⟩ := endsn k k _ _ (Nat.le_refl _) hs
        rw [HR.out.1] at hra
        subst hra
        clear hs
        go_wp2_with fail
        refine (rsum _ _ _ (zs 18442240474082181119 k) (wr.drewN n1) h4 HZ.out HA.out.sums).mono ?_
        rintro e w4 ⟨ra, rb, rfl, hs, n2, rfl⟩
        obtain ⟨rfl, hra⟩ := endsn k k _ _ (Nat.le_refl _) hs
        rw [HR.out.1] at hra
        subst hra
        clear hs
        go_wp2_with fail
        refine (rSame _ _ _ _ _ (.inl rfl) (.inl rfl)).mono ?_
        rintro e w4 ⟨rfl, rfl⟩
        go_wp2_with fail
        refine (wsum _ _ _ (zs 18442240474082181119 k) (wr.drewN (n1 + n2)) h4 HA.out.sums).mono ?_
        rintro e w4 ⟨ra, rb, rfl, hs, n3, rfl⟩
        obtain ⟨rfl, hra⟩ := endsn k k _ _ (Nat.le_refl _) hs
        rw [HR.out.1] at hra
        subst hra
        clear hs
        go_wp2_with fail
        refine (wtext HR.out.2 _).mono ?_
        rintro e w5 ⟨rfl, hb5⟩
        have hb6 := (below_drewN (Below.refl _ wr) (n1 + n2 + n3)).trans hb5
        have HB6 := Lib.hid hb6
        have HA6 := Lib.hid (HA.out.later hb6)
        clear hb5 hb6
        go_wp2_with fail
        refine (rsum _ _ _ (zs 18442240474082181119 k) _ h4 HZ.out HA6.out.sums).mono ?_
        rintro e w6 ⟨ra, rb, rfl, hs, n4, rfl⟩
        obtain ⟨rfl, hra⟩ := endsn k k _ _ (Nat.le_refl _) hs
        rw [HR.out.1] at hra
        subst hra
        clear hs
        go_wp2_with fail
        refine (rtext HR.out.2 _).mono ?_
        rintro e w7 ⟨rfl, hb7⟩
        have HB7 := Lib.hid ((below_drewN (Below.refl _ w5) n4).trans hb7)
        clear hb7
        go_wp2_with fail
        go_ret
        exact ⟨rfl, (HB.out.trans (HX.out.mono HB.out.size)).trans (((HB6.out.trans (HB7.out.mono HB6.out.size))).mono (Nat.le_trans HB.out.size HX.out.size))⟩
end Go.Proofs.YtnnoefbmoafbnaaDoor