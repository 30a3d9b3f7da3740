/- Both indexes in one heap; all that is asked of both is answered alike. Condition: the bounds. -/
import Derived.Test.YtobcpafalfdpkaaBL
import Derived.Test.YtobcpafalfdpkaaAU
namespace Go.Proofs.Ytobcpafalfdpkaa
open Go.RowKit Go.WideMaps Go.Sort
def Own (ρ : Nat → Option Role) (x : Nat) (k : Nat) : Prop := ρ k = some .idx ∧ k ≠ x
/-- Both indexes in one heap, above all that came in. -/
structure Duo (W w : World) (ρ : Nat → Option Role) (x m : Nat) (L : List (BA × Nat)) (M : BA → Me) (N r : Nat) (E : List (BA × SV)) (K : List (BA × BA × Int)) : Prop where
  good : Good w ρ x m L M N
  ref : RefAt w (Own ρ x) r E K
  low : Below W.heap.size W w
  role : ∀ b, ρ b ≠ none → W.heap.size ≤ b
theorem Duo.later {W w w' : World} {ρ : Nat → Option Role} {x m : Nat} {L : List (BA × Nat)} {M : BA → Me} {N r : Nat} {E : List (BA × SV)} {K : List (BA × BA × Int)} (h : Duo W w ρ x m L M N r E K) (hb : Below w.heap.size w w') : Duo W w' ρ x m L M N r E K :=
  ⟨h.good.later hb, h.ref.later hb, h.low.trans (hb.mono h.low.size), h.role⟩
/-- The program's index has turned. -/
theorem Duo.prog {W w w' : World} {ρ ρ' : Nat → Option Role} {x m : Nat} {L L' : List (BA × Nat)} {M M' : BA → Me} {N N' r : Nat} {E : List (BA × SV)} {K : List (BA × BA × Int)} {Q : Role → Prop} (h : Duo W w ρ x m L M N r E K) (hg : Good w' ρ' x m L' M' N') (hs : Step w w' ρ ρ' Q) (hq : ¬ Q .idx) : Duo W w' ρ' x m L' M' N' r E K := by
  refine ⟨hg, ?_, h.low.trans (hs.toBelow h.role h.low.size), roles_step h.role hs h.low.size⟩
  have h1 : RefAt w' (Own ρ x) r E K := h.ref.same fun g hg hT => hs.block g hg fun r e => by
    rw [hT.1] at e; injection e with e; rw [← e]; exact hq
  refine h1.more fun g _ hT => ⟨?_, hT.2⟩
  have hgw : g < w.heap.size := by
    rcases Nat.lt_or_ge g w.heap.size with h2 | h2
    · exact h2
    · have h3 := h.good.idx.dom g h2
      rw [hT.1] at h3; cases h3
  rw [hs.role g hgw]
  exact hT.1
def roleR (ρ : Nat → Option Role) (w w' : World) (k : Nat) : Option Role := if w.heap.size ≤ k ∧ k < w'.heap.size then some .idx else ρ k
theorem idx_ref {w w' : World} {ρ : Nat → Option Role} {x m : Nat} {L : List (BA × Nat)} {M : BA → Me} (h : IdxAt w ρ x m L M) (ht : Turns (Own ρ x) w w') : IdxAt w' (roleR ρ w w') x m L M := by
  have hρ : ∀ k, k < w.heap.size → roleR ρ w w' k = ρ k := fun k hk => by unfold roleR; rw [if_neg (by omega)]
  have hk : ∀ k, k < w.heap.size → ρ k ≠ some .idx → w'.heap[k]? = w.heap[k]? := fun k hk h1 => ht.block k hk fun h2 => h1 h2.1
  have hx := heap_lt h.blk
  refine ⟨(ht.block x hx fun h2 => h2.2 rfl).trans h.blk, (hρ x hx).trans h.rx, (hρ m h.out.lt).trans h.rm, h.out.same (hk m h.out.lt (by rw [h.rm]; simp)), fun p hp => (h.meas p hp).same ht.size hρ fun k hk2 hr => hk k hk2 fun e => ?_, fun b hb => ?_⟩
  · exact hr _ e
  · unfold roleR
    rw [if_neg (by omega)]
    exact h.dom b (Nat.le_trans ht.size hb)
/-- The document's index has turned. -/
theorem Duo.refs {W w w' : World} {ρ : Nat → Option Role} {x m : Nat} {L : List (BA × Nat)} {M : BA → Me} {N r : Nat} {E E' : List (BA × SV)} {K K' : List (BA × BA × Int)} (h : Duo W w ρ x m L M N r E K) (hs : RefStep w (Own ρ x) r E' K' w') : Duo W w' (roleR ρ w w') x m L M N r E' K' := by
  obtain ⟨ht, href⟩ := hs
  have hlow : Below W.heap.size W w' := h.low.trans (ht.below h.low.size fun k hk => h.role k (by rw [hk.1]; simp))
  refine ⟨⟨idx_ref h.good.idx ht, h.good.few, h.good.me, h.good.bd, h.good.ss, h.good.kd⟩, ?_, hlow, fun b hb => ?_⟩
  · have hx := heap_lt h.good.idx.blk
    refine href.more fun g _ hT => ?_
    rcases hT with hT | hT
    · have hgw : g < w.heap.size := by
        rcases Nat.lt_or_ge g w.heap.size with h2 | h2
        · exact h2
        · have h3 := h.good.idx.dom g h2
          rw [hT.1] at h3; cases h3
      exact ⟨by unfold roleR; rw [if_neg (by omega)]; exact hT.1, hT.2⟩
    · exact ⟨by unfold roleR; rw [if_pos hT], by omega⟩
  · unfold roleR at hb
    by_cases hc : w.heap.size ≤ b ∧ b < w'.heap.size
    · have := h.low.size; omega
    · rw [if_neg hc] at hb; exact h.role b hb
theorem Duo.free {W w : World} {ρ : Nat → Option Role} {x m : Nat} {L : List (BA × Nat)} {M : BA → Me} {N r : Nat} {E : List (BA × SV)} {K : List (BA × BA × Int)} (h : Duo W w ρ x m L M N r E K) {nm : Value} {a : Option Addr} {n c : Nat} {s : Sr} (hs : SrIn W (.agg #[nm, .slice a n c]) s) : FreeV ρ (.agg #[nm, .slice a n c]) := free_in h.role hs
theorem with11 {w : World} {rv : Value} {μ : BA → Me} (h : Gets w rv μ) (nm key val : BA) (hm : MeOk nm (μ nm)) (hn : nm.size ≤ maxLen) (hk : key.size ≤ maxLen) (hv : val.size ≤ maxLen) (hbd : Bd (μ nm)) :
    Calls Try.prog 11 #[rv, .string nm, .string key, .string val] w (SersPost w ((withT (μ nm) key val).map (srOf (μ nm)))) := by
  by_cases he : val = ⟨#[]⟩
  · subst he
    exact with11e h nm key hn hbd
  · exact with11v h nm key val hn hk hv hbd he (texts_sub hm key val)
set_option maxRecDepth 100000 in
set_option maxHeartbeats 4000000 in
theorem same18 {W w : World} {ρ : Nat → Option Role} {x m : Nat} {L : List (BA × Nat)} {M : BA → Me} {N r : Nat} {E : List (BA × SV)} {K : List (BA × BA × Int)} (h : Duo W w ρ x m L M N r E K) (hl : Like L M E K) (hN : N ≤ 100000000000) (hlE : E.length ≤ 100000000000) (hlK : K.length ≤ 100000000000) (nm key val f : BA) (hn : nm.size ≤ maxLen) (hk : key.size ≤ maxLen) (hv : val.size ≤ maxLen) (hf : f.size ≤ maxLen) :
    Calls Try.prog 18 #[.pointer (some ⟨x, 0, none⟩), .pointer (some ⟨r, 0, none⟩), .string nm, .string key, .string val, .string f] w (Answer (.bool true) w) := by
  have HH := Lib.hid h
  have HL := Lib.hid hl
  have hme := h.good.me
  have hri := h.good.rises
  have HME := Lib.hid hme
  have HRI := Lib.hid hri
  have HBD := Lib.hid (h.good.bdd (by omega) nm)
  have HK1 := Lib.hid (kind22 h.good.idx.gets nm f hn hf)
  have HEQ := Lib.hid (hl.kd nm f)
  rw [hl.kd nm f] at HK1
  clear h hl hme hri
  go_enter Try.func18, Try.ntmps18
  go_wp2_with fail
  refine HK1.out.mono ?_
  rintro e w1 ⟨rfl, hb1⟩
  have HB1 := Lib.hid hb1
  have HR1 := Lib.hid (rkind41 (HH.out.ref.later hb1) nm f (by omega))
  clear hb1
  go_wp2_with fail
  refine HR1.out.mono ?_
  rintro e w2 ⟨rfl, rfl⟩
  obtain ⟨ko, hko⟩ : ∃ ko, kindOf K nm f = ko := ⟨_, rfl⟩
  rw [hko]
  clear hko
  have HX2 := Lib.hid (names10 (HH.out.later HB1.out).good.idx (Nat.le_trans (HH.out.good.few) (by omega)) fun p hp => Nat.le_trans (HH.out.good.lens p hp) (by omega))
  go_wp2_with fail
  refine HX2.out.mono ?_
  rintro e w3 ⟨v3, rfl, hr3, hb3⟩
  have HR3 := Lib.hid hr3
  have HB3 := Lib.hid (HB1.out.trans (hb3.mono HB1.out.size))
  clear hr3 hb3
  have HX3 := Lib.hid (rnames20 (HH.out.ref.later HB3.out) (by omega))
  go_wp2_with fail
  refine HX3.out.mono ?_
  rintro e w4 ⟨v4, U4, rfl, hp4, hm4, hr4, hb4⟩
  have hu := like_names HL.out HME.out HH.out.good.idx.out.rising hp4 hm4
  have HS4 := Lib.hid (same19 (row_later (by rw [← hu]; exact HR3.out) hb4) hr4)
  have HB4 := Lib.hid (HB3.out.trans (hb4.mono HB3.out.size))
  clear hp4 hm4 hr4 hb4 hu
  go_wp2_with fail
  refine HS4.out.mono ?_
  rintro e w5 ⟨rfl, hb5⟩
  have HB5 := Lib.hid (HB4.out.trans (hb5.mono HB4.out.size))
  clear hb5
  have HX5 := Lib.hid (all14 (HH.out.later HB5.out).good.idx.gets nm hn HBD.out)
  go_wp2_with fail
  refine HX5.out.mono ?_
  rintro e w6 ⟨v6, L6, rfl, hm6, hr6, hs6, hb6⟩
  have HR6 := Lib.hid hr6
  have HM6 := Lib.hid hm6
  have HS6 := Lib.hid hs6
  have HB6 := Lib.hid (HB5.out.trans (hb6.mono HB5.out.size))
  clear hr6 hm6 hs6 hb6
  have HX6 := Lib.hid (all43 (HH.out.ref.later HB6.out) nm (by omega))
  go_wp2_with fail
  refine HX6.out.mono ?_
  rintro e w7 ⟨v7, rfl, hr7, hb7⟩
  have HB7 := Lib.hid (HB6.out.trans (hb7.mono HB6.out.size))
  have HS7 := Lib.hid (same42 (row_later HR6.out hb7) hr7 (fun s hs => ((HS6.out s hs).later hb7).sr) (fun s hs => (((rAll_ser HH.out.ref hs).1).later HB7.out).sr) (by rw [HM6.out]; exact like_all HL.out HME.out HRI.out nm))
  clear hr7 hb7
  go_wp2_with fail
  refine HS7.out.mono ?_
  rintro e w8 ⟨rfl, hb8⟩
  have HB8 := Lib.hid (HB7.out.trans (hb8.mono HB7.out.size))
  clear hb8
  have HX8 := Lib.hid (keys23 (HH.out.later HB8.out).good.idx.gets nm hn (Nat.le_trans (HH.out.good.bd nm).A (by omega)))
  go_wp2_with fail
  refine HX8.out.mono ?_
  rintro e w9 ⟨v9, rfl, hr9, hb9⟩
  have HR9 := Lib.hid hr9
  have HB9 := Lib.hid (HB8.out.trans (hb9.mono HB8.out.size))
  clear hr9 hb9
  have HX9 := Lib.hid (rkeys44 (HH.out.ref.later HB9.out) nm (by omega) fun p hp => by
    have := (HL.out.ser p hp).1
    unfold Sr.ok formedB at this
    simp only [Bool.and_eq_true, decide_eq_true_eq] at this
    exact this.2.2)
  go_wp2_with fail
  refine HX9.out.mono ?_
  rintro e w10 ⟨v10, U10, rfl, hp10, hm10, hr10, hb10⟩
  have hu := like_keys HL.out HME.out HRI.out nm hp10 hm10
  have HS10 := Lib.hid (same19 (row_later (by rw [← hu]; exact HR9.out) hb10) hr10)
  have HB10 := Lib.hid (HB9.out.trans (hb10.mono HB9.out.size))
  clear hp10 hm10 hr10 hb10 hu
  go_wp2_with fail
  refine HS10.out.mono ?_
  rintro e w11 ⟨rfl, hb11⟩
  have HB11 := Lib.hid (HB10.out.trans (hb11.mono HB10.out.size))
  clear hb11
  have HX11 := Lib.hid (values12 (HH.out.later HB11.out).good.idx.gets nm key hn hk HBD.out)
  go_wp2_with fail
  refine HX11.out.mono ?_
  rintro e w12 ⟨v12, rfl, hr12, hb12⟩
  have HR12 := Lib.hid hr12
  have HB12 := Lib.hid (HB11.out.trans (hb12.mono HB11.out.size))
  clear hr12 hb12
  have HX12 := Lib.hid (rvalues45 (HH.out.ref.later HB12.out) nm key (by omega))
  go_wp2_with fail
  refine HX12.out.mono ?_
  rintro e w13 ⟨v13, U13, rfl, hp13, hm13, hr13, hb13⟩
  have hu := like_values HL.out HME.out HRI.out nm key hp13 hm13
  have HS13 := Lib.hid (same19 (row_later (by rw [← hu]; exact HR12.out) hb13) hr13)
  have HB13 := Lib.hid (HB12.out.trans (hb13.mono HB12.out.size))
  clear hp13 hm13 hr13 hb13 hu
  go_wp2_with fail
  refine HS13.out.mono ?_
  rintro e w14 ⟨rfl, hb14⟩
  have HB14 := Lib.hid (HB13.out.trans (hb14.mono HB13.out.size))
  clear hb14
  have HX14 := Lib.hid (with11 (HH.out.later HB14.out).good.idx.gets nm key val (HME.out nm) hn hk hv HBD.out)
  go_wp2_with fail
  refine HX14.out.mono ?_
  rintro e w15 ⟨v15, L15, rfl, hm15, hr15, hs15, hb15⟩
  have HR15 := Lib.hid hr15
  have HM15 := Lib.hid hm15
  have HS15 := Lib.hid hs15
  have HB15 := Lib.hid (HB14.out.trans (hb15.mono HB14.out.size))
  clear hr15 hm15 hs15 hb15
  have HX15 := Lib.hid (with46 (HH.out.ref.later HB15.out) nm key val (by omega))
  go_wp2_with fail
  refine HX15.out.mono ?_
  rintro e w16 ⟨v16, rfl, hr16, hb16⟩
  have HB16 := Lib.hid (HB15.out.trans (hb16.mono HB15.out.size))
  have HS16 := Lib.hid (same42 (row_later HR15.out hb16) hr16 (fun s hs => ((HS15.out s hs).later hb16).sr) (fun s hs => (((rAll_ser HH.out.ref (List.mem_filter.1 hs).1).1).later HB16.out).sr) (by rw [HM15.out]; exact like_with HL.out HME.out HRI.out nm key val))
  clear hr16 hb16
  go_wp2_with fail
  refine HS16.out.mono ?_
  rintro e w17 ⟨rfl, hb17⟩
  have HB17 := Lib.hid (HB16.out.trans (hb17.mono HB16.out.size))
  clear hb17
  have HX17 := Lib.hid (with11 (HH.out.later HB17.out).good.idx.gets nm key ⟨#[]⟩ (HME.out nm) hn hk (Nat.zero_le _) HBD.out)
  go_wp2_with fail
  refine HX17.out.mono ?_
  rintro e w18 ⟨v18, L18, rfl, hm18, hr18, hs18, hb18⟩
  have HR18 := Lib.hid hr18
  have HM18 := Lib.hid hm18
  have HS18 := Lib.hid hs18
  have HB18 := Lib.hid (HB17.out.trans (hb18.mono HB17.out.size))
  clear hr18 hm18 hs18 hb18
  have HX18 := Lib.hid (with46 (HH.out.ref.later HB18.out) nm key ⟨#[]⟩ (by omega))
  go_wp2_with fail
  refine HX18.out.mono ?_
  rintro e w19 ⟨v19, rfl, hr19, hb19⟩
  have HB19 := Lib.hid (HB18.out.trans (hb19.mono HB18.out.size))
  have HS19 := Lib.hid (same42 (row_later HR18.out hb19) hr19 (fun s hs => ((HS18.out s hs).later hb19).sr) (fun s hs => (((rAll_ser HH.out.ref (List.mem_filter.1 hs).1).1).later HB19.out).sr) (by rw [HM18.out]; exact like_with HL.out HME.out HRI.out nm key ⟨#[]⟩))
  clear hr19 hb19
  go_wp2_with fail
  refine HS19.out.mono ?_
  rintro e w20 ⟨rfl, hb20⟩
  have HB20 := Lib.hid (HB19.out.trans (hb20.mono HB19.out.size))
  clear hb20
  have HX20 := Lib.hid (fields25 (HH.out.later HB20.out).good.idx.gets nm hn HBD.out)
  go_wp2_with fail
  refine HX20.out.mono ?_
  rintro e w21 ⟨v21, rfl, hr21, hb21⟩
  have HR21 := Lib.hid hr21
  have HB21 := Lib.hid (HB20.out.trans (hb21.mono HB20.out.size))
  clear hr21 hb21
  have HX21 := Lib.hid (rfields47 (HH.out.ref.later HB21.out) nm (by omega))
  go_wp2_with fail
  refine HX21.out.mono ?_
  rintro e w22 ⟨v22, U22, rfl, hp22, hm22, hr22, hb22⟩
  have hu := like_fields HL.out HRI.out nm hp22 hm22
  have HS22 := Lib.hid (same19 (row_later (by rw [← hu]; exact HR21.out) hb22) hr22)
  have HB22 := Lib.hid (HB21.out.trans (hb22.mono HB21.out.size))
  clear hp22 hm22 hr22 hb22 hu
  go_wp2_with fail
  refine HS22.out.mono ?_
  rintro e w23 ⟨rfl, hb23⟩
  have HB23 := Lib.hid (HB22.out.trans (hb23.mono HB22.out.size))
  clear hb23
  go_wp2_with fail
  go_ret
  exact ⟨rfl, HB23.out⟩
end Go.Proofs.Ytobcpafalfdpkaa
