/- What the index answers, of whatever receiver: Kind, Fields, Keys, Values, All. Condition: the bounds. -/
import Derived.Test.YtobcpafalfdpkaaT
namespace Go.Proofs.Ytobcpafalfdpkaa
open Go.RowKit Go.WideMaps Go.Sort
/-- What 'get' answers of the receiver. -/
def Gets (w : World) (rv : Value) (μ : BA → Me) : Prop := ∀ w', Below w.heap.size w w' → ∀ nm : BA, nm.size ≤ maxLen → Calls Try.prog 32 #[rv, .string nm] w' (GotPost w' (μ nm))
theorem Gets.later {w w' : World} {rv : Value} {μ : BA → Me} (h : Gets w rv μ) (hb : Below w.heap.size w w') : Gets w' rv μ := fun w2 hb2 => h w2 (hb.trans (hb2.mono hb.size))
theorem gets_nil (w : World) : Gets w (.pointer none) fun _ => me0 := fun w' _ nm _ => get32nil nm w'
theorem IdxAt.gets {w : World} {ρ : Nat → Option Role} {x m : Nat} {L : List (BA × Nat)} {M : BA → Me} (h : IdxAt w ρ x m L M) : Gets w (.pointer (some ⟨x, 0, none⟩)) (meOf L M) := fun _ hb nm hn => get32 (h.below hb) nm hn
def valsOf (μ : Me) (key : BA) : List (BA × Nat) := match get μ.A key with | some _ => μ.V key | none => []
/-- The texts with a tag. -/
def textsOf (μ : Me) (key val : BA) : List (BA × Bool) := match get (valsOf μ key) val with | some _ => μ.X key val | none => []
structure Bd (μ : Me) : Prop where
  ss : μ.ss.length ≤ 3518437208780
  V : ∀ k, (valsOf μ k).length ≤ 3518437208780
  X : ∀ k v, (textsOf μ k v).length ≤ 3518437208780
  kd : μ.kd.length ≤ 3518437208780
theorem bd0 : Bd me0 := ⟨Nat.zero_le _, fun _ => Nat.zero_le _, fun _ _ => Nat.zero_le _, Nat.zero_le _⟩
def StrPost (w : World) (T : List BA) (e : Ending) (w' : World) : Prop := ∃ v, e = .returned v ∧ w'.ownsRow w.heap.size 9 1 v T.length (T.map Value.string) ∧ Below w.heap.size w w'
theorem look70 {w : World} {a : Option Nat} {L : List (BA × Int)} (h : MapO w intK a L) (s : BA) (hs : s.size ≤ maxLen) : (Instr.lookup 70 (.map a) (.string s) true).run Try.prog w = .ok (.tuple #[.int .i64 ((get L s).getD 0), .bool (get L s).isSome]) w := by
  have := h.look_ok Try.underlying70 (zero3 w) (zd := .lit (.int .i64 0)) rfl (fun _ _ => intE_inv) s hs
  rw [this]
  unfold getV
  cases get L s <;> rfl
def optV (o : Option Nat) : Value := .map o
theorem look69 {w : World} {a : Option Nat} {L : List (BA × Nat)} (h : MapO w mapK a L) (s : BA) (hs : s.size ≤ maxLen) : (Instr.lookup 69 (.map a) (.string s) false).run Try.prog w = .ok (.map (get L s)) w := by
  have := h.look Try.underlying69 (zero74 w) (zd := .nil) rfl (fun _ _ => mapE_nil) s hs
  rw [this]
  unfold getV
  cases get L s <;> rfl
theorem look74 {w : World} {a : Option Nat} {L : List (BA × Nat)} (h : MapO w mapK a L) (s : BA) (hs : s.size ≤ maxLen) : (Instr.lookup 74 (.map a) (.string s) false).run Try.prog w = .ok (.map (get L s)) w := by
  have := h.look Try.underlying74 (zero75 w) (zd := .nil) rfl (fun _ _ => mapE_nil) s hs
  rw [this]
  unfold getV
  cases get L s <;> rfl
theorem sortedO35 {α : Type} {w : World} {K : VK α} {o : Option Nat} {L : List (BA × α)} (h : MapO w K o L) (hn : L.length ≤ 3518437208780) :
    Calls Try.prog 34 #[.func (.func 60) #[] #[.pointer (some ⟨w.heap.size, 0, none⟩)]] (w.alloc (.cells #[.map o] 75)) (StrPost w (L.map (·.1))) := by
  cases o with
  | some b =>
    refine (sorted35 (b := b) h (by omega)).mono ?_
    rintro e w' ⟨v, rfl, hr, hb⟩
    exact ⟨v, rfl, by rw [List.length_map, List.map_map]; exact row_lower hr (by omega), hb⟩
  | none =>
    refine (sortedNil35 w).mono ?_
    rintro e w' ⟨rfl, hb⟩
    rw [show L = [] from h]
    exact ⟨_, rfl, World.ownsRow_nil _ _ _ _, hb⟩
theorem sortedO37 {α : Type} {w : World} {K : VK α} {o : Option Nat} {L : List (BA × α)} (h : MapO w K o L) (hn : L.length ≤ 3518437208780) :
    Calls Try.prog 34 #[.func (.func 63) #[] #[.pointer (some ⟨w.heap.size, 0, none⟩)]] (w.alloc (.cells #[.map o] 74)) (StrPost w (L.map (·.1))) := by
  cases o with
  | some b =>
    refine (sorted37 (b := b) h (by omega)).mono ?_
    rintro e w' ⟨v, rfl, hr, hb⟩
    exact ⟨v, rfl, by rw [List.length_map, List.map_map]; exact row_lower hr (by omega), hb⟩
  | none =>
    refine (sortedNil37 w).mono ?_
    rintro e w' ⟨rfl, hb⟩
    rw [show L = [] from h]
    exact ⟨_, rfl, World.ownsRow_nil _ _ _ _, hb⟩
theorem sortedO38 {α : Type} {w : World} {K : VK α} {o : Option Nat} {L : List (BA × α)} (h : MapO w K o L) (hn : L.length ≤ 3518437208780) :
    Calls Try.prog 34 #[.func (.func 64) #[] #[.pointer (some ⟨w.heap.size, 0, none⟩)]] (w.alloc (.cells #[.map o] 68)) (StrPost w (L.map (·.1))) := by
  cases o with
  | some b =>
    refine (sorted38 (b := b) h (by omega)).mono ?_
    rintro e w' ⟨v, rfl, hr, hb⟩
    exact ⟨v, rfl, by rw [List.length_map, List.map_map]; exact row_lower hr (by omega), hb⟩
  | none =>
    refine (sortedNil38 w).mono ?_
    rintro e w' ⟨rfl, hb⟩
    rw [show L = [] from h]
    exact ⟨_, rfl, World.ownsRow_nil _ _ _ _, hb⟩
theorem sortedO52 {α : Type} {w : World} {K : VK α} {o : Option Nat} {L : List (BA × α)} (h : MapO w K o L) (hn : L.length ≤ 3518437208780) :
    Calls Try.prog 34 #[.func (.func 67) #[] #[.pointer (some ⟨w.heap.size, 0, none⟩)]] (w.alloc (.cells #[.map o] 69)) (StrPost w (L.map (·.1))) := by
  cases o with
  | some b =>
    refine (sorted52 (b := b) h (by omega)).mono ?_
    rintro e w' ⟨v, rfl, hr, hb⟩
    exact ⟨v, rfl, by rw [List.length_map, List.map_map]; exact row_lower hr (by omega), hb⟩
  | none =>
    refine (sortedNil52 w).mono ?_
    rintro e w' ⟨rfl, hb⟩
    rw [show L = [] from h]
    exact ⟨_, rfl, World.ownsRow_nil _ _ _ _, hb⟩
theorem sortedO53 {α : Type} {w : World} {K : VK α} {o : Option Nat} {L : List (BA × α)} (h : MapO w K o L) (hn : L.length ≤ 3518437208780) :
    Calls Try.prog 34 #[.func (.func 68) #[] #[.pointer (some ⟨w.heap.size, 0, none⟩)]] (w.alloc (.cells #[.map o] 70)) (StrPost w (L.map (·.1))) := by
  cases o with
  | some b =>
    refine (sorted53 (b := b) h (by omega)).mono ?_
    rintro e w' ⟨v, rfl, hr, hb⟩
    exact ⟨v, rfl, by rw [List.length_map, List.map_map]; exact row_lower hr (by omega), hb⟩
  | none =>
    refine (sortedNil53 w).mono ?_
    rintro e w' ⟨rfl, hb⟩
    rw [show L = [] from h]
    exact ⟨_, rfl, World.ownsRow_nil _ _ _ _, hb⟩
theorem StrPost.from {w0 w : World} {T : List BA} {e : Ending} {w' : World} (h : StrPost w T e w') (hb : Below w0.heap.size w0 w) : StrPost w0 T e w' := by
  obtain ⟨v, he, hr, hb2⟩ := h
  exact ⟨v, he, row_lower hr hb.size, hb.trans (hb2.mono hb.size)⟩
theorem SersPost.from {w0 w : World} {S : List Sr} {e : Ending} {w' : World} (h : SersPost w S e w') (hb : Below w0.heap.size w0 w) : SersPost w0 S e w' := by
  obtain ⟨v, L, he, hm, hr, hs, hb2⟩ := h
  exact ⟨v, L, he, hm, row_lower hr hb.size, fun s hs' => ⟨row_lower (hs s hs').row hb.size, (hs s hs').name, (hs s hs').sizes⟩, hb.trans (hb2.mono hb.size)⟩
set_option maxRecDepth 100000 in
theorem kind22 {w : World} {rv : Value} {μ : BA → Me} (h : Gets w rv μ) (nm f : BA) (hn : nm.size ≤ maxLen) (hf : f.size ≤ maxLen) :
    Calls Try.prog 22 #[rv, .string nm, .string f] w fun e w' => e = .returned (.tuple #[.int .i64 ((get (μ nm).kd f).getD 0), .bool (get (μ nm).kd f).isSome]) ∧ Below w.heap.size w w' := by
  have HG := Lib.hid (h w (Below.refl _ _) nm hn)
  clear h hn
  go_enter Try.func22, Try.ntmps22
  go_wp2_with fail
  refine HG.out.mono ?_
  rintro e w1 ⟨g, a, b, c, rfl, hv, hb⟩
  have hblk := hv.blk
  have c2 : w1.cell? ⟨g, 2, none⟩ = some (.map c) := by simp [World.cell?, hblk]
  have hl := look70 hv.kin f hf
  have HB := Lib.hid hb
  clear hblk hv hb
  go_wp2_with fail
  go_ret2
  exact ⟨rfl, HB.out⟩
set_option maxRecDepth 100000 in
theorem fields25 {w : World} {rv : Value} {μ : BA → Me} (h : Gets w rv μ) (nm : BA) (hn : nm.size ≤ maxLen) (hbd : Bd (μ nm)) : Calls Try.prog 25 #[rv, .string nm] w (StrPost w ((μ nm).kd.map (·.1))) := by
  have HG := Lib.hid (h w (Below.refl _ _) nm hn)
  have HD := Lib.hid hbd
  clear h hn hbd
  go_enter Try.func25, Try.ntmps25
  go_wp2_with fail
  refine HG.out.mono ?_
  rintro e w1 ⟨g, a, b, c, rfl, hv, hb⟩
  have hblk := hv.blk
  have c2 : w1.cell? ⟨g, 2, none⟩ = some (.map c) := by simp [World.cell?, hblk]
  have HS := Lib.hid (sortedO53 hv.kin HD.out.kd)
  have HB := Lib.hid hb
  clear hblk hv hb
  go_wp2_with fail
  refine (keys53 c w1).mono ?_
  rintro e w2 ⟨rfl, rfl⟩
  go_wp2_with fail
  refine HS.out.mono ?_
  intro e w3 hp
  have hp2 := hp.from HB.out
  obtain ⟨v, rfl, hr, hb3⟩ := hp2
  have HR := Lib.hid hr
  have HB3 := Lib.hid hb3
  clear hp hr hb3
  go_wp2_with fail
  go_ret
  exact ⟨_, rfl, HR.out, HB3.out⟩
set_option maxRecDepth 100000 in
theorem keys23 {w : World} {rv : Value} {μ : BA → Me} (h : Gets w rv μ) (nm : BA) (hn : nm.size ≤ maxLen) (hbd : (μ nm).A.length ≤ 3518437208780) : Calls Try.prog 23 #[rv, .string nm] w (StrPost w ((μ nm).A.map (·.1))) := by
  have HG := Lib.hid (h w (Below.refl _ _) nm hn)
  have HD := Lib.hid hbd
  clear h hn hbd
  go_enter Try.func23, Try.ntmps23
  go_wp2_with fail
  refine HG.out.mono ?_
  rintro e w1 ⟨g, a, b, c, rfl, hv, hb⟩
  have hblk := hv.blk
  have c2 : w1.cell? ⟨g, 1, none⟩ = some (.map b) := by simp [World.cell?, hblk]
  have HS := Lib.hid (sortedO52 hv.tgs HD.out)
  have HB := Lib.hid hb
  clear hblk hv hb
  go_wp2_with fail
  refine (keys52 b w1).mono ?_
  rintro e w2 ⟨rfl, rfl⟩
  go_wp2_with fail
  refine HS.out.mono ?_
  intro e w3 hp
  have hp2 := hp.from HB.out
  obtain ⟨v, rfl, hr, hb3⟩ := hp2
  have HR := Lib.hid hr
  have HB3 := Lib.hid hb3
  clear hp hr hb3
  go_wp2_with fail
  go_ret
  exact ⟨_, rfl, HR.out, HB3.out⟩
/-- The values of a key. -/
theorem View.vals {w : World} {g : Nat} {a b c : Option Nat} {μ : Me} (h : View w g a b c μ) (key : BA) : MapO w mapK (get μ.A key) (valsOf μ key) := by
  unfold valsOf
  cases hg : get μ.A key with
  | none => rfl
  | some kb => exact h.key _ (get_some hg)
theorem View.texts {w : World} {g : Nat} {a b c : Option Nat} {μ : Me} (h : View w g a b c μ) (key val : BA) : MapO w boolK (get (valsOf μ key) val) (textsOf μ key val) := by
  unfold textsOf
  cases hg : get (valsOf μ key) val with
  | none => rfl
  | some vb =>
    unfold valsOf at hg
    cases hk : get μ.A key with
    | none => rw [hk] at hg; cases hg
    | some kb =>
      rw [hk] at hg
      exact h.val _ (get_some hk) _ (get_some hg)
set_option maxRecDepth 100000 in
theorem values12 {w : World} {rv : Value} {μ : BA → Me} (h : Gets w rv μ) (nm key : BA) (hn : nm.size ≤ maxLen) (hk : key.size ≤ maxLen) (hbd : Bd (μ nm)) : Calls Try.prog 12 #[rv, .string nm, .string key] w (StrPost w ((valsOf (μ nm) key).map (·.1))) := by
  have HG := Lib.hid (h w (Below.refl _ _) nm hn)
  have HD := Lib.hid (hbd.V key)
  clear h hn hbd
  go_enter Try.func12, Try.ntmps12
  go_wp2_with fail
  refine HG.out.mono ?_
  rintro e w1 ⟨g, a, b, c, rfl, hv, hb⟩
  have hblk := hv.blk
  have c2 : w1.cell? ⟨g, 1, none⟩ = some (.map b) := by simp [World.cell?, hblk]
  have hl := look69 hv.tgs key hk
  have HS := Lib.hid (sortedO37 (hv.vals key) HD.out)
  have HB := Lib.hid hb
  clear hblk hv hb
  go_wp2_with fail
  refine (keys37 (get (μ nm).A key) w1).mono ?_
  rintro e w2 ⟨rfl, rfl⟩
  go_wp2_with fail
  refine HS.out.mono ?_
  intro e w3 hp
  have hp2 := hp.from HB.out
  obtain ⟨v, rfl, hr, hb3⟩ := hp2
  have HR := Lib.hid hr
  have HB3 := Lib.hid hb3
  clear hp hr hb3
  go_wp2_with fail
  go_ret
  exact ⟨_, rfl, HR.out, HB3.out⟩
theorem both_all {w : World} {a : Option Nat} {μ : Me} (h : MapO w serK a μ.ss) : Both μ (μ.ss.map (·.1)) (μ.ss.map fun p => p.2.sr) := by
  refine ⟨by simp, fun i t s ht hs => ?_⟩
  rw [List.getElem?_map] at ht hs
  cases hp : μ.ss[i]? with
  | none => rw [hp] at ht; cases ht
  | some p =>
    rw [hp] at ht hs
    cases ht; cases hs
    exact ⟨p.2, rising_get h.rising (List.mem_of_getElem? hp), rfl⟩
set_option maxRecDepth 100000 in
theorem all14 {w : World} {rv : Value} {μ : BA → Me} (h : Gets w rv μ) (nm : BA) (hn : nm.size ≤ maxLen) (hbd : Bd (μ nm)) : Calls Try.prog 14 #[rv, .string nm] w (SersPost w ((μ nm).ss.map fun p => p.2.sr)) := by
  have HG := Lib.hid (h w (Below.refl _ _) nm hn)
  have HD := Lib.hid hbd
  clear h hn hbd
  go_enter Try.func14, Try.ntmps14
  go_wp2_with fail
  refine HG.out.mono ?_
  rintro e w1 ⟨g, a, b, c, rfl, hv, hb⟩
  have hblk := hv.blk
  have c2 : w1.cell? ⟨g, 0, none⟩ = some (.map a) := by simp [World.cell?, hblk]
  have HS := Lib.hid (sortedO38 hv.ser HD.out.ss)
  have HB := Lib.hid hb
  have HV := Lib.hid hv
  clear hblk hv hb
  go_wp2_with fail
  refine (keys38 a w1).mono ?_
  rintro e w2 ⟨rfl, rfl⟩
  go_wp2_with fail
  refine HS.out.mono ?_
  rintro e w3 ⟨v, rfl, hr, hb3⟩
  have HX := Lib.hid (some33 (HV.out.later hb3) hr rfl (both_all HV.out.ser) (by rw [List.length_map]; exact HD.out.ss))
  have HB3 := Lib.hid (HB.out.trans (hb3.mono HB.out.size))
  clear hr hb3
  go_wp2_with fail
  refine HX.out.mono ?_
  intro e w4 hp
  have hp2 := hp.from HB3.out
  obtain ⟨v4, L4, rfl, hm4, hr4, hs4, hb4⟩ := hp2
  have HP := Lib.hid hm4
  have HR4 := Lib.hid hr4
  have HS4 := Lib.hid hs4
  have HB4 := Lib.hid hb4
  clear hp hm4 hr4 hs4 hb4
  go_wp2_with fail
  go_ret
  exact ⟨_, L4, rfl, HP.out, HR4.out, HS4.out, HB4.out⟩
end Go.Proofs.Ytobcpafalfdpkaa
