/- A disk goes on: what is left of each file. Conditions: its files' names, bytes and marks are in their bounds. -/
import Derived.Test.YtjkgcpbgacdgaaaL
namespace Go.Proofs.Ytjkgcpbgacdgaaa
open Go.RowKit Go.Sort
/-- A disk's files as the program leaves them. -/
def Good (L : List Ent) : Prop := ∀ e ∈ L, e.name.size ≤ 64 ∧ (∃ l : List UInt8, e.bs = Lib.byteCells l) ∧ e.bs.length ≤ 140737488355328 ∧ 0 ≤ e.syn ∧ e.syn ≤ e.bs.length
def rstV : Value → Nat → Value
  | .slice a _ c, n => .slice a n c
  | v, _ => v
def rstK (e : Ent) (c : Nat) : Nat := if e.syn < e.bs.length then e.syn.toNat + c % (e.bs.length - e.syn.toNat + 1) else e.bs.length
def rstOne (e : Ent) (c : Nat) : Ent := ⟨e.name, e.f, rstV e.v (rstK e c), e.bs.take (rstK e c), (rstK e c : Nat)⟩
def rst : List UInt8 → List Ent → List Ent
  | _, [] => []
  | cs, e :: r => rstOne e (cs.headD 0).toNat :: rst (if e.syn < e.bs.length then cs.drop 1 else cs) r
theorem look_here {w : World} {S : Nat → Prop} {d m : Nat} {A B : List Ent} {e : Ent} {room fuse : Int} {down : Bool} (h : DiskAt w S d m (A ++ e :: B) room fuse down) : look (A ++ e :: B) e.name = some e := by
  have hn := h.names
  rw [List.pairwise_append] at hn
  obtain ⟨_, _, h3⟩ := hn
  unfold look
  rw [List.find?_append]
  have : A.find? (fun x => x.name.data.toList == e.name.data.toList) = none := by
    rw [List.find?_eq_none]
    intro x hx
    have := h3 x hx e (by simp)
    intro he
    apply this
    simp at he
    simp [key, he]
  rw [this]
  simp
theorem slice_tail (ad : Addr) (n c : Nat) (hn : 1 ≤ n) (hc : n ≤ c) : ∃ a' : Addr, a'.block = ad.block ∧ (∀ i, i + 1 < n → a'.add i = ad.add (i + 1)) ∧ ∀ w, (Instr.slice 23 (.slice (some ad) n c) (some (.int .i64 1)) none none).run Try.prog w = .ok (.slice (some a') (n - 1) (c - 1)) w := by
  refine ⟨if c = 1 then ad else ad.add 1, ?_, ?_, ?_⟩
  · split
    · rfl
    · exact add_block _ _
  · intro i hi
    rw [if_neg (by omega)]
    unfold Addr.add
    by_cases h0 : i = 0 <;> simp [h0] <;> omega
  · intro w
    have h1 : ¬ (n : Int) < 1 := by omega
    simp [Instr.slice, Instr.sliceBounds, Instr.sliceBound, asIntOf, go_sem]
    rw [if_pos (by omega)]
    by_cases hc1 : c = 1 <;> simp [hc1]
theorem run_slice_to (a : Option Addr) (n c j : Nat) (z : Int) (hz : z = (j : Int)) (hc : j ≤ c) : ∀ w, (Instr.slice 23 (.slice a n c) none (some (.int .i64 z)) none).run Try.prog w = .ok (.slice a j c) w := by
  intro w
  subst hz
  have h1 : ¬ (c : Int) < j := by omega
  simp [Instr.slice, Instr.sliceBounds, Instr.sliceBound, asIntOf, go_sem]
  omega
theorem Loose.short {w : World} {a : Option Addr} {n c j : Nat} {xs : List Value} (h : Loose w 5 (.slice a n c) xs) (hj : j ≤ xs.length) : Loose w 5 (.slice a j c) (xs.take j) := by
  have hl : (xs.take j).length = j := by simp; omega
  rcases h with ⟨hv, hx⟩ | ⟨g, cap', cur, hv, hg, h1, h2, h3, h4⟩
  · injection hv with e1 e2 e3
    subst e1 e3 hx
    simp at hj
    subst hj
    exact .inl ⟨rfl, rfl⟩
  · injection hv with e1 e2 e3
    subst e1 e3
    refine .inr ⟨g, c, cur, by rw [hl], hg, by omega, h2, h3, ?_⟩
    rw [hl, ← h4, List.take_take]
    congr 1
    omega
/-- The loop of Restart: A is done, B is still to be done. -/
def InRst (L : List Ent) (cs0 : List UInt8) (d m : Nat) (room fuse : Int) (down : Bool) (w w0 : World) (S : Nat → Prop) (u1 i : Value) (wr : World) : Prop :=
  ∃ (A B : List Ent) (cs : List UInt8), i = .int .i64 ((A.length : Nat) : Int) ∧ rst cs0 L = A ++ rst cs B ∧ (nameL L = nameL A ++ nameL B) ∧ Good B ∧ L.length = A.length + B.length ∧ DiskAt wr S d m (A ++ B) room fuse down ∧ Turns S w0 wr ∧ wr.heap.size = w0.heap.size ∧ SrcAt wr S u1 (Lib.byteCells cs)
theorem rstK_le (e : Ent) (c : Nat) (h0 : 0 ≤ e.syn) (h1 : e.syn ≤ e.bs.length) : rstK e c ≤ e.bs.length := by
  unfold rstK
  split
  · have := Nat.mod_lt c (show 0 < e.bs.length - e.syn.toNat + 1 by omega)
    omega
  · exact Nat.le_refl _
theorem rstV_own {v : Value} {n : Nat} {g : Nat} (h : (rstV v n).ownBlock = some g) : v.ownBlock = some g := by
  cases v <;> try exact h
  rename_i a _ _
  cases a <;> exact h
theorem src_tail {w : World} {S : Nat → Prop} {ad : Addr} {n c : Nat} {x : Value} {xs : List Value} (h : SrcAt w S (.slice (some ad) (n + 1) c) (x :: xs)) :
    SrcAt w S (.slice (if c = 1 then some ad else some { block := ad.block, off := ad.off + 1 }) n (c - 1)) xs := by
  rcases h with ⟨h1, h2⟩ | ⟨ad', cc, h1, h2, h3, h4, h5, h6⟩
  · cases h2
  · injection h1 with h1 h1' h1''
    injection h1 with h1
    subst h1 h1''
    simp only [List.length_cons] at h1' h2
    have hn : n = xs.length := by omega
    subst hn
    refine .inr ⟨if c = 1 then ad else ad.add 1, c - 1, ?_, by omega, ?_, ?_, ?_, fun u hu => h6 u (by simp [hu])⟩
    · by_cases hc : c = 1 <;> simp [hc, Addr.add]
    · by_cases hc : c = 1
      · rw [if_pos hc]; exact fun _ => h3 (by simp)
      · rw [if_neg hc, add_block]; exact fun _ => h3 (by simp)
    · by_cases hc : c = 1
      · rw [if_pos hc]; exact fun _ => h4 (by simp)
      · rw [if_neg hc, add_block]; exact fun _ => h4 (by simp)
    · intro j u hj
      have hj' : j < xs.length := by
        rcases Nat.lt_or_ge j xs.length with h | h
        · exact h
        · rw [List.getElem?_eq_none h] at hj; cases hj
      rw [if_neg (by omega)]
      have := h5 (j + 1) u (by simpa using hj)
      have e1 : (ad.add 1).add j = ad.add (j + 1) := by
        unfold Addr.add
        by_cases h0 : j = 0 <;> simp [h0] <;> omega
      rw [e1]; exact this
theorem put0 (w : World) (n f : Nat) (u v : Value) (s : Int) (hf : w.heap[f]? = some (.cells #[u, .int .i64 s] 82 (0, 0))) :
    OnlyD f w ((w.drewN n).setCell ⟨f, 0, none⟩ v) ∧ ((w.drewN n).setCell ⟨f, 0, none⟩ v).heap[f]? = some (.cells #[v, .int .i64 s] 82 (0, 0)) := by
  refine ⟨onlyD_set (w.drewN n) f 0 v, ?_⟩
  have := heap_setCell_same (w.drewN n) f 0 _ _ v hf
  rw [this]; rfl
theorem put1 (w : World) (n f : Nat) (u : Value) (s z : Int) (hf : w.heap[f]? = some (.cells #[u, .int .i64 s] 82 (0, 0))) :
    OnlyD f w ((w.drewN n).setCell ⟨f, 1, none⟩ (.int .i64 z)) ∧ ((w.drewN n).setCell ⟨f, 1, none⟩ (.int .i64 z)).heap[f]? = some (.cells #[u, .int .i64 z] 82 (0, 0)) := by
  refine ⟨onlyD_set (w.drewN n) f 1 _, ?_⟩
  have := heap_setCell_same (w.drewN n) f 1 _ _ (.int .i64 z) hf
  rw [this]; rfl
theorem OnlyD.trans {d : Nat} {a b c : World} (h : OnlyD d a b) (k : OnlyD d b c) : OnlyD d a c :=
  ⟨k.1.trans h.1, k.2.1.trans h.2.1, k.2.2.1.trans h.2.2.1, k.2.2.2.1.trans h.2.2.2.1, fun x hx => (k.2.2.2.2 x hx).trans (h.2.2.2.2 x hx)⟩
theorem InRst.step {L : List Ent} {cs0 : List UInt8} {d m : Nat} {room fuse : Int} {down : Bool} {w w0 : World} {S : Nat → Prop} {A B : List Ent} {e : Ent} {cs cs' : List UInt8} {wr w' : World} {u : Value}
    (hrst : rst cs0 L = A ++ rst cs (e :: B)) (hnm : nameL L = nameL A ++ nameL (e :: B)) (hgood : Good (e :: B)) (hlen : L.length = A.length + (e :: B).length) (hd : DiskAt wr S d m (A ++ e :: B) room fuse down) (ht : Turns S w0 wr) (hsz : wr.heap.size = w0.heap.size)
    (k : Nat) (hk : k = rstK e (cs.headD 0).toNat) (hcs : cs' = if e.syn < e.bs.length then cs.drop 1 else cs) (hsr : SrcAt wr S u (Lib.byteCells cs'))
    (hf : w'.heap[e.f]? = some (.cells #[rstV e.v k, .int .i64 (k : Nat)] 82 (0, 0))) (ho : OnlyD e.f wr w') :
    InRst L cs0 d m room fuse down w w0 S u (.int .i64 (((A.length : Nat) : Int) + 1)) w' := by
  obtain ⟨hsz1, _, hbs, hsy0, hsy1⟩ := hgood e (by simp)
  have hkl : k ≤ e.bs.length := by rw [hk]; exact rstK_le e _ hsy0 hsy1
  have hfl := hd.file e (by simp)
  have hmn := hd.mine e (by simp)
  have ht2 : Turns S wr w' := ho.turns hmn.1
  refine ⟨A ++ [rstOne e (cs.headD 0).toNat], B, cs', by simp, ?_, ?_, ?_, by simp at hlen ⊢; omega, ?_, ht.trans ht2 (fun _ h => .inl h), by rw [ho.2.2.2.1, hsz], hsr.kept ht2⟩
  · rw [hrst, rst, hcs]; simp
  · rw [hnm]; simp [nameL, rstOne]
  · intro x hx; exact hgood x (by simp [hx])
  · have key := hd.turn (w' := w') (S' := S) (rstV e.v k) (e.bs.take k) (k : Nat) hf ?_ (fun _ h => h) (fun g hg => hmn.2 g (rstV_own hg)) (fun g hg => .inl (rstV_own hg)) (fun x _ hx _ => ho.2.2.2.2 x hx)
    · have e1 : rstOne e (cs.headD 0).toNat = ⟨e.name, e.f, rstV e.v k, e.bs.take k, (k : Nat)⟩ := by rw [hk]; rfl
      rw [e1]
      simpa using key
    · have hl := hfl.2
      obtain ⟨a, c, hv⟩ : ∃ a c, e.v = .slice a e.bs.length c := by
        rcases hl with ⟨hv, hx⟩ | ⟨g', c', cur, hv, _⟩
        · exact ⟨none, 0, by rw [hv, hx]; rfl⟩
        · exact ⟨_, _, hv⟩
      have e1 : rstV e.v k = .slice a k c := by rw [hv]; rfl
      rw [e1]
      rw [hv] at hl
      refine (hl.short hkl).same fun g hg => ho.2.2.2.2 g ?_
      rintro rfl
      have h1 : (Value.slice a e.bs.length c).ownBlock = some e.f := by cases a <;> exact hg
      obtain ⟨cur, fz, hc⟩ := hl.cells h1
      rw [hfl.1] at hc
      simp at hc
set_option maxRecDepth 100000 in
set_option maxHeartbeats 1000000 in
theorem restart (w : World) (S : Nat → Prop) (d m : Nat) (L : List Ent) (room fuse : Int) (down : Bool) (src : Value) (cs : List UInt8) (hS : ∀ k, S k → k < w.heap.size) (h : DiskAt w S d m L room fuse down) (hG : Good L) (hn : L.length ≤ 8000000000000) (hsrc : SrcAt w S src (Lib.byteCells cs)) :
    Calls Try.prog 23 #[.pointer (some ⟨d, 0, none⟩), src] w fun e w' => e = .returned (.tuple #[]) ∧ Turns S w w' ∧ DiskAt w' S d m (rst cs L) room (-1) false := by
  have hb := h.blk
  have c0 : w.cell? ⟨d, 0, none⟩ = some (.map (some m)) := by simp [World.cell?, hb]
  have HH := Lib.hid h
  have HG := Lib.hid hG
  have HSRC := Lib.hid hsrc
  have HSS := Lib.hid hS
  clear h hb hG hsrc hS
  go_enter Try.func23, Try.ntmps23
  go_wp2_with fail
  with_reducible refine (keys49 m _).mono ?_
  rintro e w1 ⟨rfl, rfl⟩
  go_wp2_with fail
  refine (sortedKeys _ S d m L room fuse down HH.out hn).mono ?_
  rintro e w1 ⟨v, rfl, hrow, hb⟩
  obtain ⟨a, cap, rfl⟩ : ∃ a cap, v = .slice a L.length cap := by
    rcases hrow.2 with ⟨rfl, h0⟩ | ⟨g, cap, cur, rfl, _⟩
    · exact ⟨none, 0, by rw [h0]⟩
    · exact ⟨_, cap, rfl⟩
  have HR := Lib.hid hrow
  have HB := Lib.hid hb
  have hsz := hb.size
  have HD1 := Lib.hid (HH.out.later hb)
  have HSRC1 := Lib.hid (HSRC.out.kept (Turns.of_below hb))
  obtain ⟨n, hnl⟩ : ∃ n, L.length = n := ⟨_, rfl⟩
  rw [hnl] at hn ⊢
  have HN := Lib.hid hnl
  clear hrow hb hnl
  go_wp2_with fail
  go_loopw [1, 18] (fun u1 i wr => InRst L cs d m room fuse down w w1 S u1 i wr) (fun _ i _ => n - (intOf i).toNat)
  case atStart => exact ⟨[], L, cs, rfl, rfl, rfl, HG.out, by simp, HD1.out, Turns.refl _ _, rfl, HSRC1.out⟩
  case round =>
    obtain ⟨A, B, cs', rfl, hrst, hnm, hgood, hlen, hd, ht, hsz1, hsr⟩ := hrel
    have HD := Lib.hid hd
    have HT := Lib.hid ht
    have HSR := Lib.hid hsr
    have HRS := Lib.hid hrst
    have HNM := Lib.hid hnm
    have HGD := Lib.hid hgood
    have HLN := Lib.hid hlen
    rw [HN.out] at hlen
    have c0 : wr.cell? ⟨d, 0, none⟩ = some (.map (some m)) := by simp [World.cell?, hd.blk]
    cases B with
    | cons e B =>
      have hlt : A.length < n := by simp at hlen; omega
      obtain ⟨g, cap', hv, hg1, hg2⟩ := HR.out.form (by rw [HN.out]; omega)
      cases hv
      have hng : ¬ S g := fun hs => by have := HSS.out g hs; omega
      have cN : wr.cell? ⟨g, A.length, none⟩ = some (.string e.name) := by
        refine ht.cell ?_ hng
        rw [HR.out.cellAt A.length (by rw [HN.out]; omega), hnm]
        simp [nameL, encStr]
      obtain ⟨hsz, ⟨bl, hbl⟩, hbs, hsy0, hsy1⟩ := hgood e (by simp)
      have hl := hd.lookup e.name (by unfold maxLen; omega)
      rw [look_here hd] at hl
      simp only [ptrOf] at hl
      obtain ⟨hf1, hf2⟩ := hd.file e (by simp)
      have f0 : wr.cell? ⟨e.f, 0, none⟩ = some e.v := by simp [World.cell?, hf1]
      have f1 : wr.cell? ⟨e.f, 1, none⟩ = some (.int .i64 e.syn) := by simp [World.cell?, hf1]
      have z0 : wr.frozen? ⟨e.f, 0, none⟩ = false := by simp [World.frozen?, hf1]
      have z1 : wr.frozen? ⟨e.f, 1, none⟩ = false := by simp [World.frozen?, hf1]
      obtain ⟨av, cv, hv, hcv⟩ : ∃ av cv, e.v = .slice av e.bs.length cv ∧ e.bs.length ≤ cv := by
        rcases hf2 with ⟨hv, hx⟩ | ⟨g', c', cur, hv, _, h1, _⟩
        · exact ⟨none, 0, by rw [hv, hx]; rfl, by rw [hx]; exact Nat.le_refl _⟩
        · exact ⟨_, _, hv, h1⟩
      rw [hv] at f0
      obtain ⟨y, hy⟩ : ∃ y : Nat, e.syn = (y : Int) := ⟨e.syn.toNat, by omega⟩
      rw [hy] at f1 hsy1
      obtain ⟨N, hN⟩ : ∃ N, e.bs.length = N := ⟨_, rfl⟩
      rw [hN] at f0 hbs hsy1 hcv
      obtain ⟨un, hun⟩ : ∃ un : Nat, (N : Int) - (y : Int) = (un : Int) := ⟨N - y, by omega⟩
      have hi0 : (0 : Int) ≤ (A.length : Int) := by omega
      have hi1 : (A.length : Int) < (n : Int) := by omega
      have HF1 := Lib.hid hf1
      have HF2 := Lib.hid hf2
      have HV := Lib.hid hv
      have HY := Lib.hid hy
      have HNN := Lib.hid hN
      have HBL := Lib.hid hbl
      clear hd ht hsr hrst hnm hgood hlen hf1 hf2 hv hy hN hbl hsy0
      go_wp2_with fail
      go_quiet (fail)
      have hl2 : ¬ (0 : Int) < (un : Int) ∨ (0 : Int) < (un : Int) := by omega
      by_cases hu : y < N
      · have hu' : (0 : Int) < (un : Int) := by omega
        clear hl2
        obtain ⟨sa, sc, rfl, hsc⟩ := HSR.out.form
        cases cs' with
        | nil =>
          have hcl : ((Lib.byteCells []).length : Int) = 0 := by simp [Lib.byteCells]
          go_wp2_with fail
          have hsl := run_slice_to av N cv y (y : Int) rfl (by omega)
          have hub : (un : Int) ≤ 140737488355328 := by omega
          have hyb : (y : Int) ≤ 140737488355328 := by omega
          go_region
          obtain ⟨wz, hwz⟩ : ∃ wz, (wr.drewN (nq + 1)).setCell ⟨e.f, 0, none⟩ (.slice av y cv) = wz := ⟨_, rfl⟩
          rw [hwz]
          obtain ⟨ho1, hz1⟩ := put0 wr (nq + 1) e.f e.v (.slice av y cv) e.syn HF1.out
          rw [hwz] at ho1 hz1
          have g0 : wz.cell? ⟨e.f, 0, none⟩ = some (.slice av y cv) := by simp [World.cell?, hz1]
          have g1 : wz.frozen? ⟨e.f, 1, none⟩ = false := by simp [World.frozen?, hz1]
          have g2 : wz.cell? ⟨e.f, 1, none⟩ = some (.int .i64 e.syn) := by simp [World.cell?, hz1]
          have HO1 := Lib.hid ho1
          have HZ1 := Lib.hid hz1
          clear hwz ho1 hz1
          go_wp2_with fail
          obtain ⟨ho2, hz2⟩ := put1 wz 0 e.f (.slice av y cv) e.syn y HZ1.out
          refine ⟨?_, by simp [intOf]; omega⟩
          refine InRst.step HRS.out HNM.out HGD.out HLN.out HD.out HT.out hsz1 y ?_ ?_ HSR.out ?_ (HO1.out.trans ho2)
          · simp [rstK, HY.out, HNN.out, hu]
          · simp
          · rw [HV.out]; exact hz2
        | cons c cs'' =>
          rcases HSR.out with ⟨h1, h2⟩ | ⟨ad, cc, h1, h2, h3, h4, h5, h6⟩
          · simp [Lib.byteCells] at h2
          · injection h1 with h1 h1' h1''
            subst h1 h1''
            obtain ⟨a', ha1, ha2, hst⟩ := slice_tail ad (Lib.byteCells (c :: cs'')).length sc (by simp [Lib.byteCells]) hsc
            have hc0 : wr.cell? ad = some (.int .u8 (c.toNat : Int)) := by
              have := h5 0 (.int .u8 (c.toNat : Int)) (by simp [Lib.byteCells])
              simpa [Addr.add] using this
            have hcl : (0 : Int) < ((Lib.byteCells (c :: cs'')).length : Int) := by simp [Lib.byteCells]
            obtain ⟨cl, hcl2⟩ : ∃ cl, (Lib.byteCells (c :: cs'')).length = cl := ⟨_, rfl⟩
            rw [hcl2] at hst hcl ⊢
            have HST2 := Lib.hid hcl2
            have H5 := Lib.hid h5
            have H6 := Lib.hid h6
            clear h5 h6 hcl2 hsc
            obtain ⟨r, hr⟩ : ∃ r : Nat, (c.toNat : Int) % ((un : Int) + 1) = (r : Int) := ⟨c.toNat % (un + 1), by rw [Int.natCast_emod]; rfl⟩
            have hrn : c.toNat % (un + 1) = r := by
              have : ((c.toNat % (un + 1) : Nat) : Int) = (r : Int) := by rw [← hr, Int.natCast_emod]; rfl
              omega
            have hrb : r ≤ un := by have := Nat.mod_lt c.toNat (show 0 < un + 1 by omega); omega
            have HRN := Lib.hid hrn
            clear hrn
            go_wp2_with fail
            have hsl := run_slice_to av N cv (y + r) ((y : Int) + (r : Int)) (by omega) (by omega)
            have hub : (un : Int) ≤ 140737488355328 := by omega
            have hyb : (y : Int) ≤ 140737488355328 := by omega
            have hrb' : (r : Int) ≤ 140737488355328 := by omega
            clear hst
            have hcu : wrap64 (c.toNat : Int) = (c.toNat : Int) := by
              have := c.toNat_lt
              unfold wrap64; omega
            go_region
            rw [hcu]
            have hu1 : SrcAt wr S (.slice (if sc = 1 then some ad else some { block := ad.block, off := ad.off + 1 }) (cl - 1) (sc - 1)) (Lib.byteCells cs'') := by
              have h7 := HSR.out
              have h8 := HST2.out
              refine src_tail (x := .int .u8 c.toNat) ?_
              have h9 : cl - 1 + 1 = (Lib.byteCells (c :: cs'')).length := by rw [h8]; omega
              rw [h9]
              exact h7
            obtain ⟨sl, hsl2⟩ : ∃ sl : Option Addr, (if sc = 1 then some ad else some { block := ad.block, off := ad.off + 1 }) = sl := ⟨_, rfl⟩
            rw [hsl2] at hu1 ⊢
            have HU1 := Lib.hid hu1
            clear hsl2 hu1
            go_wp2_with fail
            go_region
            obtain ⟨wz, hwz⟩ : ∃ wz, (wr.drewN (nq + 1 + 1)).setCell ⟨e.f, 0, none⟩ (.slice av (y + r) cv) = wz := ⟨_, rfl⟩
            rw [hwz]
            obtain ⟨ho1, hz1⟩ := put0 wr (nq + 1 + 1) e.f e.v (.slice av (y + r) cv) e.syn HF1.out
            rw [hwz] at ho1 hz1
            have g0 : wz.cell? ⟨e.f, 0, none⟩ = some (.slice av (y + r) cv) := by simp [World.cell?, hz1]
            have g1 : wz.frozen? ⟨e.f, 1, none⟩ = false := by simp [World.frozen?, hz1]
            have g2 : wz.cell? ⟨e.f, 1, none⟩ = some (.int .i64 e.syn) := by simp [World.cell?, hz1]
            have HO1 := Lib.hid ho1
            have HZ1 := Lib.hid hz1
            clear hwz ho1 hz1
            go_wp2_with fail
            obtain ⟨ho2, hz2⟩ := put1 wz 0 e.f (.slice av (y + r) cv) e.syn ((y + r : Nat) : Int) HZ1.out
            refine ⟨?_, by simp [intOf]; omega⟩
            refine InRst.step HRS.out HNM.out HGD.out HLN.out HD.out HT.out hsz1 (y + r) ?_ ?_ HU1.out ?_ (HO1.out.trans ho2)
            · have h8 := HRN.out
              have h9 : N - y = un := by omega
              simp [rstK, HY.out, HNN.out, hu, h9, h8]
            · simp [HY.out, HNN.out, hu]
            · rw [HV.out]; exact hz2
      · have hu' : ¬ (0 : Int) < (un : Int) := by omega
        clear hl2
        go_wp2_with fail
        obtain ⟨ho2, hz2⟩ := put1 wr nq e.f e.v e.syn N HF1.out
        refine ⟨?_, by simp [intOf]; omega⟩
        refine InRst.step HRS.out HNM.out HGD.out HLN.out HD.out HT.out hsz1 N ?_ ?_ HSR.out ?_ ho2
        · simp [rstK, HY.out, HNN.out, hu]
        · simp [HY.out, HNN.out, hu]
        · rw [HV.out] at hz2 ⊢; rw [HNN.out] at hz2; exact hz2
    | nil =>
      have hlt : A.length = n := by simp at hlen; omega
      obtain ⟨k, hk⟩ : ∃ k, A.length = k := ⟨_, rfl⟩
      have hdb := hd.blk
      have c1 : wr.cell? ⟨d, 1, none⟩ = some (.int .i64 room) := by simp [World.cell?, hdb]
      have c2 : wr.cell? ⟨d, 2, none⟩ = some (.int .i64 fuse) := by simp [World.cell?, hdb]
      have c3 : wr.cell? ⟨d, 3, none⟩ = some (.bool down) := by simp [World.cell?, hdb]
      have z2 : wr.frozen? ⟨d, 2, none⟩ = false := by simp [World.frozen?, hdb]
      have z3 : wr.frozen? ⟨d, 3, none⟩ = false := by simp [World.frozen?, hdb]
      clear hd ht hsr hrst hnm hgood hlen hdb
      rw [hlt]
      go_wp2_with fail
      go_end0
      have hD := HD.out
      have o1 := onlyD_set wr d 3 (.bool false)
      have b1 := heap_setCell_same wr d 3 _ _ (.bool false) hD.blk
      have o2 := onlyD_set (wr.setCell ⟨d, 3, none⟩ (.bool false)) d 2 (.int .i64 (-1))
      have b2 := heap_setCell_same _ d 2 _ _ (.int .i64 (-1)) b1
      have o := o1.trans o2
      refine ⟨rfl, (Turns.of_below HB.out).trans (HT.out.trans (o.turns hD.here.1) (fun _ h => .inl h)) (fun _ h => .inl h), ?_⟩
      have e1 : rst cs L = A ++ [] := by rw [HRS.out]; cases cs' <;> rfl
      rw [e1]
      exact hD.set (by rw [b2]; rfl) o.2.2.2.2
end Go.Proofs.Ytjkgcpbgacdgaaa
