/- Several texts of this proof, laid together. Conditions: as each says. -/
import Derived.Test.YtigicmnngppipaaGreatDoorFAF
import Derived.Test.YtigicmnngppipaaGreatDoorFAS
import Derived.Lib.Strings
import Derived.WalkLawsBesides
import Derived.Laws.NewBlocks
/- What a text is parsed as: the plain law of statements. No condition. -/
namespace Go.Proofs.YtigicmnngppipaaGreatDoor.Tp
open Go.RowKit Lx
set_option maxRecDepth 100000
abbrev Val := Int × Int × ByteArray
def val0 : Val := (0, 0, ⟨#[]⟩)
/-- A condition. -/
inductive Cd where
  | mk (op : Int) (name sign : ByteArray) (v : Val) (parts : List Cd)
def Cd.op : Cd → Int
  | .mk o _ _ _ _ => o
def Cd.parts : Cd → List Cd
  | .mk _ _ _ _ p => p
def cd0 : Cd := .mk 0 ⟨#[]⟩ ⟨#[]⟩ val0 []
/-- A statement, but for the queries in it. -/
structure S0 where
  kind : Int
  all : Bool
  items : List (ByteArray × ByteArray)
  into : ByteArray
  frm : ByteArray
  whr : List Cd
  window : Int
  tags : List ByteArray
  fill : Int
  number : Val
  desc : Bool
  limit : Int
  offset : Int
  name : ByteArray
inductive St where
  | mk (s : S0) (query : List St)
def s0 : S0 := ⟨0, false, [], ⟨#[]⟩, ⟨#[]⟩, [], 0, [], 0, val0, false, 0, 0, ⟨#[]⟩⟩
def St.s : St → S0
  | .mk s _ => s
def St.query : St → List St
  | .mk _ q => q
abbrev Res (α : Type) := Except (List Tok) (α × List Tok)
def wSELECT : ByteArray := ⟨#[83, 69, 76, 69, 67, 84]⟩
def wINTO : ByteArray := ⟨#[73, 78, 84, 79]⟩
def wFROM : ByteArray := ⟨#[70, 82, 79, 77]⟩
def wWHERE : ByteArray := ⟨#[87, 72, 69, 82, 69]⟩
def wGROUP : ByteArray := ⟨#[71, 82, 79, 85, 80]⟩
def wBY : ByteArray := ⟨#[66, 89]⟩
def wTIME : ByteArray := ⟨#[84, 73, 77, 69]⟩
def wFILL : ByteArray := ⟨#[70, 73, 76, 76]⟩
def wNONE : ByteArray := ⟨#[78, 79, 78, 69]⟩
def wNULL : ByteArray := ⟨#[78, 85, 76, 76]⟩
def wPREVIOUS : ByteArray := ⟨#[80, 82, 69, 86, 73, 79, 85, 83]⟩
def wORDER : ByteArray := ⟨#[79, 82, 68, 69, 82]⟩
def wDESC : ByteArray := ⟨#[68, 69, 83, 67]⟩
def wLIMIT : ByteArray := ⟨#[76, 73, 77, 73, 84]⟩
def wOFFSET : ByteArray := ⟨#[79, 70, 70, 83, 69, 84]⟩
def wDELETE : ByteArray := ⟨#[68, 69, 76, 69, 84, 69]⟩
def wDROP : ByteArray := ⟨#[68, 82, 79, 80]⟩
def wMEASUREMENT : ByteArray := ⟨#[77, 69, 65, 83, 85, 82, 69, 77, 69, 78, 84]⟩
def wSHOW : ByteArray := ⟨#[83, 72, 79, 87]⟩
def wMEASUREMENTS : ByteArray := ⟨#[77, 69, 65, 83, 85, 82, 69, 77, 69, 78, 84, 83]⟩
def wSERIES : ByteArray := ⟨#[83, 69, 82, 73, 69, 83]⟩
def wTAG : ByteArray := ⟨#[84, 65, 71]⟩
def wKEYS : ByteArray := ⟨#[75, 69, 89, 83]⟩
def wVALUES : ByteArray := ⟨#[86, 65, 76, 85, 69, 83]⟩
def wKEY : ByteArray := ⟨#[75, 69, 89]⟩
def wFIELD : ByteArray := ⟨#[70, 73, 69, 76, 68]⟩
def wCREATE : ByteArray := ⟨#[67, 82, 69, 65, 84, 69]⟩
def wQUERY : ByteArray := ⟨#[81, 85, 69, 82, 89]⟩
def wBEGIN : ByteArray := ⟨#[66, 69, 71, 73, 78]⟩
def wEND : ByteArray := ⟨#[69, 78, 68]⟩
def wQUERIES : ByteArray := ⟨#[81, 85, 69, 82, 73, 69, 83]⟩
def wAND : ByteArray := ⟨#[65, 78, 68]⟩
def wOR : ByteArray := ⟨#[79, 82]⟩
def wTRUE : ByteArray := ⟨#[84, 82, 85, 69]⟩
def wFALSE : ByteArray := ⟨#[70, 65, 76, 83, 69]⟩
def wCOUNT : ByteArray := ⟨#[67, 79, 85, 78, 84]⟩
def wSUM : ByteArray := ⟨#[83, 85, 77]⟩
def wMEAN : ByteArray := ⟨#[77, 69, 65, 78]⟩
def wMIN : ByteArray := ⟨#[77, 73, 78]⟩
def wMAX : ByteArray := ⟨#[77, 65, 88]⟩
def wFIRST : ByteArray := ⟨#[70, 73, 82, 83, 84]⟩
def wLAST : ByteArray := ⟨#[76, 65, 83, 84]⟩
def wWAVE : ByteArray := ⟨#[87, 65, 86, 69]⟩
def wOpen : ByteArray := ⟨#[40]⟩
def wClose : ByteArray := ⟨#[41]⟩
def wComma : ByteArray := ⟨#[44]⟩
def wStar : ByteArray := ⟨#[42]⟩
def kws : List ByteArray := [wSELECT, wINTO, wFROM, wWHERE, wGROUP, wBY, wTIME, wFILL, wNONE, wNULL, wPREVIOUS, wORDER, wDESC, wLIMIT, wOFFSET, wDELETE, wDROP, wMEASUREMENT, wSHOW, wMEASUREMENTS, wSERIES, wTAG, wKEYS, wVALUES, wKEY, wFIELD, wCREATE, wQUERY, wBEGIN, wEND, wQUERIES, wAND, wOR, wTRUE, wFALSE]
def fns : List ByteArray := [wCOUNT, wSUM, wMEAN, wMIN, wMAX, wFIRST, wLAST, wWAVE]
def inL (l : List ByteArray) (s : ByteArray) : Bool := l.any fun x => decide (x = s)
def kwB (s : ByteArray) : Bool := inL kws s || inL fns s
def tokIs (w : ByteArray) (t : Tok) : Bool := decide (t.2.1 = w) && (decide (t.1 = 1) || decide (t.1 = 5))
def takeAll : List ByteArray → List Tok → Except (List Tok) (List Tok)
  | [], ts => .ok ts
  | w :: ws, t :: r => if tokIs w t then takeAll ws r else .error (t :: r)
  | _ :: _, [] => .error []
/-- Words, if the first of them is next. -/
def hasP (w : ByteArray) (ws : List ByteArray) : List Tok → Res Bool
  | [] => .ok (false, [])
  | t :: r => if tokIs w t then (match takeAll ws r with | .ok q => .ok (true, q) | .error q => .error q) else .ok (false, t :: r)
def nameOk (t : Tok) : Bool := (decide (t.1 = 2) || (decide (t.1 = 1) && !kwB t.2.1)) && Ser.nameB t.2.1.data.toList
def nameP : List Tok → Res ByteArray
  | [] => .error []
  | t :: r => if nameOk t then .ok (t.2.1, r) else .error (t :: r)
def u64 (n : Int) : Int := IntKind.wrap .u64 n
def valF : Value → Val
  | .agg xs => (match xs.toList with
    | [.int _ k, .int _ b, .string t] => (k, b, t)
    | _ => (0, 0, ⟨#[]⟩))
  | _ => (0, 0, ⟨#[]⟩)
/-- A number's value; none: none is next. -/
def numV (V : List UInt8 → Value × Int) (t : Tok) : Option Val :=
  if t.1 = 3 then (if t.2.1.data.toList.contains 46 then some (valF (V t.2.1.data.toList).1) else match Lib.parseIntB 64 t.2.1.data.toList with | .ok n => some (2, u64 n, ⟨#[]⟩) | _ => none) else none
def numP (V : List UInt8 → Value × Int) : List Tok → Option (Val × List Tok)
  | [] => none
  | t :: r => (numV V t).map fun v => (v, r)
def intOk (least top : Int) (t : Tok) : Option Int :=
  match Lib.parseIntB 64 t.2.1.data.toList with
  | .ok n => if t.1 = 3 ∧ least ≤ n ∧ n ≤ top then some n else none
  | _ => none
def intP (least top : Int) : List Tok → Res Int
  | [] => .error []
  | t :: r => match intOk least top t with | some n => .ok (n, r) | none => .error (t :: r)
def signOk (t : Tok) : Bool := decide (t.1 = 5) && Lib.containsAny t.2.1.data.toList [61, 60, 62]
def signP : List Tok → Res ByteArray
  | [] => .error []
  | t :: r => if signOk t then .ok (t.2.1, r) else .error (t :: r)
def flatC (op : Int) (parts : List Cd) : List Cd := parts.flatMap fun c => if c.op = op then c.parts else [c]
def joinC (op : Int) (parts : List Cd) : Cd := match flatC op parts with
  | [c] => c
  | l => .mk op ⟨#[]⟩ ⟨#[]⟩ val0 l
/-- What a test is held against. -/
def rightP (V : List UInt8 → Value × Int) (name sign : ByteArray) : List Tok → Res Cd
  | [] => .error []
  | t :: r => if t.1 = 4 then .ok (.mk 3 name sign (4, 0, t.2.1) [], r)
    else if tokIs wTRUE t then .ok (.mk 3 name sign (3, 1, ⟨#[]⟩) [], r)
    else if tokIs wFALSE t then .ok (.mk 3 name sign (3, 0, ⟨#[]⟩) [], r)
    else match numV V t with | some v => .ok (.mk 3 name sign v [], r) | none => .error (t :: r)
def timeP (ts : List Tok) : Res Cd := match signP ts with
  | .error q => .error q
  | .ok (s, r) => match intP (-9223372036854775808) 9223372036854775807 r with
    | .error q => .error q
    | .ok (n, r) => .ok (.mk 4 ⟨#[]⟩ s (2, u64 n, ⟨#[]⟩) [], r)
def leafP (V : List UInt8 → Value × Int) (ts : List Tok) : Res Cd := match nameP ts with
  | .error q => .error q
  | .ok (n, r) => match signP r with
    | .error q => .error q
    | .ok (s, r) => rightP V n s r
def isOpen (t : Tok) : Bool := decide (t.1 = 5) && decide (t.2.1 = wOpen)
def brackP (rc : Option (List Tok → Res Cd)) (ts r : List Tok) : Res Cd := match rc with
  | none => .error ts
  | some f => match f r with
    | .error q => .error q
    | .ok (c, q) => match takeAll [wClose] q with
      | .error q => .error q
      | .ok q => .ok (c, q)
def testP (V : List UInt8 → Value × Int) (rc : Option (List Tok → Res Cd)) : List Tok → Res Cd
  | [] => .error []
  | t :: r => if isOpen t then brackP rc (t :: r) r else if tokIs wTIME t then timeP r else leafP V (t :: r)
/-- Further parts, the word ahead of each. -/
def loopP (w : ByteArray) (f : List Tok → Res Cd) : Nat → List Cd → List Tok → Res (List Cd)
  | 0, acc, ts => .ok (acc, ts)
  | _ + 1, acc, [] => .ok (acc, [])
  | n + 1, acc, t :: r => if tokIs w t then (match f r with | .error q => .error q | .ok (c, q) => loopP w f n (acc ++ [c]) q) else .ok (acc, t :: r)
def partsP (w : ByteArray) (op : Int) (f : List Tok → Res Cd) (ts : List Tok) : Res Cd := match f ts with
  | .error q => .error q
  | .ok (c, r) => match loopP w f r.length [c] r with
    | .error q => .error q
    | .ok (cs, q) => .ok (joinC op cs, q)
def andP (V : List UInt8 → Value × Int) (rc : Option (List Tok → Res Cd)) : List Tok → Res Cd := partsP wAND 1 (testP V rc)
def orB (V : List UInt8 → Value × Int) (rc : Option (List Tok → Res Cd)) : List Tok → Res Cd := partsP wOR 2 (andP V rc)
/-- Conditions, in brackets d deep at most. -/
def orP (V : List UInt8 → Value × Int) : Nat → List Tok → Res Cd
  | 0 => orB V none
  | d + 1 => orB V (some (orP V d))
def recP (V : List UInt8 → Value × Int) : Nat → Option (List Tok → Res Cd)
  | 0 => none
  | d + 1 => some (orP V d)
theorem orP_eq (V : List UInt8 → Value × Int) : ∀ d, orP V d = orB V (recP V d)
  | 0 => rfl
  | _ + 1 => rfl
def whereP (V : List UInt8 → Value × Int) (ts : List Tok) : Res (List Cd) := match hasP wWHERE [] ts with
  | .error q => .error q
  | .ok (false, r) => .ok ([], r)
  | .ok (true, r) => match orP V 16 r with
    | .error q => .error q
    | .ok (c, q) => .ok ([c], q)
def isFn (t : Tok) : Bool := decide (t.1 = 1) && inL fns t.2.1
def itemP : List Tok → Res (ByteArray × ByteArray)
  | [] => .error []
  | t :: r => if isFn t then (match takeAll [wOpen] r with
      | .error q => .error q
      | .ok r => match nameP r with
        | .error q => .error q
        | .ok (n, r) => match takeAll [wClose] r with
          | .error q => .error q
          | .ok r => .ok ((t.2.1, n), r))
    else match nameP (t :: r) with
      | .error q => .error q
      | .ok (n, r) => .ok ((⟨#[]⟩, n), r)
def itemsL : Nat → List (ByteArray × ByteArray) → List Tok → Res (List (ByteArray × ByteArray))
  | 0, _, ts => .error ts
  | n + 1, acc, ts => if acc.length = 8 then .error ts else match itemP ts with
    | .error q => .error q
    | .ok (i, r) => match hasP wComma [] r with
      | .error q => .error q
      | .ok (false, r) => .ok (acc ++ [i], r)
      | .ok (true, r) => itemsL n (acc ++ [i]) r
def itemsP (x : S0) (ts : List Tok) : Res S0 := match hasP wStar [] ts with
  | .error q => .error q
  | .ok (true, r) => .ok ({ x with all := true }, r)
  | .ok (false, r) => match itemsL 9 [] r with
    | .error q => .error q
    | .ok (l, r) => .ok ({ x with items := l }, r)
/-- One dimension. -/
def dimP (x : S0) (ts : List Tok) : Res S0 := match (if x.window = 0 then hasP wTIME [wOpen] ts else .ok (false, ts)) with
  | .error q => .error q
  | .ok (true, r) => (match intP 1 4611686018427387903 r with
    | .error q => .error q
    | .ok (n, r) => match takeAll [wClose] r with
      | .error q => .error q
      | .ok r => .ok ({ x with window := n }, r))
  | .ok (false, _) => match nameP ts with
    | .error q => .error q
    | .ok (n, r) => if inL x.tags n || decide (x.tags.length = 8) then .error ts else .ok ({ x with tags := x.tags ++ [n] }, r)
def dimsL : Nat → S0 → List Tok → Res S0
  | 0, _, ts => .error ts
  | n + 1, x, ts => match dimP x ts with
    | .error q => .error q
    | .ok (x, r) => match hasP wComma [] r with
      | .error q => .error q
      | .ok (false, r) => .ok (x, r)
      | .ok (true, r) => dimsL n x r
def fillP (V : List UInt8 → Value × Int) (x : S0) : List Tok → Res S0
  | [] => .error []
  | t :: r => if tokIs wNONE t then .ok ({ x with fill := 1 }, r) else if tokIs wNULL t then .ok ({ x with fill := 2 }, r) else if tokIs wPREVIOUS t then .ok ({ x with fill := 3 }, r)
    else match numV V t with | some v => .ok ({ x with fill := 4, number := v }, r) | none => .error (t :: r)
/-- A part that may be there. -/
def mayP (w : ByteArray) (ws : List ByteArray) (x : S0) (f : S0 → List Tok → Res S0) (ts : List Tok) : Res S0 := match hasP w ws ts with
  | .error q => .error q
  | .ok (false, r) => .ok (x, r)
  | .ok (true, r) => f x r
def bindR {α β : Type} (a : Res α) (f : α → List Tok → Res β) : Res β := match a with
  | .error q => .error q
  | .ok (x, r) => f x r
def mustP {β : Type} (ws : List ByteArray) (ts : List Tok) (f : List Tok → Res β) : Res β := match takeAll ws ts with
  | .error q => .error q
  | .ok r => f r
def chooseP (V : List UInt8 → Value × Int) (ts : List Tok) : Res S0 :=
  mustP [wSELECT] ts fun r => bindR (itemsP { s0 with kind := 1 } r) fun x r =>
  bindR (mayP wINTO [] x (fun x r => bindR (nameP r) fun n r => .ok ({ x with into := n }, r)) r) fun x r =>
  mustP [wFROM] r fun r => bindR (nameP r) fun n r =>
  bindR (whereP V r) fun c r =>
  bindR (mayP wGROUP [wBY] { x with frm := n, whr := c } (fun x r => dimsL 10 x r) r) fun x r =>
  bindR (mayP wFILL [] x (fillP V) r) fun x r =>
  bindR (mayP wORDER [wDESC] x (fun x r => .ok ({ x with desc := true }, r)) r) fun x r =>
  bindR (mayP wLIMIT [] x (fun x r => bindR (intP 1 4611686018427387903 r) fun n r => .ok ({ x with limit := n }, r)) r) fun x r =>
  mayP wOFFSET [] x (fun x r => bindR (intP 0 4611686018427387903 r) fun n r => .ok ({ x with offset := n }, r)) r
def ifHas {β : Type} (w : ByteArray) (ws : List ByteArray) (ts : List Tok) (f g : List Tok → Res β) : Res β := match hasP w ws ts with
  | .error q => .error q
  | .ok (true, r) => f r
  | .ok (false, r) => g r
def showP (ts : List Tok) : Res S0 :=
  ifHas wMEASUREMENTS [] ts (fun r => .ok ({ s0 with kind := 4 }, r)) fun ts =>
  ifHas wQUERIES [] ts (fun r => .ok ({ s0 with kind := 11 }, r)) fun ts =>
  ifHas wSERIES [] ts (fun r => ifHas wFROM [] r (fun r => bindR (nameP r) fun n r => .ok ({ s0 with kind := 5, frm := n }, r)) fun r => .ok ({ s0 with kind := 5 }, r)) fun ts =>
  ifHas wFIELD [wKEYS, wFROM] ts (fun r => bindR (nameP r) fun n r => .ok ({ s0 with kind := 8, frm := n }, r)) fun ts =>
  mustP [wTAG] ts fun r =>
  ifHas wKEYS [wFROM] r (fun r => bindR (nameP r) fun n r => .ok ({ s0 with kind := 6, frm := n }, r)) fun r =>
  mustP [wVALUES, wFROM] r fun r => bindR (nameP r) fun n r => mustP [wKEY] r fun r => bindR (nameP r) fun m r => .ok ({ s0 with kind := 7, frm := n, name := m }, r)
def stmtP (V : List UInt8 → Value × Int) (ts : List Tok) : Res St :=
  ifHas wDELETE [wFROM] ts (fun r => bindR (nameP r) fun n r => bindR (whereP V r) fun c r => .ok (.mk { s0 with kind := 2, frm := n, whr := c } [], r)) fun ts =>
  ifHas wDROP [] ts (fun r => ifHas wQUERY [] r (fun r => bindR (nameP r) fun n r => .ok (.mk { s0 with kind := 10, name := n } [], r)) fun r =>
    mustP [wMEASUREMENT] r fun r => bindR (nameP r) fun n r => .ok (.mk { s0 with kind := 3, name := n } [], r)) fun ts =>
  ifHas wSHOW [] ts (fun r => bindR (showP r) fun x r => .ok (.mk x [], r)) fun ts =>
  ifHas wCREATE [wQUERY] ts (fun r => bindR (nameP r) fun n r => mustP [wBEGIN] r fun r => bindR (chooseP V r) fun q r => mustP [wEND] r fun r => .ok (.mk { s0 with kind := 9, name := n } [.mk q []], r)) fun ts =>
  bindR (chooseP V ts) fun x r => .ok (.mk x [], r)
def placeP (n : Nat) : List Tok → Int
  | [] => (n : Int)
  | t :: _ => t.2.2
/-- A text parsed: the statement, a place, the error's number. -/
def parseP (V : List UInt8 → Value × Int) (s : List UInt8) : St × Int × Int := match tokens s with
  | (.error p, er) => (.mk s0 [], p, er)
  | (.ok L, _) => match stmtP V L with
    | .error q => (.mk s0 [], placeP s.length q, 2)
    | .ok (x, []) => (x, 0, 0)
    | .ok (_, t :: r) => (.mk s0 [], placeP s.length (t :: r), 2)
end Go.Proofs.YtigicmnngppipaaGreatDoor.Tp
/- All tokens, by the program: the walk. Condition: none. -/
namespace Go.Proofs.YtigicmnngppipaaGreatDoor.Lx
open Go.RowKit
theorem own_later {w w' : World} {base e size n g : Nat} {v : Value} {xs : List Value} (h : w.ownsRow base e size v n xs) (hg : w.grownBy w' (some g)) (hlt : g < base) : w'.ownsRow base e size v n xs :=
  h.kept hg (by
    cases hv : v.ownBlock with
    | none => exact .inl rfl
    | some j =>
      refine .inr fun e => ?_
      cases e
      have := (h.lt _ hv).1
      omega)
theorem below_grown {w wr w' : World} {g : Nat} (h : Below w.heap.size w wr) (hg : wr.grownBy w' (some g)) (hge : w.heap.size ≤ g) : Below w.heap.size w w' :=
  ⟨hg.os.trans h.os, hg.tape.trans h.tape, hg.output.trans h.output, Nat.le_trans h.size hg.size, fun i hi => (hg.block i (Nat.lt_of_lt_of_le hi h.size) (by simp; omega)).trans (h.block i hi)⟩
theorem below_drewN {B : Nat} {a w : World} (h : Below B a w) (n : Nat) : Below B a (w.drewN n) := ⟨h.os, h.tape, h.output, h.size, h.block⟩
theorem MemT.append {s txt : ByteArray} {k : Nat} {acc : List Tok} {v v1 : Value} {w w1 w7 : World} {o1 o2 : Obj} {kd at_ : Int} {n : Nat} {xs : List Value} (hX : w1.heap[w.heap.size]? = some (.cells #[.string s, .int .i64 (k : Int)] 95 (0, 0))) (ho : w1.ownsRow (w.heap.size + 1) 96 3 v acc.length (tokCells acc)) (hb : Below w.heap.size w w1)
    (hg : ((w1.alloc o1).alloc o2).grownBy w7 v.ownBlock) (hown : w7.ownsRow (w.heap.size + 1) 96 3 v1 n xs) (hn : n = acc.length + 1) (hx : xs = tokCells acc ++ [.int .i64 kd, .string txt, .int .i64 at_]) : MemT s k (acc ++ [(kd, txt, at_)]) v1 w w7 := by
  subst hn hx
  have hlt : w.heap.size < w1.heap.size := lt_of_block hX
  have hb2 : Below w.heap.size w ((w1.alloc o1).alloc o2) := (hb.alloc (by omega) o1).alloc (by simp; omega) o2
  refine ⟨?_, ?_, hb2.grown hg (by simp; omega) (fun j hj => by have := (ho.lt j hj).1; omega)⟩
  · refine (hg.block _ (by simp; omega) (fun e => by have := (ho.lt _ e.symm).1; omega)).trans ?_
    exact (Below.heap_alloc _ o2 _ (by simp; omega)).trans ((Below.heap_alloc w1 o1 _ hlt).trans hX)
  · rw [tokCells_snoc, List.length_append]
    exact hown
set_option maxHeartbeats 1000000 in
theorem tokens9 (s : ByteArray) (w : World) (hs0 : s.size ≤ 9223372036854775807) : Calls Tryz.prog 21 #[.string s] w (TokPost s.data.toList w) := by
  obtain ⟨i0, hi, hz0, hz1, hz2⟩ := info_parts info34
  have HI := Lib.hid hi
  have HZ0 := Lib.hid hz0
  have HZ1 := Lib.hid hz1
  have HZ2 := Lib.hid hz2
  clear hi hz0 hz1 hz2
  have hln : s.data.toList.length = s.size := by simp
  have HLN := Lib.hid hln
  clear hln
  by_cases hbig : 65536 < s.size
  · have hbig' : (65536 : Int) < (s.size : Int) := by omega
    have HT : Hid (tokens s.data.toList = (.error 0, 4)) := Lib.hid (by rw [tokens, if_pos (by rw [HLN.out]; exact hbig)])
    clear hbig
    go_enter Tryz.func21, Tryz.ntmps21
    go_wp2_with fail
    go_ret3
    refine ⟨Below.refl _ _, ?_⟩
    rw [HT.out]
    rfl
  · have hbig' : ¬ (65536 : Int) < (s.size : Int) := by omega
    have hs : s.size ≤ 65536 := by omega
    have HT : Hid (tokens s.data.toList = finT (lexL s.size [] s.data.toList)) := Lib.hid (by rw [tokens, if_neg (by rw [HLN.out]; exact hbig), HLN.out])
    clear hbig
    go_enter Tryz.func21, Tryz.ntmps21
    go_wp2_with fail
    go_loopw [5] (fun v wr => InTok s w v wr) (fun _ wr => s.size - kOfW w.heap.size wr)
    case atStart =>
      refine ⟨0, [], Nat.zero_le _, Nat.zero_le _, rfl, heap_alloc_new w _, World.ownsRow_nil _ _ _ _, (Below.refl _ _).alloc (Nat.le_refl _) _⟩
    case round =>
      obtain ⟨k, acc, hk, hacc, hlex, hX, hown, hb⟩ := hrel
      obtain ⟨a, cap, rfl⟩ := own_slice hown
      have HLX := Lib.hid hlex
      have HX := Lib.hid hX
      have HO := Lib.hid hown
      have HB := Lib.hid hb
      have HKW : Hid (kOfW w.heap.size wr = k) := Lib.hid (by unfold kOfW; simp [World.cell?, hX])
      have hsz := hb.size
      have hltX : w.heap.size < wr.heap.size := lt_of_block hX
      clear hlex hX hown hb
      go_wp2_with fail
      refine (next s w.heap.size k _ (by omega) hk HX.out).mono ?_
      rintro e w1 ⟨kind, text, at_, ok, k', rfl, hX1, hg1, hk', hv⟩
      have hb1 := below_grown HB.out hg1 (Nat.le_refl _)
      have ho1 := own_later HO.out hg1 (by omega)
      have HB1 := Lib.hid hb1
      have HO1 := Lib.hid ho1
      have HX1 := Lib.hid hX1
      have hltX1 : w.heap.size < w1.heap.size := lt_of_block hX1
      clear hX1 hg1 hb1 ho1
      rcases nextV_cases hv with ⟨hl, rfl, rfl⟩ | ⟨c, r, hl, rfl, hcase⟩
      · have HFIN := Lib.hid (HLX.out.trans (lex_end hl))
        clear hv hl
        go_wp2_with fail
        go_ret3
        refine ⟨HB1.out.alloc (by omega) _, ?_⟩
        rw [HT.out, HFIN.out]
        exact ⟨_, _, rfl, own_toks (HO1.out.alloc _), own_cap (HO1.out.alloc _)⟩
      · rcases hcase with ⟨hone, rfl⟩ | ⟨tx, q, hone, rfl, rfl, rfl⟩
        · have HFIN := Lib.hid (HLX.out.trans (lex_bad hl hone))
          clear hv hl hone
          go_wp2_with fail
          go_quiet (fail)
          go_wp2_with fail
          go_ret3
          refine ⟨Go.below_drewN (HB1.out.alloc (by omega) _) _, ?_⟩
          rw [HT.out, HFIN.out]
          rfl
        · have HFIN := Lib.hid (HLX.out.trans (lex_step hl hone))
          have hri := rest_is hl hone
          have hkq := hri.2
          have HRI := Lib.hid hri.1
          have hkd := one_kind hone
          have hkd' : (kind == 0) = false := by simp; omega
          obtain ⟨k1, hk1⟩ : ∃ k1, s.size - q.length = k1 := ⟨_, rfl⟩
          obtain ⟨txt, htx⟩ : ∃ txt, ofL tx = txt := ⟨_, rfl⟩
          obtain ⟨pl, hpl⟩ : ∃ pl : Nat, s.size - (c :: r).length = pl := ⟨_, rfl⟩
          rw [hk1] at hkq HRI hk' HX1
          rw [htx, hpl] at HFIN
          rw [htx, hpl]
          have HK1 := Lib.hid hk1
          clear hv hl hone hri hk1 htx hpl hkd
          go_wp2_with ((at_builtin; go_must (refine wpList_append_own _ rfl (.tmp 30) (.tmp 32) 60 rfl (w.heap.size + 1) 96 i0 _ 3 32 Tryz.underlying60 HI.out HZ0.out HZ1.out HZ2.out rfl (by omega) _ acc.length _ rfl ((HO1.out.alloc _).alloc _) ⟨w1.heap.size + 1, 0, none⟩ 1 1 [.int .i64 kind, .string txt, .int .i64 (pl : Nat)] rfl rfl (World.news_of_block (cs := #[.int .i64 kind, .string txt, .int .i64 (pl : Nat)]) (t := 96) (fr := (0, 0)) (by rw [show w1.heap.size + 1 = (w1.alloc (.cells #[.int .i64 kind, .string txt, .int .i64 (pl : Nat)] 96)).heap.size by simp]; exact heap_alloc_new _ _)) (by simp [Value.oneCell']) (by unfold maxLen; omega) (by omega) (by simp; omega) ?_); intro v1 w7 hown1 hgrow1 hnn; clear hnn; have HOW := Lib.hid hown1; have HGR := Lib.hid hgrow1; clear hown1 hgrow1))
          have HMT := MemT.append HX1.out HO1.out HB1.out HGR.out HOW.out rfl rfl
          refine ⟨⟨k1, _, hk', by simp; omega, ?_, HMT⟩, ?_⟩
          · rw [HFIN.out, HRI.out]
          · have hkw : kOfW w.heap.size w7 = k1 := by unfold kOfW; simp [World.cell?, HMT.1]
            rw [HKW.out, hkw]
            omega
end Go.Proofs.YtigicmnngppipaaGreatDoor.Lx
/- The parser in memory; its smallest steps: wrong, peek, pop. No condition. -/
namespace Go.Proofs.YtigicmnngppipaaGreatDoor.Tp
open Go.RowKit Lx
set_option maxRecDepth 100000
/-- Nothing has turned but blocks of S, and what is new. -/
structure Kp (S : Nat → Prop) (w w' : World) : Prop where
  os : w'.os = w.os
  tape : w'.tape = w.tape
  output : w'.output = w.output
  size : w.heap.size ≤ w'.heap.size
  block : ∀ k, k < w.heap.size → ¬ S k → w'.heap[k]? = w.heap[k]?
theorem Kp.refl (S : Nat → Prop) (w : World) : Kp S w w := ⟨rfl, rfl, rfl, Nat.le_refl _, fun _ _ _ => rfl⟩
theorem Kp.of {S : Nat → Prop} {w w' : World} (h : Below w.heap.size w w') : Kp S w w' := ⟨h.os, h.tape, h.output, h.size, fun k hk _ => h.block k hk⟩
theorem Kp.trans {S S' : Nat → Prop} {a b c : World} (h : Kp S a b) (k : Kp S' b c) (hS : ∀ i, i < a.heap.size → S' i → S i) : Kp S a c :=
  ⟨k.os.trans h.os, k.tape.trans h.tape, k.output.trans h.output, Nat.le_trans h.size k.size, fun i hi hs => (k.block i (Nat.lt_of_lt_of_le hi h.size) (fun q => hs (hS i hi q))).trans (h.block i hi hs)⟩
theorem Kp.then {S : Nat → Prop} {a b c : World} (h : Kp S a b) (k : Kp S b c) : Kp S a c := h.trans k fun _ _ q => q
theorem Kp.set {S : Nat → Prop} {a w : World} (h : Kp S a w) {p : Addr} (hp : S p.block ∨ a.heap.size ≤ p.block) (u : Value) : Kp S a (w.setCell p u) :=
  h.trans (S' := fun k => k = p.block) ⟨rfl, rfl, rfl, by simp [World.setCell], fun k _ hk => Below.heap_setCell _ _ _ _ hk⟩ (fun i hi e => by
    subst e
    rcases hp with hp | hp
    · exact hp
    · omega)
theorem Kp.alloc {S : Nat → Prop} {a w : World} (h : Kp S a w) (o : Obj) : Kp S a (w.alloc o) := h.then (Kp.of ((Below.refl _ _).alloc (Nat.le_refl _) o))
theorem Kp.drew {S : Nat → Prop} {a w : World} (h : Kp S a w) : Kp S a w.drew := ⟨h.os, h.tape, h.output, h.size, h.block⟩
theorem Kp.grown {S : Nat → Prop} {a w w' : World} {row : Option Nat} (h : Kp S a w) (hg : w.grownBy w' row) (hr : ∀ k, row = some k → S k ∨ a.heap.size ≤ k) : Kp S a w' :=
  h.trans (S' := fun k => row = some k) ⟨hg.os, hg.tape, hg.output, hg.size, fun k hk q => hg.block k hk (fun e => q e.symm)⟩ (fun i hi e => by
    rcases hr i e with q | q
    · exact q
    · omega)
theorem Kp.below {S : Nat → Prop} {B : Nat} {w w' : World} (h : Kp S w w') (hB : B ≤ w.heap.size) (hS : ∀ k, S k → B ≤ k) : Below B w w' :=
  ⟨h.os, h.tape, h.output, h.size, fun k hk => h.block k (by omega) (fun q => by have := hS k q; omega)⟩
theorem Kp.cell {S : Nat → Prop} {w w' : World} (h : Kp S w w') {p : Addr} (hp : p.block < w.heap.size) (hs : ¬ S p.block) : w'.cell? p = w.cell? p := World.cell?_of_block (w := w) (h.block p.block hp hs)
def tok0 : Tok := (0, ⟨#[]⟩, 0)
def hdT (ts : List Tok) : Tok := ts.headD tok0
def tokV (t : Tok) : Value := .agg #[.int .i64 t.1, .string t.2.1, .int .i64 t.2.2]
/-- A token as the lexer gives it. -/
def TokOk (t : Tok) : Prop := t.2.1.size ≤ 70000 ∧ (t.1 = 5 → t.2.1.data.toList.all (fun b => decide (b.toNat < 128)) = true)
/-- The parser: tokens, the end's place, how many brackets are open. -/
structure PAt (w : World) (P : Nat) (ts : List Tok) (n o : Nat) : Prop where
  row : ∃ a c, w.heap[P]? = some (.cells #[.slice a ts.length c, .int .i64 (n : Int), .int .i64 (o : Int)] 67 (0, 0)) ∧ ToksAt w a ts ∧ (∀ ad, a = some ad → ad.block < P) ∧ ts.length ≤ c
  sz : ∀ t ∈ ts, TokOk t
theorem PAt.lt {w : World} {P : Nat} {ts : List Tok} {n o : Nat} (h : PAt w P ts n o) : P < w.heap.size := by
  obtain ⟨a, c, h1, _⟩ := h.row
  exact (Array.getElem?_eq_some_iff.1 h1).1
theorem toks_keep {w w' : World} {a : Option Addr} {L : List Tok} {S : Nat → Prop} {P : Nat} (h : ToksAt w a L) (hk : Kp S w w') (hS : ∀ k, k ≤ P → ¬ S k) (ha : ∀ ad, a = some ad → ad.block < P) : ToksAt w' a L := fun i hi => by
  obtain ⟨b, off, h1, h2, h3, h4, h5⟩ := h i hi
  have hb := ha _ h1
  have hs : ¬ S b := hS b (Nat.le_of_lt hb)
  exact ⟨b, off, h1, Nat.lt_of_lt_of_le h2 hk.size, (hk.cell (p := ⟨b, _, none⟩) h2 hs).trans h3, (hk.cell (p := ⟨b, _, none⟩) h2 hs).trans h4, (hk.cell (p := ⟨b, _, none⟩) h2 hs).trans h5⟩
theorem PAt.keep {w w' : World} {P : Nat} {ts : List Tok} {n o : Nat} {S : Nat → Prop} (h : PAt w P ts n o) (hk : Kp S w w') (hS : ∀ k, k ≤ P → ¬ S k) : PAt w' P ts n o := by
  have hl := h.lt
  obtain ⟨a, c, h1, h2, h3, h4⟩ := h.row
  exact ⟨⟨a, c, (hk.block P hl (hS P (Nat.le_refl _))).trans h1, toks_keep h2 hk hS h3, h3, h4⟩, h.sz⟩
theorem PAt.set {w : World} {P : Nat} {ts : List Tok} {n o : Nat} (h : PAt w P ts n o) {p : Addr} (hp : P < p.block) (u : Value) : PAt (w.setCell p u) P ts n o :=
  h.keep (Kp.set (S := (· = p.block)) (Kp.refl _ w) (.inl rfl) u) (fun k hk e => by omega)
theorem PAt.later {w w' : World} {P : Nat} {ts : List Tok} {n o : Nat} (h : PAt w P ts n o) (hb : Below w.heap.size w w') : PAt w' P ts n o := h.keep (S := fun _ => False) (Kp.of hb) (fun _ _ q => q)
/-- What a stuck parser dies of. -/
def stuckE (n : Nat) (q : List Tok) : Ending := .panicked [{ v := .iface 63 (.int .i64 (placeP n q)), recovered := false }]
theorem hd_sz {w : World} {P n o : Nat} {ts : List Tok} (h : PAt w P ts n o) : TokOk (hdT ts) := by
  cases ts with
  | nil => exact ⟨by decide, fun e => by cases e⟩
  | cons t r => exact h.sz t (List.mem_cons_self ..)
theorem tokAt_zero (t : Tok) (r : List Tok) : tokAt (t :: r) 0 = t := rfl
theorem wrong_24 (P n o : Nat) (ts : List Tok) (w : World) (hP : PAt w P ts n o) : Calls Tryz.prog 24 #[.pointer (some ⟨P, 0, none⟩)] w fun e w' => e = stuckE n ts ∧ w = w' := by
  obtain ⟨a, c, h1, h2, h3, h4⟩ := hP.row
  have c0 : w.cell? ⟨P, 0, none⟩ = some (.slice a ts.length c) := Lib.cell_of_heap h1 0
  have c1 : w.cell? ⟨P, 1, none⟩ = some (.int .i64 (n : Int)) := Lib.cell_of_heap h1 1
  cases ts with
  | nil =>
    clear h1 h2 h3 h4 hP
    go_enter Tryz.func24, Tryz.ntmps24
    go_wp2
    exact ⟨rfl, rfl, rfl⟩
  | cons t r =>
    obtain ⟨b, off, ha, hb, d0, d1, d2⟩ := h2 0 (by simp)
    subst ha
    rw [tokAt_zero] at d2
    simp only [Nat.zero_mul, Nat.add_zero] at d2
    have hz : (0 : Int) < ((t :: r).length : Int) := by simp
    clear h1 h2 h3 h4 d0 d1 hP
    obtain ⟨m, hm⟩ : ∃ m, (t :: r).length = m := ⟨_, rfl⟩
    rw [hm] at c0 hz
    clear hm
    go_enter Tryz.func24, Tryz.ntmps24
    go_wp2
    exact ⟨rfl, rfl, rfl⟩
theorem PAt.head {w : World} {P n o : Nat} {t : Tok} {r : List Tok} (h : PAt w P (t :: r) n o) : ∃ b off c, w.heap[P]? = some (.cells #[.slice (some ⟨b, off, none⟩) (t :: r).length c, .int .i64 (n : Int), .int .i64 (o : Int)] 67 (0, 0)) ∧ b < w.heap.size ∧ b < P ∧ ToksAt w (some ⟨b, off, none⟩) (t :: r) ∧
    w.cell? ⟨b, off, none⟩ = some (.int .i64 t.1) ∧ w.cell? ⟨b, off + 1, none⟩ = some (.string t.2.1) ∧ w.cell? ⟨b, off + 2, none⟩ = some (.int .i64 t.2.2) ∧ (t :: r).length ≤ c := by
  obtain ⟨a, c, h1, h2, h3, h4⟩ := h.row
  have h2' := h2
  obtain ⟨b, off, ha, hb, d0, d1, d2⟩ := h2 0 (by simp)
  subst ha
  rw [tokAt_zero] at d0 d1 d2
  simp only [Nat.zero_mul, Nat.add_zero] at d0 d1 d2
  exact ⟨b, off, c, h1, hb, h3 _ rfl, h2', d0, d1, d2, h4⟩
theorem info96s : (Tryz.prog.info? 96).map (·.size) = some 3 := by kernel_rfl
theorem peek_71 (P n o : Nat) (ts : List Tok) (w : World) (hP : PAt w P ts n o) : Calls Tryz.prog 71 #[.pointer (some ⟨P, 0, none⟩)] w fun e w' => e = .returned (tokV (hdT ts)) ∧ Below w.heap.size w w' := by
  have hPl := hP.lt
  cases ts with
  | nil =>
    obtain ⟨a, c, h1, h2, h3, h4⟩ := hP.row
    have c0 : w.cell? ⟨P, 0, none⟩ = some (.slice a 0 c) := Lib.cell_of_heap h1 0
    clear h1 h2 h3 h4 hP
    go_enter Tryz.func71, Tryz.ntmps71
    go_wp2
    refine bodyPost_ret (results_cell_row rfl _ _ w.heap.size 96 _ (0, 0) _ rfl (newest _ _) Tryz.underlying96 (by kernel_rfl) info96s) rfl ?_
    exact ⟨rfl, (Below.refl _ _).alloc (Nat.le_refl _) _⟩
  | cons t r =>
    obtain ⟨b, off, c, h1, hb, hne, h2, d0, d1, d2, h4⟩ := hP.head
    have c0 : w.cell? ⟨P, 0, none⟩ = some (.slice (some ⟨b, off, none⟩) (t :: r).length c) := Lib.cell_of_heap h1 0
    have hz : (0 : Int) < ((t :: r).length : Int) := by simp
    obtain ⟨m, hm⟩ : ∃ m, (t :: r).length = m := ⟨_, rfl⟩
    rw [hm] at c0 hz
    clear h1 h2 h4 hP hm
    go_enter Tryz.func71, Tryz.ntmps71
    go_wp2
    refine bodyPost_ret (results_cell_row rfl _ _ w.heap.size 96 _ (0, 0) _ rfl (newest _ _) Tryz.underlying96 (by kernel_rfl) info96s) rfl ?_
    exact ⟨rfl, (Below.refl _ _).alloc (Nat.le_refl _) _⟩
theorem slice60 (b off n c : Nat) (hn : 1 ≤ n) (w' : World) : (Instr.slice 60 (.slice (some ⟨b, off, none⟩) n c) (some (.int .i64 1)) none none).run Tryz.prog w' = .ok (.slice (if c = 1 then some ⟨b, off, none⟩ else some ⟨b, off + 3, none⟩) (n - 1) (c - 1)) w' := by
  have hso : (Tryz.prog.info? 96).map (·.size) = some 3 := by kernel_rfl
  have h1 : ¬ (n : Int) < 1 := by omega
  simp [Instr.slice, Instr.sliceBounds, Instr.sliceBound, asIntOf, go_sem]
  intro h
  omega
theorem toks_tail {w : World} {b off : Nat} {t : Tok} {r : List Tok} (h : ToksAt w (some ⟨b, off, none⟩) (t :: r)) : ToksAt w (some ⟨b, off + 3, none⟩) r := by
  intro i hi
  obtain ⟨b', off', ha, hb, d0, d1, d2⟩ := h (i + 1) (by simp; omega)
  injection ha with ha
  injection ha with e1 e2
  subst e1 e2
  have e : tokAt (t :: r) (i + 1) = tokAt r i := by simp [tokAt]
  rw [e, show off + (i + 1) * 3 = off + 3 + i * 3 by omega] at d0 d1 d2
  exact ⟨b, off + 3, rfl, hb, d0, d1, d2⟩
theorem PAt.store {w : World} {P n o : Nat} {ts ts' : List Tok} {a : Option Addr} {c : Nat} (h : PAt w P ts n o) (ht : ToksAt w a ts') (ha : ∀ ad, a = some ad → ad.block < P) (hc : ts'.length ≤ c) (hz : ∀ t ∈ ts', TokOk t) : PAt (w.setCell ⟨P, 0, none⟩ (.slice a ts'.length c)) P ts' n o ∧ Kp (· = P) w (w.setCell ⟨P, 0, none⟩ (.slice a ts'.length c)) := by
  obtain ⟨a0, c0, h1, _⟩ := h.row
  refine ⟨⟨⟨a, c, ?_, ?_, ha, hc⟩, hz⟩, Kp.set (S := (· = P)) (p := ⟨P, 0, none⟩) (Kp.refl _ w) (.inl rfl) _⟩
  · rw [heap_setCell_same _ _ _ _ _ _ h1]; rfl
  · intro i hi
    obtain ⟨b, off, e, hb, d0, d1, d2⟩ := ht i hi
    have hne : b ≠ P := Nat.ne_of_lt (ha _ e)
    have key : ∀ j, (w.setCell ⟨P, 0, none⟩ (.slice a ts'.length c)).cell? ⟨b, j, none⟩ = w.cell? ⟨b, j, none⟩ := fun j => World.cell?_setCell_other _ _ _ _ (by intro q; injection q with q; exact hne q.symm)
    exact ⟨b, off, e, by simpa using hb, (key _).trans d0, (key _).trans d1, (key _).trans d2⟩
theorem pop_72 (P n o : Nat) (t : Tok) (r : List Tok) (w : World) (hP : PAt w P (t :: r) n o) : Calls Tryz.prog 72 #[.pointer (some ⟨P, 0, none⟩)] w fun e w' => e = .returned (.tuple #[]) ∧ Kp (· = P) w w' ∧ PAt w' P r n o := by
  obtain ⟨b, off, c, h1, hb, hne, h2, d0, d1, d2, h4⟩ := hP.head
  have c0 : w.cell? ⟨P, 0, none⟩ = some (.slice (some ⟨b, off, none⟩) (t :: r).length c) := Lib.cell_of_heap h1 0
  have f0 : w.frozen? ⟨P, 0, none⟩ = false := Lib.frozen_of_heap h1 0
  have hs := slice60 b off (t :: r).length c (by simp)
  obtain ⟨a', ha'⟩ : ∃ a', (if c = 1 then some ⟨b, off, none⟩ else some ⟨b, off + 3, none⟩ : Option Addr) = a' := ⟨_, rfl⟩
  rw [ha'] at hs
  have hlen : (t :: r).length - 1 = r.length := by simp
  rw [hlen] at hs
  have HP := Lib.hid (PAt.store (c := c - 1) hP (a := a') (ts' := r) (by
    rw [← ha']
    split
    · rename_i hc1
      have : r = [] := by
        have : r.length = 0 := by simp at h4; omega
        exact List.length_eq_zero_iff.1 this
      subst this
      exact fun i hi => absurd hi (Nat.not_lt_zero i)
    · exact toks_tail h2) (fun ad e => by
    rw [← ha'] at e
    split at e <;> (injection e with e; rw [← e]; exact hne)) (by simp at h4; omega) (fun u hu => hP.sz u (List.mem_cons_of_mem _ hu)))
  obtain ⟨m, hm⟩ : ∃ m, (t :: r).length = m := ⟨_, rfl⟩
  rw [hm] at c0 hs
  clear h1 h2 d0 d1 d2 h4 hP ha' hlen hm
  go_enter Tryz.func72, Tryz.ntmps72
  go_wp2
  go_end0
  exact ⟨rfl, HP.out.2, HP.out.1⟩
end Go.Proofs.YtigicmnngppipaaGreatDoor.Tp
