/- Several texts of this proof, laid together. Conditions: as each says. -/
import Derived.Test.YtagiddbfhlokcaaGreatDoorVBM
/- Reading a line by the program: the tags, and the whole. Conditions: the text's length; the readers of values. -/
namespace Go.Proofs.YtagiddbfhlokcaaGreatDoor.Ser
open Go.RowKit Go.Sort
set_option maxRecDepth 100000
section
variable {n : Nat} {acc : List Tg} {r kb r1 vb r2 : List UInt8}
end
end Go.Proofs.YtagiddbfhlokcaaGreatDoor.Ser
/- Reading a line by the program: the whole. Conditions: the text's length; the readers of values. -/
namespace Go.Proofs.YtagiddbfhlokcaaGreatDoor.Ser
open Go.RowKit Go.Sort
set_option maxRecDepth 100000
def szA (a : Act) : Nat := match a.tmps.getD 0 undef with
  | .string s => s.size
  | _ => 0
def muL (l : Nat) (a : Act) (_ : World) : Nat := match l with
  | 0 => 0
  | 3 => 1
  | _ => 2 + szA a
end Go.Proofs.YtagiddbfhlokcaaGreatDoor.Ser
