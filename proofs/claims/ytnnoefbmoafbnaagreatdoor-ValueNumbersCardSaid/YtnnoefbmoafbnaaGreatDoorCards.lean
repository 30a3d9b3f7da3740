/-
  DERIVED. GIVEN WITH THE SEED: THE CARDS: each row of YtnnoefbmoafbnaaGreatDoorRows.lean that lists a variable, with what it lists TIED to the program's text (the seventh form; the later family's looks); each row that meets fmt, with fmt's text TOLD by the authors' own Lean function (tested against real Go, not proved from fmt's source: count such statements apart). THE CARD IS WHAT COUNTS. Prove the row's statement (the work); the ties are given (YtnnoefbmoafbnaaGreatDoorTie.lean); close each card by the builder's one call (the guide's Derived/Test/ToyasCard.lean, 'card_holds'). Laid BY PROGRAM, IN A SANDBOX (cutbox-door.mjs). By AI agents, Wed Nov 11 2026. No macro, syntax, notation, axiom, sorry.
-/
import Derived.Test.YtnnoefbmoafbnaaGreatDoorRows
import GoSem.ClaimSeven
namespace Go.Proofs.YtnnoefbmoafbnaaGreatDoor
namespace Rows

/-- THE TIED CARD OF 'gristlaw01.ValueNumbers'. -/
def valueNumbersCard : Claim7 := { stood := { row := valueNumbersRow, standIns := [], harness := (true, "41d929415f5ef4882bb496200d1594bd4809c667807cdb18c65e5c98af3b8282"), looks := true }, kinds := [], alts := [], laidByText := true, laidKinds := [.data, .data, .data, .data, .sentinel, .sentinel, .pinned, .pinned], laidTests := true, laidLooks := .later }
def ValueNumbersCardSaid : Prop := Claim7.holds Tryz.pinned (.plain (OpenSpec.ofChange valueNumbersSpec)) valueNumbersCard

/-- THE SECOND FORM's CARD OF 'gristlaw01.ValueNumbers'. -/
def valueNumbersUptoCard : Claim7 := { stood := { row := valueNumbersUptoRow, standIns := [], harness := (true, "41d929415f5ef4882bb496200d1594bd4809c667807cdb18c65e5c98af3b8282"), looks := true }, kinds := [], alts := [], laidByText := true, laidKinds := [.data, .data, .data, .data, .sentinel, .sentinel, .pinned, .pinned], laidTests := true, laidLooks := .later }
def ValueNumbersUptoCardSaid : Prop := Claim7.holds Tryz.pinned (.plain (OpenSpec.upto valueNumbersSpec)) valueNumbersUptoCard
end Rows
end Go.Proofs.YtnnoefbmoafbnaaGreatDoor
