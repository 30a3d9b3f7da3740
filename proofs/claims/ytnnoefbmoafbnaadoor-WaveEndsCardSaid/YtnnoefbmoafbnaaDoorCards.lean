/-
  DERIVED. GIVEN WITH THE SEED: THE CARDS: each row of YtnnoefbmoafbnaaDoorRows.lean that lists a variable, with what it lists TIED to the program's text (the seventh form; the later family's looks); each row that meets fmt, with fmt's text TOLD by the authors' own Lean function (tested against real Go, not proved from fmt's source: count such statements apart). THE CARD IS WHAT COUNTS. Prove the row's statement (the work); the ties are given (YtnnoefbmoafbnaaDoorTie.lean); close each card by the builder's one call (the guide's Derived/Test/ToyasCard.lean, 'card_holds'). Laid BY PROGRAM, IN A SANDBOX (cutbox-door.mjs). By AI agents, Wed Nov 11 2026. No macro, syntax, notation, axiom, sorry.
-/
import Derived.Test.YtnnoefbmoafbnaaDoorRows
import GoSem.ClaimSeven
namespace Go.Proofs.YtnnoefbmoafbnaaDoor
namespace Rows

/-- THE TIED CARD OF 'gristlaw02.WaveEnds'. -/
def waveEndsCard : Claim7 := { stood := { row := waveEndsRow, standIns := [], harness := (true, "a44b0534c74e86d60fef9a95f61e60d2d8bd475913de2c18042caf06924434bb"), looks := true }, kinds := [], alts := [], laidByText := true, laidKinds := [.data, .data, .data, .data, .sentinel, .sentinel, .pinned, .pinned], laidTests := true, laidLooks := .later }
def WaveEndsCardSaid : Prop := Claim7.holds Tryd.pinned (.plain (OpenSpec.ofChange waveEndsSpec)) waveEndsCard

/-- THE SECOND FORM's CARD OF 'gristlaw02.WaveEnds'. -/
def waveEndsUptoCard : Claim7 := { stood := { row := waveEndsUptoRow, standIns := [], harness := (true, "a44b0534c74e86d60fef9a95f61e60d2d8bd475913de2c18042caf06924434bb"), looks := true }, kinds := [], alts := [], laidByText := true, laidKinds := [.data, .data, .data, .data, .sentinel, .sentinel, .pinned, .pinned], laidTests := true, laidLooks := .later }
def WaveEndsUptoCardSaid : Prop := Claim7.holds Tryd.pinned (.plain (OpenSpec.upto waveEndsSpec)) waveEndsUptoCard
end Rows
end Go.Proofs.YtnnoefbmoafbnaaDoor
