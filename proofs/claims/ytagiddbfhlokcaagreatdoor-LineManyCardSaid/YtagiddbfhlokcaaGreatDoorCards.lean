/-
  DERIVED. GIVEN WITH THE SEED: THE CARDS: each row of YtagiddbfhlokcaaGreatDoorRows.lean that lists a variable, with what it lists TIED to the program's text (the seventh form; the later family's looks); each row that meets fmt, with fmt's text TOLD by the authors' own Lean function (tested against real Go, not proved from fmt's source: count such statements apart). THE CARD IS WHAT COUNTS. Prove the row's statement (the work); the ties are given (YtagiddbfhlokcaaGreatDoorTie.lean); close each card by the builder's one call (the guide's Derived/Test/ToyasCard.lean, 'card_holds'). Laid BY PROGRAM, IN A SANDBOX (cutbox-door.mjs). By AI agents, Wed Nov 11 2026. No macro, syntax, notation, axiom, sorry.
-/
import Derived.Test.YtagiddbfhlokcaaGreatDoorRows
import GoSem.ClaimSeven
namespace Go.Proofs.YtagiddbfhlokcaaGreatDoor
namespace Rows

/-- THE TIED CARD OF 'gristlaw17.LineMany'. -/
def lineManyCard : Claim7 := { stood := { row := lineManyRow, standIns := [], harness := (true, "00b1a35eca8fc38cbdf0b7f6144fa5051ffafc7b315e89e78e483bb5ab31290f"), looks := true }, kinds := [], alts := [], laidByText := true, laidKinds := [.data, .data, .widerDeep, .widerDeep, .data, .data, .data, .data, .data, .data, .sentinel, .sentinel, .pinned, .pinned, .pinned], laidTests := true, laidLooks := .later }
def LineManyCardSaid : Prop := Claim7.holds Tryz.pinned (.plain (OpenSpec.ofChange lineManySpec)) lineManyCard

/-- THE TIED CARD OF 'gristlaw17.LineParses'. -/
def lineParsesCard : Claim7 := { stood := { row := lineParsesRow, standIns := [], harness := (true, "00b1a35eca8fc38cbdf0b7f6144fa5051ffafc7b315e89e78e483bb5ab31290f"), looks := true }, kinds := [], alts := [], laidByText := true, laidKinds := [.data, .data, .widerDeep, .widerDeep, .data, .data, .data, .data, .data, .data, .sentinel, .sentinel, .pinned, .pinned, .pinned], laidTests := true, laidLooks := .later }
def LineParsesCardSaid : Prop := Claim7.holds Tryz.pinned (.plain (OpenSpec.ofChange lineParsesSpec)) lineParsesCard

/-- THE TIED CARD OF 'gristlaw17.LineBatches'. -/
def lineBatchesCard : Claim7 := { stood := { row := lineBatchesRow, standIns := [], harness := (true, "00b1a35eca8fc38cbdf0b7f6144fa5051ffafc7b315e89e78e483bb5ab31290f"), looks := true }, kinds := [], alts := [], laidByText := true, laidKinds := [.data, .data, .widerDeep, .widerDeep, .data, .data, .data, .data, .data, .data, .sentinel, .sentinel, .pinned, .pinned, .pinned], laidTests := true, laidLooks := .later }
def LineBatchesCardSaid : Prop := Claim7.holds Tryz.pinned (.plain (OpenSpec.ofChange lineBatchesSpec)) lineBatchesCard

/-- THE TIED CARD OF 'gristlaw01.ValueParses'. -/
def valueParsesCard : Claim7 := { stood := { row := valueParsesRow, standIns := [], harness := (true, "00b1a35eca8fc38cbdf0b7f6144fa5051ffafc7b315e89e78e483bb5ab31290f"), looks := true }, kinds := [], alts := [], laidByText := true, laidKinds := [.data, .data, .widerDeep, .widerDeep, .data, .data, .data, .data, .data, .data, .sentinel, .sentinel, .pinned, .pinned, .pinned], laidTests := true, laidLooks := .later }
def ValueParsesCardSaid : Prop := Claim7.holds Tryz.pinned (.plain (OpenSpec.ofChange valueParsesSpec)) valueParsesCard

/-- THE TIED CARD OF 'gristlaw01.ValueBack'. -/
def valueBackCard : Claim7 := { stood := { row := valueBackRow, standIns := [], harness := (true, "00b1a35eca8fc38cbdf0b7f6144fa5051ffafc7b315e89e78e483bb5ab31290f"), looks := true }, kinds := [], alts := [], laidByText := true, laidKinds := [.data, .data, .widerDeep, .widerDeep, .data, .data, .data, .data, .data, .data, .sentinel, .sentinel, .pinned, .pinned, .pinned], laidTests := true, laidLooks := .later }
def ValueBackCardSaid : Prop := Claim7.holds Tryz.pinned (.plain (OpenSpec.ofChange valueBackSpec)) valueBackCard

/-- THE TIED CARD OF 'gristlaw17.LineTurned'. -/
def lineTurnedCard : Claim7 := { stood := { row := lineTurnedRow, standIns := [], harness := (true, "00b1a35eca8fc38cbdf0b7f6144fa5051ffafc7b315e89e78e483bb5ab31290f"), looks := true }, kinds := [], alts := [], laidByText := true, laidKinds := [.data, .data, .widerDeep, .widerDeep, .data, .data, .data, .data, .data, .data, .sentinel, .sentinel, .pinned, .pinned, .pinned], laidTests := true, laidLooks := .later }
def LineTurnedCardSaid : Prop := Claim7.holds Tryz.pinned (.plain (OpenSpec.ofChange lineTurnedSpec)) lineTurnedCard

/-- THE TIED CARD OF 'gristlaw17.LineBack'. -/
def lineBackCard : Claim7 := { stood := { row := lineBackRow, standIns := [], harness := (true, "00b1a35eca8fc38cbdf0b7f6144fa5051ffafc7b315e89e78e483bb5ab31290f"), looks := true }, kinds := [], alts := [], laidByText := true, laidKinds := [.data, .data, .widerDeep, .widerDeep, .data, .data, .data, .data, .data, .data, .sentinel, .sentinel, .pinned, .pinned, .pinned], laidTests := true, laidLooks := .later }
def LineBackCardSaid : Prop := Claim7.holds Tryz.pinned (.plain (OpenSpec.ofChange lineBackSpec)) lineBackCard

/-- THE SECOND FORM's CARD OF 'gristlaw17.LineMany'. -/
def lineManyUptoCard : Claim7 := { stood := { row := lineManyUptoRow, standIns := [], harness := (true, "00b1a35eca8fc38cbdf0b7f6144fa5051ffafc7b315e89e78e483bb5ab31290f"), looks := true }, kinds := [], alts := [], laidByText := true, laidKinds := [.data, .data, .widerDeep, .widerDeep, .data, .data, .data, .data, .data, .data, .sentinel, .sentinel, .pinned, .pinned, .pinned], laidTests := true, laidLooks := .later }
def LineManyUptoCardSaid : Prop := Claim7.holds Tryz.pinned (.plain (OpenSpec.upto lineManySpec)) lineManyUptoCard

/-- THE SECOND FORM's CARD OF 'gristlaw17.LineParses'. -/
def lineParsesUptoCard : Claim7 := { stood := { row := lineParsesUptoRow, standIns := [], harness := (true, "00b1a35eca8fc38cbdf0b7f6144fa5051ffafc7b315e89e78e483bb5ab31290f"), looks := true }, kinds := [], alts := [], laidByText := true, laidKinds := [.data, .data, .widerDeep, .widerDeep, .data, .data, .data, .data, .data, .data, .sentinel, .sentinel, .pinned, .pinned, .pinned], laidTests := true, laidLooks := .later }
def LineParsesUptoCardSaid : Prop := Claim7.holds Tryz.pinned (.plain (OpenSpec.upto lineParsesSpec)) lineParsesUptoCard

/-- THE SECOND FORM's CARD OF 'gristlaw17.LineBatches'. -/
def lineBatchesUptoCard : Claim7 := { stood := { row := lineBatchesUptoRow, standIns := [], harness := (true, "00b1a35eca8fc38cbdf0b7f6144fa5051ffafc7b315e89e78e483bb5ab31290f"), looks := true }, kinds := [], alts := [], laidByText := true, laidKinds := [.data, .data, .widerDeep, .widerDeep, .data, .data, .data, .data, .data, .data, .sentinel, .sentinel, .pinned, .pinned, .pinned], laidTests := true, laidLooks := .later }
def LineBatchesUptoCardSaid : Prop := Claim7.holds Tryz.pinned (.plain (OpenSpec.upto lineBatchesSpec)) lineBatchesUptoCard

/-- THE SECOND FORM's CARD OF 'gristlaw01.ValueParses'. -/
def valueParsesUptoCard : Claim7 := { stood := { row := valueParsesUptoRow, standIns := [], harness := (true, "00b1a35eca8fc38cbdf0b7f6144fa5051ffafc7b315e89e78e483bb5ab31290f"), looks := true }, kinds := [], alts := [], laidByText := true, laidKinds := [.data, .data, .widerDeep, .widerDeep, .data, .data, .data, .data, .data, .data, .sentinel, .sentinel, .pinned, .pinned, .pinned], laidTests := true, laidLooks := .later }
def ValueParsesUptoCardSaid : Prop := Claim7.holds Tryz.pinned (.plain (OpenSpec.upto valueParsesSpec)) valueParsesUptoCard

/-- THE SECOND FORM's CARD OF 'gristlaw01.ValueBack'. -/
def valueBackUptoCard : Claim7 := { stood := { row := valueBackUptoRow, standIns := [], harness := (true, "00b1a35eca8fc38cbdf0b7f6144fa5051ffafc7b315e89e78e483bb5ab31290f"), looks := true }, kinds := [], alts := [], laidByText := true, laidKinds := [.data, .data, .widerDeep, .widerDeep, .data, .data, .data, .data, .data, .data, .sentinel, .sentinel, .pinned, .pinned, .pinned], laidTests := true, laidLooks := .later }
def ValueBackUptoCardSaid : Prop := Claim7.holds Tryz.pinned (.plain (OpenSpec.upto valueBackSpec)) valueBackUptoCard

/-- THE SECOND FORM's CARD OF 'gristlaw17.LineTurned'. -/
def lineTurnedUptoCard : Claim7 := { stood := { row := lineTurnedUptoRow, standIns := [], harness := (true, "00b1a35eca8fc38cbdf0b7f6144fa5051ffafc7b315e89e78e483bb5ab31290f"), looks := true }, kinds := [], alts := [], laidByText := true, laidKinds := [.data, .data, .widerDeep, .widerDeep, .data, .data, .data, .data, .data, .data, .sentinel, .sentinel, .pinned, .pinned, .pinned], laidTests := true, laidLooks := .later }
def LineTurnedUptoCardSaid : Prop := Claim7.holds Tryz.pinned (.plain (OpenSpec.upto lineTurnedSpec)) lineTurnedUptoCard

/-- THE SECOND FORM's CARD OF 'gristlaw17.LineBack'. -/
def lineBackUptoCard : Claim7 := { stood := { row := lineBackUptoRow, standIns := [], harness := (true, "00b1a35eca8fc38cbdf0b7f6144fa5051ffafc7b315e89e78e483bb5ab31290f"), looks := true }, kinds := [], alts := [], laidByText := true, laidKinds := [.data, .data, .widerDeep, .widerDeep, .data, .data, .data, .data, .data, .data, .sentinel, .sentinel, .pinned, .pinned, .pinned], laidTests := true, laidLooks := .later }
def LineBackUptoCardSaid : Prop := Claim7.holds Tryz.pinned (.plain (OpenSpec.upto lineBackSpec)) lineBackUptoCard
end Rows
end Go.Proofs.YtagiddbfhlokcaaGreatDoor
