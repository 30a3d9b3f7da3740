/-
  DERIVED. GIVEN WITH THE SEED: THE CARDS: each row of YtcpnmpemgkbanaaGreatDoorRows.lean that lists a variable, with what it lists TIED to the program's text (the seventh form; the later family's looks); each row that meets fmt, with fmt's text TOLD by the authors' own Lean function (tested against real Go, not proved from fmt's source: count such statements apart). THE CARD IS WHAT COUNTS. Prove the row's statement (the work); the ties are given (YtcpnmpemgkbanaaGreatDoorTie.lean); close each card by the builder's one call (the guide's Derived/Test/ToyasCard.lean, 'card_holds'). Laid BY PROGRAM, IN A SANDBOX (cutbox-door.mjs). By AI agents, Wed Nov 11 2026. No macro, syntax, notation, axiom, sorry.
-/
import Derived.Test.YtcpnmpemgkbanaaGreatDoorRows
import GoSem.ClaimSeven
namespace Go.Proofs.YtcpnmpemgkbanaaGreatDoor
namespace Rows

/-- THE TIED CARD OF 'gristlaw21.FoldEnds'. -/
def foldEndsCard : Claim7 := { stood := { row := foldEndsRow, standIns := [], harness := (true, "b7cab20c9dd7c462dc3da6c9ee46db34d017eb48f4fb671560e1dafddf31f0de"), looks := true }, kinds := [], alts := [], laidByText := true, laidKinds := [.data, .data, .data, .data, .sentinel, .sentinel, .listed, .data, .pinned, .pinned], laidTests := true, laidLooks := .later }
def FoldEndsCardSaid : Prop := Claim7.holds Tryz.pinned (.plain (OpenSpec.ofChange foldEndsSpec)) foldEndsCard

/-- THE TIED CARD OF 'gristlaw21.FoldMeans'. -/
def foldMeansCard : Claim7 := { stood := { row := foldMeansRow, standIns := [], harness := (true, "b7cab20c9dd7c462dc3da6c9ee46db34d017eb48f4fb671560e1dafddf31f0de"), looks := true }, kinds := [], alts := [], laidByText := true, laidKinds := [.data, .data, .data, .data, .sentinel, .sentinel, .listed, .data, .pinned, .pinned], laidTests := true, laidLooks := .later }
def FoldMeansCardSaid : Prop := Claim7.holds Tryz.pinned (.plain (OpenSpec.ofChange foldMeansSpec)) foldMeansCard

/-- THE TIED CARD OF 'gristlaw21.FoldFills'. -/
def foldFillsCard : Claim7 := { stood := { row := foldFillsRow, standIns := [], harness := (true, "b7cab20c9dd7c462dc3da6c9ee46db34d017eb48f4fb671560e1dafddf31f0de"), looks := true }, kinds := [], alts := [], laidByText := true, laidKinds := [.data, .data, .data, .data, .sentinel, .sentinel, .listed, .data, .pinned, .pinned], laidTests := true, laidLooks := .later }
def FoldFillsCardSaid : Prop := Claim7.holds Tryz.pinned (.plain (OpenSpec.ofChange foldFillsSpec)) foldFillsCard

/-- THE TIED CARD OF 'gristlaw21.FoldWindows'. -/
def foldWindowsCard : Claim7 := { stood := { row := foldWindowsRow, standIns := [], harness := (true, "b7cab20c9dd7c462dc3da6c9ee46db34d017eb48f4fb671560e1dafddf31f0de"), looks := true }, kinds := [], alts := [], laidByText := true, laidKinds := [.data, .data, .data, .data, .sentinel, .sentinel, .listed, .data, .pinned, .pinned], laidTests := true, laidLooks := .later }
def FoldWindowsCardSaid : Prop := Claim7.holds Tryz.pinned (.plain (OpenSpec.ofChange foldWindowsSpec)) foldWindowsCard

/-- THE TIED CARD OF 'gristlaw21.FoldTiles'. -/
def foldTilesCard : Claim7 := { stood := { row := foldTilesRow, standIns := [], harness := (true, "b7cab20c9dd7c462dc3da6c9ee46db34d017eb48f4fb671560e1dafddf31f0de"), looks := true }, kinds := [], alts := [], laidByText := true, laidKinds := [.data, .data, .data, .data, .sentinel, .sentinel, .listed, .data, .pinned, .pinned], laidTests := true, laidLooks := .later }
def FoldTilesCardSaid : Prop := Claim7.holds Tryz.pinned (.plain (OpenSpec.ofChange foldTilesSpec)) foldTilesCard

/-- THE SECOND FORM's CARD OF 'gristlaw21.FoldEnds'. -/
def foldEndsUptoCard : Claim7 := { stood := { row := foldEndsUptoRow, standIns := [], harness := (true, "b7cab20c9dd7c462dc3da6c9ee46db34d017eb48f4fb671560e1dafddf31f0de"), looks := true }, kinds := [], alts := [], laidByText := true, laidKinds := [.data, .data, .data, .data, .sentinel, .sentinel, .listed, .data, .pinned, .pinned], laidTests := true, laidLooks := .later }
def FoldEndsUptoCardSaid : Prop := Claim7.holds Tryz.pinned (.plain (OpenSpec.upto foldEndsSpec)) foldEndsUptoCard

/-- THE SECOND FORM's CARD OF 'gristlaw21.FoldMeans'. -/
def foldMeansUptoCard : Claim7 := { stood := { row := foldMeansUptoRow, standIns := [], harness := (true, "b7cab20c9dd7c462dc3da6c9ee46db34d017eb48f4fb671560e1dafddf31f0de"), looks := true }, kinds := [], alts := [], laidByText := true, laidKinds := [.data, .data, .data, .data, .sentinel, .sentinel, .listed, .data, .pinned, .pinned], laidTests := true, laidLooks := .later }
def FoldMeansUptoCardSaid : Prop := Claim7.holds Tryz.pinned (.plain (OpenSpec.upto foldMeansSpec)) foldMeansUptoCard

/-- THE SECOND FORM's CARD OF 'gristlaw21.FoldFills'. -/
def foldFillsUptoCard : Claim7 := { stood := { row := foldFillsUptoRow, standIns := [], harness := (true, "b7cab20c9dd7c462dc3da6c9ee46db34d017eb48f4fb671560e1dafddf31f0de"), looks := true }, kinds := [], alts := [], laidByText := true, laidKinds := [.data, .data, .data, .data, .sentinel, .sentinel, .listed, .data, .pinned, .pinned], laidTests := true, laidLooks := .later }
def FoldFillsUptoCardSaid : Prop := Claim7.holds Tryz.pinned (.plain (OpenSpec.upto foldFillsSpec)) foldFillsUptoCard

/-- THE SECOND FORM's CARD OF 'gristlaw21.FoldWindows'. -/
def foldWindowsUptoCard : Claim7 := { stood := { row := foldWindowsUptoRow, standIns := [], harness := (true, "b7cab20c9dd7c462dc3da6c9ee46db34d017eb48f4fb671560e1dafddf31f0de"), looks := true }, kinds := [], alts := [], laidByText := true, laidKinds := [.data, .data, .data, .data, .sentinel, .sentinel, .listed, .data, .pinned, .pinned], laidTests := true, laidLooks := .later }
def FoldWindowsUptoCardSaid : Prop := Claim7.holds Tryz.pinned (.plain (OpenSpec.upto foldWindowsSpec)) foldWindowsUptoCard

/-- THE SECOND FORM's CARD OF 'gristlaw21.FoldTiles'. -/
def foldTilesUptoCard : Claim7 := { stood := { row := foldTilesUptoRow, standIns := [], harness := (true, "b7cab20c9dd7c462dc3da6c9ee46db34d017eb48f4fb671560e1dafddf31f0de"), looks := true }, kinds := [], alts := [], laidByText := true, laidKinds := [.data, .data, .data, .data, .sentinel, .sentinel, .listed, .data, .pinned, .pinned], laidTests := true, laidLooks := .later }
def FoldTilesUptoCardSaid : Prop := Claim7.holds Tryz.pinned (.plain (OpenSpec.upto foldTilesSpec)) foldTilesUptoCard
end Rows
end Go.Proofs.YtcpnmpemgkbanaaGreatDoor
