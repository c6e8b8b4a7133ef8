/-
  DERIVED. GIVEN WITH THE SEED: THE CARDS: each row of YtopmpbdjnkomoaaDoorRows.lean that lists a variable, with what it lists TIED to the program's text (the seventh form; the later family's looks); each row that meets fmt, with fmt's text TOLD by the authors' own Lean function (tested against real Go, not proved from fmt's source: count such statements apart). THE CARD IS WHAT COUNTS. Prove the row's statement (the work); the ties are given (YtopmpbdjnkomoaaDoorTie.lean); close each card by the builder's one call (the guide's Derived/Test/ToyasCard.lean, 'card_holds'). Laid BY PROGRAM, IN A SANDBOX (cutbox-door.mjs). By AI agents, Wed Nov 11 2026. No macro, syntax, notation, axiom, sorry.
-/
import Derived.Test.YtopmpbdjnkomoaaDoorRows
import GoSem.ClaimSeven
namespace Go.Proofs.YtopmpbdjnkomoaaDoor
namespace Rows

/-- THE TIED CARD OF 'warpbeamlaw06.ValueTexts'. -/
def valueTextsCard : Claim7 := { stood := { row := valueTextsRow, standIns := [], harness := (true, "62910b0d115b2acd1a22fd5ff0c5ce221bf99e89251a6a1956588d2212165596"), looks := true }, kinds := [], alts := [], laidByText := true, laidKinds := [.data, .data, .data, .sentinel, .sentinel], laidTests := true, laidLooks := .later }
def ValueTextsCardSaid : Prop := Claim7.holds Tryd.pinned (.plain (OpenSpec.ofChange valueTextsSpec)) valueTextsCard

/-- THE TIED CARD OF 'warpbeamlaw06.ValueBack'. -/
def valueBackCard : Claim7 := { stood := { row := valueBackRow, standIns := [], harness := (true, "62910b0d115b2acd1a22fd5ff0c5ce221bf99e89251a6a1956588d2212165596"), looks := true }, kinds := [], alts := [], laidByText := true, laidKinds := [.data, .data, .data, .sentinel, .sentinel], laidTests := true, laidLooks := .later }
def ValueBackCardSaid : Prop := Claim7.holds Tryd.pinned (.plain (OpenSpec.ofChange valueBackSpec)) valueBackCard

/-- THE TIED CARD OF 'warpbeamlaw06.ValueShapes'. -/
def valueShapesCard : Claim7 := { stood := { row := valueShapesRow, standIns := [], harness := (true, "62910b0d115b2acd1a22fd5ff0c5ce221bf99e89251a6a1956588d2212165596"), looks := true }, kinds := [], alts := [], laidByText := true, laidKinds := [.data, .data, .data, .sentinel, .sentinel], laidTests := true, laidLooks := .later }
def ValueShapesCardSaid : Prop := Claim7.holds Tryd.pinned (.plain (OpenSpec.ofChange valueShapesSpec)) valueShapesCard

/-- THE TIED CARD OF 'warpbeamlaw06.ValueTells'. -/
def valueTellsCard : Claim7 := { stood := { row := valueTellsRow, standIns := [], harness := (true, "62910b0d115b2acd1a22fd5ff0c5ce221bf99e89251a6a1956588d2212165596"), looks := true }, kinds := [], alts := [], laidByText := true, laidKinds := [.data, .data, .data, .sentinel, .sentinel], laidTests := true, laidLooks := .later }
def ValueTellsCardSaid : Prop := Claim7.holds Tryd.pinned (.plain (OpenSpec.ofChange valueTellsSpec)) valueTellsCard

/-- THE TIED CARD OF 'warpbeamlaw06.ValueNumbers'. -/
def valueNumbersCard : Claim7 := { stood := { row := valueNumbersRow, standIns := [], harness := (true, "62910b0d115b2acd1a22fd5ff0c5ce221bf99e89251a6a1956588d2212165596"), looks := true }, kinds := [], alts := [], laidByText := true, laidKinds := [.data, .data, .data, .sentinel, .sentinel], laidTests := true, laidLooks := .later }
def ValueNumbersCardSaid : Prop := Claim7.holds Tryd.pinned (.plain (OpenSpec.ofChange valueNumbersSpec)) valueNumbersCard

/-- THE TIED CARD OF 'warpbeamlaw06.ValueKinds'. -/
def valueKindsCard : Claim7 := { stood := { row := valueKindsRow, standIns := [], harness := (true, "62910b0d115b2acd1a22fd5ff0c5ce221bf99e89251a6a1956588d2212165596"), looks := true }, kinds := [], alts := [], laidByText := true, laidKinds := [.data, .data, .data, .sentinel, .sentinel], laidTests := true, laidLooks := .later }
def ValueKindsCardSaid : Prop := Claim7.holds Tryd.pinned (.plain (OpenSpec.ofChange valueKindsSpec)) valueKindsCard

/-- THE TIED CARD OF 'warpbeamlaw04.TopoTells'. -/
def topoTellsCard : Claim7 := { stood := { row := topoTellsRow, standIns := [], harness := (true, "62910b0d115b2acd1a22fd5ff0c5ce221bf99e89251a6a1956588d2212165596"), looks := true }, kinds := [], alts := [], laidByText := true, laidKinds := [.data], laidTests := true, laidLooks := .later }
def TopoTellsCardSaid : Prop := Claim7.holds Tryd.pinned (.plain (OpenSpec.ofChange topoTellsSpec)) topoTellsCard

/-- THE SECOND FORM's CARD OF 'warpbeamlaw06.ValueTexts'. -/
def valueTextsUptoCard : Claim7 := { stood := { row := valueTextsUptoRow, standIns := [], harness := (true, "62910b0d115b2acd1a22fd5ff0c5ce221bf99e89251a6a1956588d2212165596"), looks := true }, kinds := [], alts := [], laidByText := true, laidKinds := [.data, .data, .data, .sentinel, .sentinel], laidTests := true, laidLooks := .later }
def ValueTextsUptoCardSaid : Prop := Claim7.holds Tryd.pinned (.plain (OpenSpec.upto valueTextsSpec)) valueTextsUptoCard

/-- THE SECOND FORM's CARD OF 'warpbeamlaw06.ValueBack'. -/
def valueBackUptoCard : Claim7 := { stood := { row := valueBackUptoRow, standIns := [], harness := (true, "62910b0d115b2acd1a22fd5ff0c5ce221bf99e89251a6a1956588d2212165596"), looks := true }, kinds := [], alts := [], laidByText := true, laidKinds := [.data, .data, .data, .sentinel, .sentinel], laidTests := true, laidLooks := .later }
def ValueBackUptoCardSaid : Prop := Claim7.holds Tryd.pinned (.plain (OpenSpec.upto valueBackSpec)) valueBackUptoCard

/-- THE SECOND FORM's CARD OF 'warpbeamlaw06.ValueShapes'. -/
def valueShapesUptoCard : Claim7 := { stood := { row := valueShapesUptoRow, standIns := [], harness := (true, "62910b0d115b2acd1a22fd5ff0c5ce221bf99e89251a6a1956588d2212165596"), looks := true }, kinds := [], alts := [], laidByText := true, laidKinds := [.data, .data, .data, .sentinel, .sentinel], laidTests := true, laidLooks := .later }
def ValueShapesUptoCardSaid : Prop := Claim7.holds Tryd.pinned (.plain (OpenSpec.upto valueShapesSpec)) valueShapesUptoCard

/-- THE SECOND FORM's CARD OF 'warpbeamlaw06.ValueTells'. -/
def valueTellsUptoCard : Claim7 := { stood := { row := valueTellsUptoRow, standIns := [], harness := (true, "62910b0d115b2acd1a22fd5ff0c5ce221bf99e89251a6a1956588d2212165596"), looks := true }, kinds := [], alts := [], laidByText := true, laidKinds := [.data, .data, .data, .sentinel, .sentinel], laidTests := true, laidLooks := .later }
def ValueTellsUptoCardSaid : Prop := Claim7.holds Tryd.pinned (.plain (OpenSpec.upto valueTellsSpec)) valueTellsUptoCard

/-- THE SECOND FORM's CARD OF 'warpbeamlaw06.ValueNumbers'. -/
def valueNumbersUptoCard : Claim7 := { stood := { row := valueNumbersUptoRow, standIns := [], harness := (true, "62910b0d115b2acd1a22fd5ff0c5ce221bf99e89251a6a1956588d2212165596"), looks := true }, kinds := [], alts := [], laidByText := true, laidKinds := [.data, .data, .data, .sentinel, .sentinel], laidTests := true, laidLooks := .later }
def ValueNumbersUptoCardSaid : Prop := Claim7.holds Tryd.pinned (.plain (OpenSpec.upto valueNumbersSpec)) valueNumbersUptoCard

/-- THE SECOND FORM's CARD OF 'warpbeamlaw06.ValueKinds'. -/
def valueKindsUptoCard : Claim7 := { stood := { row := valueKindsUptoRow, standIns := [], harness := (true, "62910b0d115b2acd1a22fd5ff0c5ce221bf99e89251a6a1956588d2212165596"), looks := true }, kinds := [], alts := [], laidByText := true, laidKinds := [.data, .data, .data, .sentinel, .sentinel], laidTests := true, laidLooks := .later }
def ValueKindsUptoCardSaid : Prop := Claim7.holds Tryd.pinned (.plain (OpenSpec.upto valueKindsSpec)) valueKindsUptoCard

/-- THE SECOND FORM's CARD OF 'warpbeamlaw04.TopoTells'. -/
def topoTellsUptoCard : Claim7 := { stood := { row := topoTellsUptoRow, standIns := [], harness := (true, "62910b0d115b2acd1a22fd5ff0c5ce221bf99e89251a6a1956588d2212165596"), looks := true }, kinds := [], alts := [], laidByText := true, laidKinds := [.data], laidTests := true, laidLooks := .later }
def TopoTellsUptoCardSaid : Prop := Claim7.holds Tryd.pinned (.plain (OpenSpec.upto topoTellsSpec)) topoTellsUptoCard
end Rows
end Go.Proofs.YtopmpbdjnkomoaaDoor
