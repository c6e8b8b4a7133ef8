/-
  DERIVED. GIVEN WITH THE SEED: THE CARDS: each row of YthiicbpoahilcaaDoorRows.lean that lists a variable, with what it lists TIED to the program's text (the seventh form; the later family's looks); each row that meets fmt, with fmt's text TOLD by the authors' own Lean function (tested against real Go, not proved from fmt's source: count such statements apart). THE CARD IS WHAT COUNTS. Prove the row's statement (the work); the ties are given (YthiicbpoahilcaaDoorTie.lean); close each card by the builder's one call (the guide's Derived/Test/ToyasCard.lean, 'card_holds'). Laid BY PROGRAM, IN A SANDBOX (cutbox-door.mjs). By AI agents, Wed Nov 11 2026. No macro, syntax, notation, axiom, sorry.
-/
import Derived.Test.YthiicbpoahilcaaDoorRows
import GoSem.ClaimSeven
namespace Go.Proofs.YthiicbpoahilcaaDoor
namespace Rows

/-- THE TIED CARD OF 'warpbeamlaw04.TopoTells'. -/
def topoTellsCard : Claim7 := { stood := { row := topoTellsRow, standIns := [], harness := (true, "2ac7f718ff3ae261c5bb6cc2845c236982b2770a7b73691c668fa9d0acda450a"), looks := false }, kinds := [], alts := [], laidByText := true, laidKinds := [.data], laidTests := true, laidLooks := .later }
def TopoTellsCardSaid : Prop := Claim7.holds Tryd.pinned (.plain (OpenSpec.ofChange topoTellsSpec)) topoTellsCard

/-- THE TIED CARD OF 'warpbeamlaw04.TopoGrows'. -/
def topoGrowsCard : Claim7 := { stood := { row := topoGrowsRow, standIns := [], harness := (true, "2ac7f718ff3ae261c5bb6cc2845c236982b2770a7b73691c668fa9d0acda450a"), looks := false }, kinds := [], alts := [], laidByText := true, laidKinds := [.data], laidTests := true, laidLooks := .later }
def TopoGrowsCardSaid : Prop := Claim7.holds Tryd.pinned (.plain (OpenSpec.ofChange topoGrowsSpec)) topoGrowsCard

/-- THE TIED CARD OF 'warpbeamlaw04.TopoKeeps'. -/
def topoKeepsCard : Claim7 := { stood := { row := topoKeepsRow, standIns := [], harness := (true, "2ac7f718ff3ae261c5bb6cc2845c236982b2770a7b73691c668fa9d0acda450a"), looks := false }, kinds := [], alts := [], laidByText := true, laidKinds := [.data], laidTests := true, laidLooks := .later }
def TopoKeepsCardSaid : Prop := Claim7.holds Tryd.pinned (.plain (OpenSpec.ofChange topoKeepsSpec)) topoKeepsCard

/-- THE TIED CARD OF 'warpbeamlaw04.TopoRows'. -/
def topoRowsCard : Claim7 := { stood := { row := topoRowsRow, standIns := [], harness := (true, "2ac7f718ff3ae261c5bb6cc2845c236982b2770a7b73691c668fa9d0acda450a"), looks := false }, kinds := [], alts := [], laidByText := true, laidKinds := [.data], laidTests := true, laidLooks := .later }
def TopoRowsCardSaid : Prop := Claim7.holds Tryd.pinned (.plain (OpenSpec.ofChange topoRowsSpec)) topoRowsCard

/-- THE TIED CARD OF 'warpbeamlaw04.TopoAgain'. -/
def topoAgainCard : Claim7 := { stood := { row := topoAgainRow, standIns := [], harness := (true, "2ac7f718ff3ae261c5bb6cc2845c236982b2770a7b73691c668fa9d0acda450a"), looks := false }, kinds := [], alts := [], laidByText := true, laidKinds := [.data], laidTests := true, laidLooks := .later }
def TopoAgainCardSaid : Prop := Claim7.holds Tryd.pinned (.plain (OpenSpec.ofChange topoAgainSpec)) topoAgainCard

/-- THE TIED CARD OF 'warpbeamlaw04.TopoSorted'. -/
def topoSortedCard : Claim7 := { stood := { row := topoSortedRow, standIns := [], harness := (true, "2ac7f718ff3ae261c5bb6cc2845c236982b2770a7b73691c668fa9d0acda450a"), looks := false }, kinds := [], alts := [], laidByText := true, laidKinds := [.data], laidTests := true, laidLooks := .later }
def TopoSortedCardSaid : Prop := Claim7.holds Tryd.pinned (.plain (OpenSpec.ofChange topoSortedSpec)) topoSortedCard

/-- THE TIED CARD OF 'warpbeamlaw04.TopoRefuses'. -/
def topoRefusesCard : Claim7 := { stood := { row := topoRefusesRow, standIns := [], harness := (true, "2ac7f718ff3ae261c5bb6cc2845c236982b2770a7b73691c668fa9d0acda450a"), looks := false }, kinds := [], alts := [], laidByText := true, laidKinds := [.data], laidTests := true, laidLooks := .later }
def TopoRefusesCardSaid : Prop := Claim7.holds Tryd.pinned (.plain (OpenSpec.ofChange topoRefusesSpec)) topoRefusesCard

/-- THE SECOND FORM's CARD OF 'warpbeamlaw04.TopoTells'. -/
def topoTellsUptoCard : Claim7 := { stood := { row := topoTellsUptoRow, standIns := [], harness := (true, "2ac7f718ff3ae261c5bb6cc2845c236982b2770a7b73691c668fa9d0acda450a"), looks := false }, kinds := [], alts := [], laidByText := true, laidKinds := [.data], laidTests := true, laidLooks := .later }
def TopoTellsUptoCardSaid : Prop := Claim7.holds Tryd.pinned (.plain (OpenSpec.upto topoTellsSpec)) topoTellsUptoCard

/-- THE SECOND FORM's CARD OF 'warpbeamlaw04.TopoGrows'. -/
def topoGrowsUptoCard : Claim7 := { stood := { row := topoGrowsUptoRow, standIns := [], harness := (true, "2ac7f718ff3ae261c5bb6cc2845c236982b2770a7b73691c668fa9d0acda450a"), looks := false }, kinds := [], alts := [], laidByText := true, laidKinds := [.data], laidTests := true, laidLooks := .later }
def TopoGrowsUptoCardSaid : Prop := Claim7.holds Tryd.pinned (.plain (OpenSpec.upto topoGrowsSpec)) topoGrowsUptoCard

/-- THE SECOND FORM's CARD OF 'warpbeamlaw04.TopoKeeps'. -/
def topoKeepsUptoCard : Claim7 := { stood := { row := topoKeepsUptoRow, standIns := [], harness := (true, "2ac7f718ff3ae261c5bb6cc2845c236982b2770a7b73691c668fa9d0acda450a"), looks := false }, kinds := [], alts := [], laidByText := true, laidKinds := [.data], laidTests := true, laidLooks := .later }
def TopoKeepsUptoCardSaid : Prop := Claim7.holds Tryd.pinned (.plain (OpenSpec.upto topoKeepsSpec)) topoKeepsUptoCard

/-- THE SECOND FORM's CARD OF 'warpbeamlaw04.TopoRows'. -/
def topoRowsUptoCard : Claim7 := { stood := { row := topoRowsUptoRow, standIns := [], harness := (true, "2ac7f718ff3ae261c5bb6cc2845c236982b2770a7b73691c668fa9d0acda450a"), looks := false }, kinds := [], alts := [], laidByText := true, laidKinds := [.data], laidTests := true, laidLooks := .later }
def TopoRowsUptoCardSaid : Prop := Claim7.holds Tryd.pinned (.plain (OpenSpec.upto topoRowsSpec)) topoRowsUptoCard

/-- THE SECOND FORM's CARD OF 'warpbeamlaw04.TopoAgain'. -/
def topoAgainUptoCard : Claim7 := { stood := { row := topoAgainUptoRow, standIns := [], harness := (true, "2ac7f718ff3ae261c5bb6cc2845c236982b2770a7b73691c668fa9d0acda450a"), looks := false }, kinds := [], alts := [], laidByText := true, laidKinds := [.data], laidTests := true, laidLooks := .later }
def TopoAgainUptoCardSaid : Prop := Claim7.holds Tryd.pinned (.plain (OpenSpec.upto topoAgainSpec)) topoAgainUptoCard

/-- THE SECOND FORM's CARD OF 'warpbeamlaw04.TopoSorted'. -/
def topoSortedUptoCard : Claim7 := { stood := { row := topoSortedUptoRow, standIns := [], harness := (true, "2ac7f718ff3ae261c5bb6cc2845c236982b2770a7b73691c668fa9d0acda450a"), looks := false }, kinds := [], alts := [], laidByText := true, laidKinds := [.data], laidTests := true, laidLooks := .later }
def TopoSortedUptoCardSaid : Prop := Claim7.holds Tryd.pinned (.plain (OpenSpec.upto topoSortedSpec)) topoSortedUptoCard

/-- THE SECOND FORM's CARD OF 'warpbeamlaw04.TopoRefuses'. -/
def topoRefusesUptoCard : Claim7 := { stood := { row := topoRefusesUptoRow, standIns := [], harness := (true, "2ac7f718ff3ae261c5bb6cc2845c236982b2770a7b73691c668fa9d0acda450a"), looks := false }, kinds := [], alts := [], laidByText := true, laidKinds := [.data], laidTests := true, laidLooks := .later }
def TopoRefusesUptoCardSaid : Prop := Claim7.holds Tryd.pinned (.plain (OpenSpec.upto topoRefusesSpec)) topoRefusesUptoCard
end Rows
end Go.Proofs.YthiicbpoahilcaaDoor
