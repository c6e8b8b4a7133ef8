/-
  DERIVED. GIVEN WITH THE SEED: THE CARDS: each row of YtaflihoopnjcgaaDoorRows.lean that lists a variable, with what it lists TIED to the program's text (the seventh form; the later family's looks); each row that meets fmt, with fmt's text TOLD by the authors' own Lean function (tested against real Go, not proved from fmt's source: count such statements apart). THE CARD IS WHAT COUNTS. Prove the row's statement (the work); the ties are given (YtaflihoopnjcgaaDoorTie.lean); close each card by the builder's one call (the guide's Derived/Test/ToyasCard.lean, 'card_holds'). Laid BY PROGRAM, IN A SANDBOX (cutbox-door.mjs). By AI agents, Wed Nov 11 2026. No macro, syntax, notation, axiom, sorry.
-/
import Derived.Test.YtaflihoopnjcgaaDoorRows
import GoSem.ClaimSeven
namespace Go.Proofs.YtaflihoopnjcgaaDoor
namespace Rows

/-- THE TIED CARD OF 'warpbeamlaw05.PoolActs'. -/
def poolActsCard : Claim7 := { stood := { row := poolActsRow, standIns := [], harness := (true, "35591b53fd09d4d5934b113e4c7e45025bbae91d012d3ef1f358135f0f8ec358"), looks := false }, kinds := [], alts := [], laidByText := true, laidKinds := [.data], laidTests := true, laidLooks := .later }
def PoolActsCardSaid : Prop := Claim7.holds Tryd.pinned (.plain (OpenSpec.ofChange poolActsSpec)) poolActsCard

/-- THE TIED CARD OF 'warpbeamlaw05.PoolGoes'. -/
def poolGoesCard : Claim7 := { stood := { row := poolGoesRow, standIns := [], harness := (true, "35591b53fd09d4d5934b113e4c7e45025bbae91d012d3ef1f358135f0f8ec358"), looks := false }, kinds := [], alts := [], laidByText := true, laidKinds := [.data], laidTests := true, laidLooks := .later }
def PoolGoesCardSaid : Prop := Claim7.holds Tryd.pinned (.plain (OpenSpec.ofChange poolGoesSpec)) poolGoesCard

/-- THE TIED CARD OF 'warpbeamlaw05.PoolNumbers'. -/
def poolNumbersCard : Claim7 := { stood := { row := poolNumbersRow, standIns := [], harness := (true, "35591b53fd09d4d5934b113e4c7e45025bbae91d012d3ef1f358135f0f8ec358"), looks := false }, kinds := [], alts := [], laidByText := true, laidKinds := [.data], laidTests := true, laidLooks := .later }
def PoolNumbersCardSaid : Prop := Claim7.holds Tryd.pinned (.plain (OpenSpec.ofChange poolNumbersSpec)) poolNumbersCard

/-- THE TIED CARD OF 'warpbeamlaw05.PoolRoom'. -/
def poolRoomCard : Claim7 := { stood := { row := poolRoomRow, standIns := [], harness := (true, "35591b53fd09d4d5934b113e4c7e45025bbae91d012d3ef1f358135f0f8ec358"), looks := false }, kinds := [], alts := [], laidByText := true, laidKinds := [.data], laidTests := true, laidLooks := .later }
def PoolRoomCardSaid : Prop := Claim7.holds Tryd.pinned (.plain (OpenSpec.ofChange poolRoomSpec)) poolRoomCard

/-- THE TIED CARD OF 'warpbeamlaw05.PoolEdges'. -/
def poolEdgesCard : Claim7 := { stood := { row := poolEdgesRow, standIns := [], harness := (true, "35591b53fd09d4d5934b113e4c7e45025bbae91d012d3ef1f358135f0f8ec358"), looks := false }, kinds := [], alts := [], laidByText := true, laidKinds := [.data], laidTests := true, laidLooks := .later }
def PoolEdgesCardSaid : Prop := Claim7.holds Tryd.pinned (.plain (OpenSpec.ofChange poolEdgesSpec)) poolEdgesCard

/-- THE TIED CARD OF 'warpbeamlaw05.PoolTime'. -/
def poolTimeCard : Claim7 := { stood := { row := poolTimeRow, standIns := [], harness := (true, "35591b53fd09d4d5934b113e4c7e45025bbae91d012d3ef1f358135f0f8ec358"), looks := false }, kinds := [], alts := [], laidByText := true, laidKinds := [.data], laidTests := true, laidLooks := .later }
def PoolTimeCardSaid : Prop := Claim7.holds Tryd.pinned (.plain (OpenSpec.ofChange poolTimeSpec)) poolTimeCard

/-- THE SECOND FORM's CARD OF 'warpbeamlaw05.PoolActs'. -/
def poolActsUptoCard : Claim7 := { stood := { row := poolActsUptoRow, standIns := [], harness := (true, "35591b53fd09d4d5934b113e4c7e45025bbae91d012d3ef1f358135f0f8ec358"), looks := false }, kinds := [], alts := [], laidByText := true, laidKinds := [.data], laidTests := true, laidLooks := .later }
def PoolActsUptoCardSaid : Prop := Claim7.holds Tryd.pinned (.plain (OpenSpec.upto poolActsSpec)) poolActsUptoCard

/-- THE SECOND FORM's CARD OF 'warpbeamlaw05.PoolGoes'. -/
def poolGoesUptoCard : Claim7 := { stood := { row := poolGoesUptoRow, standIns := [], harness := (true, "35591b53fd09d4d5934b113e4c7e45025bbae91d012d3ef1f358135f0f8ec358"), looks := false }, kinds := [], alts := [], laidByText := true, laidKinds := [.data], laidTests := true, laidLooks := .later }
def PoolGoesUptoCardSaid : Prop := Claim7.holds Tryd.pinned (.plain (OpenSpec.upto poolGoesSpec)) poolGoesUptoCard

/-- THE SECOND FORM's CARD OF 'warpbeamlaw05.PoolNumbers'. -/
def poolNumbersUptoCard : Claim7 := { stood := { row := poolNumbersUptoRow, standIns := [], harness := (true, "35591b53fd09d4d5934b113e4c7e45025bbae91d012d3ef1f358135f0f8ec358"), looks := false }, kinds := [], alts := [], laidByText := true, laidKinds := [.data], laidTests := true, laidLooks := .later }
def PoolNumbersUptoCardSaid : Prop := Claim7.holds Tryd.pinned (.plain (OpenSpec.upto poolNumbersSpec)) poolNumbersUptoCard

/-- THE SECOND FORM's CARD OF 'warpbeamlaw05.PoolRoom'. -/
def poolRoomUptoCard : Claim7 := { stood := { row := poolRoomUptoRow, standIns := [], harness := (true, "35591b53fd09d4d5934b113e4c7e45025bbae91d012d3ef1f358135f0f8ec358"), looks := false }, kinds := [], alts := [], laidByText := true, laidKinds := [.data], laidTests := true, laidLooks := .later }
def PoolRoomUptoCardSaid : Prop := Claim7.holds Tryd.pinned (.plain (OpenSpec.upto poolRoomSpec)) poolRoomUptoCard

/-- THE SECOND FORM's CARD OF 'warpbeamlaw05.PoolEdges'. -/
def poolEdgesUptoCard : Claim7 := { stood := { row := poolEdgesUptoRow, standIns := [], harness := (true, "35591b53fd09d4d5934b113e4c7e45025bbae91d012d3ef1f358135f0f8ec358"), looks := false }, kinds := [], alts := [], laidByText := true, laidKinds := [.data], laidTests := true, laidLooks := .later }
def PoolEdgesUptoCardSaid : Prop := Claim7.holds Tryd.pinned (.plain (OpenSpec.upto poolEdgesSpec)) poolEdgesUptoCard

/-- THE SECOND FORM's CARD OF 'warpbeamlaw05.PoolTime'. -/
def poolTimeUptoCard : Claim7 := { stood := { row := poolTimeUptoRow, standIns := [], harness := (true, "35591b53fd09d4d5934b113e4c7e45025bbae91d012d3ef1f358135f0f8ec358"), looks := false }, kinds := [], alts := [], laidByText := true, laidKinds := [.data], laidTests := true, laidLooks := .later }
def PoolTimeUptoCardSaid : Prop := Claim7.holds Tryd.pinned (.plain (OpenSpec.upto poolTimeSpec)) poolTimeUptoCard
end Rows
end Go.Proofs.YtaflihoopnjcgaaDoor
