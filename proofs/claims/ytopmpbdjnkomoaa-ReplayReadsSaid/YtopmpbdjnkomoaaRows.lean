/-
  No cell of these rows narrows 'for every input' (looked for: loops, veiled, ifaces, maps, wideKeys, modest, calm, conditions, laid).
  DERIVED. THE GIVEN ROWS OF THIS SEAT. 5 by the template 'for every input the law returns true; each argument reads behind the call as it read before'; 0 by the template 'total and deterministic' (their statements: YtopmpbdjnkomoaaTotals.lean).
  GIVEN WITH THE SEED: the statements are not yours to turn. If you find one false, say at which input.
  Laid BY PROGRAM, IN A SANDBOX (cutbox-rows.mjs): the forced cells as the released guide's own fill.sh prints them over the translation 04d191c90b5140bc… (all of the seat's roots in one cut). By AI agents, Wed Nov 11 2026. No macro, syntax, notation, axiom, sorry.
-/
import Derived.Test.YtopmpbdjnkomoaaChecked
import GoSem.Claim
import GoSem.ClaimJoined
import GoSem.ClaimMapViews
import Derived.JoinedTies
import Derived.KernelRfl
namespace Go.Proofs.Ytopmpbdjnkomoaa
/- THE CELL 'sum', in the pinned program and in every row, IS THE sha256 OF THE DUMP (.gsa) THAT YtopmpbdjnkomoaaProg.lean LOADS. Nothing in Lean hashes anything: it is a label: what it is worth is what the hold of that sum in a sandbox is worth. -/
noncomputable def Try.pinned : Pinned := { name := "ytopmpbdjnkomoaa", sum := "04d191c90b5140bc7eabbd68f79e9b29806f037e8a74502cc11eb32cd71e296a", checked := Try.checked }
namespace Rows
def none {H : Type} : Left H := { results := [], args := [] }

/-- 'warpbeamlaw10.ReplayTells': WHATEVER THE INPUT: true; the input reads as it did. -/
def replayTellsSpec : ChangeSpec := { name := "replayTells", fn := fun _ => fun
  | [d1, d2, d3] => { results := [.lit (.bool true)], args := [d1, d2, d3] }
  | _ => none }
def replayTellsRow : OpenClaim := { program := "ytopmpbdjnkomoaa", sum := "04d191c90b5140bc7eabbd68f79e9b29806f037e8a74502cc11eb32cd71e296a", func := "warpbeam/warpbeamlaw10.ReplayTells", spec := "replayTells", unfollowed := true, recurses := true, apart := false }
def ReplayTellsSaid : Prop := replayTellsRow.holds Try.pinned (OpenSpec.ofChange replayTellsSpec)

/-- ITS FALSE NEIGHBOUR: 'it returns false'. Refute it at one input. -/
def replayTellsWrong : ChangeSpec := { name := "replayTells", fn := fun _ => fun
  | [d1, d2, d3] => { results := [.lit (.bool false)], args := [d1, d2, d3] }
  | _ => none }
def ReplayTellsWrongFalsely : Prop := replayTellsRow.holds Try.pinned (OpenSpec.ofChange replayTellsWrong)

/-- 'warpbeamlaw10.ReplayOwn': WHATEVER THE INPUT: true; the input reads as it did. -/
def replayOwnSpec : ChangeSpec := { name := "replayOwn", fn := fun _ => fun
  | [d1, d2] => { results := [.lit (.bool true)], args := [d1, d2] }
  | _ => none }
def replayOwnRow : OpenClaim := { program := "ytopmpbdjnkomoaa", sum := "04d191c90b5140bc7eabbd68f79e9b29806f037e8a74502cc11eb32cd71e296a", func := "warpbeam/warpbeamlaw10.ReplayOwn", spec := "replayOwn", unfollowed := true, recurses := true, apart := false }
def ReplayOwnSaid : Prop := replayOwnRow.holds Try.pinned (OpenSpec.ofChange replayOwnSpec)

/-- ITS FALSE NEIGHBOUR: 'it returns false'. Refute it at one input. -/
def replayOwnWrong : ChangeSpec := { name := "replayOwn", fn := fun _ => fun
  | [d1, d2] => { results := [.lit (.bool false)], args := [d1, d2] }
  | _ => none }
def ReplayOwnWrongFalsely : Prop := replayOwnRow.holds Try.pinned (OpenSpec.ofChange replayOwnWrong)

/-- 'warpbeamlaw10.ReplayParts': WHATEVER THE INPUT: true; the input reads as it did. -/
def replayPartsSpec : ChangeSpec := { name := "replayParts", fn := fun _ => fun
  | [d1, d2, d3] => { results := [.lit (.bool true)], args := [d1, d2, d3] }
  | _ => none }
def replayPartsRow : OpenClaim := { program := "ytopmpbdjnkomoaa", sum := "04d191c90b5140bc7eabbd68f79e9b29806f037e8a74502cc11eb32cd71e296a", func := "warpbeam/warpbeamlaw10.ReplayParts", spec := "replayParts", unfollowed := true, recurses := true, apart := false }
def ReplayPartsSaid : Prop := replayPartsRow.holds Try.pinned (OpenSpec.ofChange replayPartsSpec)

/-- ITS FALSE NEIGHBOUR: 'it returns false'. Refute it at one input. -/
def replayPartsWrong : ChangeSpec := { name := "replayParts", fn := fun _ => fun
  | [d1, d2, d3] => { results := [.lit (.bool false)], args := [d1, d2, d3] }
  | _ => none }
def ReplayPartsWrongFalsely : Prop := replayPartsRow.holds Try.pinned (OpenSpec.ofChange replayPartsWrong)

/-- 'warpbeamlaw10.ReplayReads': WHATEVER THE INPUT: true; the input reads as it did. -/
def replayReadsSpec : ChangeSpec := { name := "replayReads", fn := fun _ => fun
  | [d1, d2, d3] => { results := [.lit (.bool true)], args := [d1, d2, d3] }
  | _ => none }
def replayReadsRow : OpenClaim := { program := "ytopmpbdjnkomoaa", sum := "04d191c90b5140bc7eabbd68f79e9b29806f037e8a74502cc11eb32cd71e296a", func := "warpbeam/warpbeamlaw10.ReplayReads", spec := "replayReads", unfollowed := true, recurses := true, apart := false }
def ReplayReadsSaid : Prop := replayReadsRow.holds Try.pinned (OpenSpec.ofChange replayReadsSpec)

/-- ITS FALSE NEIGHBOUR: 'it returns false'. Refute it at one input. -/
def replayReadsWrong : ChangeSpec := { name := "replayReads", fn := fun _ => fun
  | [d1, d2, d3] => { results := [.lit (.bool false)], args := [d1, d2, d3] }
  | _ => none }
def ReplayReadsWrongFalsely : Prop := replayReadsRow.holds Try.pinned (OpenSpec.ofChange replayReadsWrong)

/-- 'warpbeamlaw10.ReplayTwice': WHATEVER THE INPUT: true; the input reads as it did. -/
def replayTwiceSpec : ChangeSpec := { name := "replayTwice", fn := fun _ => fun
  | [d1, d2] => { results := [.lit (.bool true)], args := [d1, d2] }
  | _ => none }
def replayTwiceRow : OpenClaim := { program := "ytopmpbdjnkomoaa", sum := "04d191c90b5140bc7eabbd68f79e9b29806f037e8a74502cc11eb32cd71e296a", func := "warpbeam/warpbeamlaw10.ReplayTwice", spec := "replayTwice", unfollowed := true, recurses := true, apart := false }
def ReplayTwiceSaid : Prop := replayTwiceRow.holds Try.pinned (OpenSpec.ofChange replayTwiceSpec)

/-- ITS FALSE NEIGHBOUR: 'it returns false'. Refute it at one input. -/
def replayTwiceWrong : ChangeSpec := { name := "replayTwice", fn := fun _ => fun
  | [d1, d2] => { results := [.lit (.bool false)], args := [d1, d2] }
  | _ => none }
def ReplayTwiceWrongFalsely : Prop := replayTwiceRow.holds Try.pinned (OpenSpec.ofChange replayTwiceWrong)

/- THE SECOND FORM. 'bulk': how many values and letters a reading holds, each counted each time it is reached (what is shared counts as often as it is met; a slice's spare places count too). A statement '..UptoSaid' is the law's where the arguments, and the package variables that the reading takes, are together of bulk at most 1048576: NARROWER than '..Said'. Prove '..Said' where nothing that the law and all that it calls make is longer than what came in: it says more and counts as full. Else prove '..UptoSaid'. A law counts once. -/
mutual
def uptoBulk {H : Type} : DataW H → Nat
  | .lit (.string bytes) => bytes.length + 1
  | .lit _ => 1
  | .nil => 1
  | .ptr d => uptoBulk d + 1
  | .slice elems spare => uptoBulkAll elems + uptoBulkAll spare + 1
  | .agg parts => uptoBulkAll parts + 1
  | .iface _ d => uptoBulk d + 1
  | .map entries => uptoBulkEntries entries + 1
  | .held _ => 1
def uptoBulkAll {H : Type} : List (DataW H) → Nat
  | [] => 0
  | d :: r => uptoBulk d + uptoBulkAll r
def uptoBulkEntries {H : Type} : List (Lit × DataW H) → Nat
  | [] => 0
  | x :: r => uptoBulkEntry x + uptoBulkEntries r
def uptoBulkEntry {H : Type} : Lit × DataW H → Nat
  | (.string bytes, d) => bytes.length + uptoBulk d + 1
  | (_, d) => uptoBulk d + 1
 end
def uptoSmall : (H : Type) → List (DataW H) → Bool := fun _ ds => decide (uptoBulkAll ds ≤ 1048576)
def OpenSpec.upto (s : _root_.Go.ChangeSpec) : _root_.Go.OpenSpec := { _root_.Go.OpenSpec.ofChange s with cond := some uptoSmall }

/-- 'warpbeamlaw10.ReplayTells', WHERE WHAT IT READS IS OF BULK AT MOST 1048576: true; the input reads as it did. -/
def replayTellsUptoRow : OpenClaim := { program := "ytopmpbdjnkomoaa", sum := "04d191c90b5140bc7eabbd68f79e9b29806f037e8a74502cc11eb32cd71e296a", func := "warpbeam/warpbeamlaw10.ReplayTells", spec := "replayTells", unfollowed := true, recurses := true, apart := false, narrowed := true }
def ReplayTellsUptoSaid : Prop := replayTellsUptoRow.holds Try.pinned (OpenSpec.upto replayTellsSpec)

/-- 'warpbeamlaw10.ReplayOwn', WHERE WHAT IT READS IS OF BULK AT MOST 1048576: true; the input reads as it did. -/
def replayOwnUptoRow : OpenClaim := { program := "ytopmpbdjnkomoaa", sum := "04d191c90b5140bc7eabbd68f79e9b29806f037e8a74502cc11eb32cd71e296a", func := "warpbeam/warpbeamlaw10.ReplayOwn", spec := "replayOwn", unfollowed := true, recurses := true, apart := false, narrowed := true }
def ReplayOwnUptoSaid : Prop := replayOwnUptoRow.holds Try.pinned (OpenSpec.upto replayOwnSpec)

/-- 'warpbeamlaw10.ReplayParts', WHERE WHAT IT READS IS OF BULK AT MOST 1048576: true; the input reads as it did. -/
def replayPartsUptoRow : OpenClaim := { program := "ytopmpbdjnkomoaa", sum := "04d191c90b5140bc7eabbd68f79e9b29806f037e8a74502cc11eb32cd71e296a", func := "warpbeam/warpbeamlaw10.ReplayParts", spec := "replayParts", unfollowed := true, recurses := true, apart := false, narrowed := true }
def ReplayPartsUptoSaid : Prop := replayPartsUptoRow.holds Try.pinned (OpenSpec.upto replayPartsSpec)

/-- 'warpbeamlaw10.ReplayReads', WHERE WHAT IT READS IS OF BULK AT MOST 1048576: true; the input reads as it did. -/
def replayReadsUptoRow : OpenClaim := { program := "ytopmpbdjnkomoaa", sum := "04d191c90b5140bc7eabbd68f79e9b29806f037e8a74502cc11eb32cd71e296a", func := "warpbeam/warpbeamlaw10.ReplayReads", spec := "replayReads", unfollowed := true, recurses := true, apart := false, narrowed := true }
def ReplayReadsUptoSaid : Prop := replayReadsUptoRow.holds Try.pinned (OpenSpec.upto replayReadsSpec)

/-- 'warpbeamlaw10.ReplayTwice', WHERE WHAT IT READS IS OF BULK AT MOST 1048576: true; the input reads as it did. -/
def replayTwiceUptoRow : OpenClaim := { program := "ytopmpbdjnkomoaa", sum := "04d191c90b5140bc7eabbd68f79e9b29806f037e8a74502cc11eb32cd71e296a", func := "warpbeam/warpbeamlaw10.ReplayTwice", spec := "replayTwice", unfollowed := true, recurses := true, apart := false, narrowed := true }
def ReplayTwiceUptoSaid : Prop := replayTwiceUptoRow.holds Try.pinned (OpenSpec.upto replayTwiceSpec)

end Rows
end Go.Proofs.Ytopmpbdjnkomoaa
