/- The tied card of ValueKinds. No conditions. -/
import Derived.Test.YtopmpbdjnkomoaaDoorRKinds
import Derived.Test.YtopmpbdjnkomoaaDoorTie
import Derived.Test.YtopmpbdjnkomoaaDoorCards
import Derived.SevenTiedAt
namespace Go.Proofs.YtopmpbdjnkomoaaDoor.cardValueKinds
open Go

theorem proved : Rows.ValueKindsCardSaid :=
  Claim7.holds_tied_plain_at .later [] [.data, .data, .data, .sentinel, .sentinel] true (true, "62910b0d115b2acd1a22fd5ff0c5ce221bf99e89251a6a1956588d2212165596") true
    rowValueKinds.proved (fun _ h => by cases h) (by kernel_rfl) (fun _ h => by cases h) valueKinds_row_tie rfl ⟨rfl, rfl⟩ (by kernel_rfl) rfl
    (fun f fn hf hfn => by
      obtain rfl : f = 8 := Option.some.inj ((show Tryd.prog.funcNamed "warpbeam/warpbeamlaw06.ValueKinds" = some 8 by kernel_rfl).symm.trans hf) |>.symm
      obtain rfl : fn = Tryd.f8 := (Option.some.inj (Tryd.func8.symm.trans hfn)).symm
      exact ⟨by kernel_rfl, fun j t ht => by
        rw [Tryd.params8] at ht
        have hm : t ∈ [28] := by simpa using Array.mem_of_getElem? ht
        have hall : ([28].all fun u => !Tryd.prog.wantsStandIn u) = true := by kernel_rfl
        exact (show Tryd.prog.wantsStandIn t = false by simpa using List.all_eq_true.1 hall t hm)⟩)
    (by kernel_rfl)
end Go.Proofs.YtopmpbdjnkomoaaDoor.cardValueKinds
