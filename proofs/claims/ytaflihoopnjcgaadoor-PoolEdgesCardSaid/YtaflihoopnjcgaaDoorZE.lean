/- Texts REdges, CEdges in one file. No conditions. -/
import Derived.Test.YtaflihoopnjcgaaDoorWC
import Derived.Test.YtaflihoopnjcgaaDoorTC
import Derived.Test.YtaflihoopnjcgaaDoorKC
import Derived.Test.YtaflihoopnjcgaaDoorRows
import Derived.WalkKit
import Derived.ProofKit
import Derived.OpenShut
import Derived.ChangeOld
import Derived.Test.YtaflihoopnjcgaaDoorTie
import Derived.Test.YtaflihoopnjcgaaDoorCards
import Derived.SevenTiedAt

namespace Go.Proofs.YtaflihoopnjcgaaDoor.rowPoolEdges
open Go Go.Dat
open Go.ChangeShapes Go.WideShapes Go.ChangeAt Go.RowKit

theorem same : Rows.poolEdgesRow.laid = one := rfl
theorem own : ownKnob Tryd.prog.godebug = none := by kernel_rfl
theorem laidOut : laidOutB Tryd.prog = true := by kernel_rfl

set_option maxRecDepth 100000 in
theorem lifted (os : Os) (started : os.Started) (H : Type) (enc : TypeId × Value → H) :
    ReturnsInHanded {} Tryd.checked os 7 .any (fun w args => (Rows.poolEdgesSpec.pre enc Tryd.prog Tryd.f7 [] false w args ∧ laidMetH Tryd.prog one w) ∧ sizedMet enc Tryd.prog Tryd.f7 (OpenSpec.ofChange Rows.poolEdgesSpec) false w args)
      (Rows.poolEdgesSpec.post enc Tryd.prog Tryd.f7 false true false false) := by
  refine returnsInHanded_of_change_and (C := Tryd.checked) (X := fun w _ => laidMetH Tryd.prog one w) (fun _ _ _ hh h => h.of_heap hh) own started (by kernel_rfl) Tryd.func7
    (ChangeSpec.witness_shaped (enc := enc) (C := Tryd.checked) (os := os) (X := fun w _ => laidMetH Tryd.prog one w) false (World.laidAll Tryd.prog os one) #[(.agg #[.int .u8 0, .slice none 0 0, .int .i64 0, .int .i64 0])] 8 (World.laidAll_os _ _ _) (World.shaped_of_ZipB (by kernel_rfl) (by kernel_rfl)) (by kernel_rfl) (by kernel_rfl) (by kernel_rfl) (one_met os _)) ?_
  intro W base args ds gs before hval0 hW _ _ hL _
  obtain ⟨tdom, tab⟩ := one_gives hL
  have hval : ∀ (j : Nat) t v, Tryd.f7.params[j]? = some t → args[j]? = some v → Value.okWide Tryd.prog W .any base t v := hval0
  have hW' := hW
  obtain ⟨p, q, hA0, hV, rfl, hfz, hnd⟩ := hW
  have hA : DataW.TrodAll enc Tryd.prog W 0 (fun _ => true) true Tryd.f7.params.toList args.toList ds p := hA0
  rw [Tryd.params7] at hA hval
  obtain ⟨v0, vs0, d0, ds0, p0, q0, hargs, rfl, rfl, h0, r0⟩ := trodAll_cons hA
  obtain ⟨rfl, rfl, rfl⟩ := trodAll_nil r0
  obtain rfl : args = #[v0] := by cases args; simp_all
  obtain ⟨rfl, rfl⟩ := trodVars_none hV
  have lt0 : ∀ x ∈ p0, x.block < W.heap.size := by obtain ⟨m, hm⟩ := h0; exact DataW.trod_lt m _ _ _ hm
  obtain ⟨a0, e0⟩ := pTry.argSt (fun _ => rfl) Tryd.underlying61 (hval 0 61 v0 rfl rfl) h0
  have hrpv : Rpv (fun b => b < W.heap.size) W [tr a0.1.1 a0.2.1.1 a0.2.2.1 a0.2.2.2] [v0] := (Rpv.ofCons e0 Rpv.ofNil)
  clear hA0 hval0
  refine ((c_PoolEdges a0.1.1 a0.2.1.1 a0.2.2.1 a0.2.2.2 (okU8 a0.1.2) a0.2.1.2).walk ⟨tdom, tab⟩ hrpv).mono fun e W' ⟨he, bel⟩ => ?_
  subst he
  exact ⟨_, rfl, _, _, _, [], _, [], hW', trodAll_mk1 (shut_bool Tryd.underlying4 _), (trodAll_cons_mk (Below.trod laidOut (by kernel_rfl) (of_decide_eq_true (by kernel_rfl)) h0 bel lt0) trodAll_mk0), rfl, bel.frame _, fun h => by cases h⟩

theorem over : Rows.poolEdgesRow.holds Tryd.pinned (OpenSpec.ofChange Rows.poolEdgesSpec) :=
  OpenClaim.holds_of_wide 7 Tryd.f7 rfl rfl rfl rfl rfl rfl rfl ⟨rfl, rfl, rfl, rfl, rfl⟩ rfl rfl rfl rfl rfl (by kernel_rfl) Tryd.func7 (by kernel_rfl)
    (of_decide_eq_true (by kernel_rfl)) (by unfold Func.isWrapper; first | (rw [if_pos (by decide +kernel)]; kernel_rfl) | (rw [if_neg (by decide +kernel)]; exact ⟨rfl, rfl⟩))
    (fun os started H enc _ => lifted os started H enc)

theorem proved : Rows.PoolEdgesSaid := over
end Go.Proofs.YtaflihoopnjcgaaDoor.rowPoolEdges

namespace Go.Proofs.YtaflihoopnjcgaaDoor.cardPoolEdges
open Go

theorem proved : Rows.PoolEdgesCardSaid :=
  Claim7.holds_tied_plain_at .later [] [.data] true (true, "35591b53fd09d4d5934b113e4c7e45025bbae91d012d3ef1f358135f0f8ec358") false
    rowPoolEdges.proved (fun _ h => by cases h) (by kernel_rfl) (fun _ h => by cases h) poolEdges_row_tie rfl ⟨rfl, rfl⟩ (by kernel_rfl) rfl
    (fun f fn hf hfn => by
      obtain rfl : f = 7 := Option.some.inj ((show Tryd.prog.funcNamed "warpbeam/warpbeamlaw05.PoolEdges" = some 7 by kernel_rfl).symm.trans hf) |>.symm
      obtain rfl : fn = Tryd.f7 := (Option.some.inj (Tryd.func7.symm.trans hfn)).symm
      exact ⟨by kernel_rfl, fun j t ht => by
        rw [Tryd.params7] at ht
        have hm : t ∈ [61] := by simpa using Array.mem_of_getElem? ht
        have hall : ([61].all fun u => !Tryd.prog.wantsStandIn u) = true := by kernel_rfl
        exact (show Tryd.prog.wantsStandIn t = false by simpa using List.all_eq_true.1 hall t hm)⟩)
    (by kernel_rfl)
end Go.Proofs.YtaflihoopnjcgaaDoor.cardPoolEdges
