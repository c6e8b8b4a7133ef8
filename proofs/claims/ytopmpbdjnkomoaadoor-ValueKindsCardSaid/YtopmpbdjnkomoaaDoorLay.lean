/- What the listed variables give: the condition of a row, and the facts that the contracts ask. No conditions. -/
import Derived.Test.YtopmpbdjnkomoaaDoorTab
import Derived.Test.YtopmpbdjnkomoaaDoorTypes
import Derived.Test.YtopmpbdjnkomoaaDoorRows
import Derived.Lay
import Derived.LaidLaws
import Derived.LaidMore
import Derived.LaidHandle
import Derived.RowKit
import Derived.Stop.LaidErr
import Derived.ChangeVars
import Derived.WalkKit
import Derived.ProofKit
import Derived.OpenShut
import Derived.MakeChecks
import Derived.Stop.Joined
namespace Go.Proofs.YtopmpbdjnkomoaaDoor
open Go Go.Dat

def five : List (String × DataW Unit) := [("math/bits.deBruijn32tab", Rows.laid_math_bits_deBruijn32tab), ("math/bits.deBruijn64tab", Rows.laid_math_bits_deBruijn64tab), ("internal/strconv.uint64pow10", Rows.laid_internal_strconv_uint64pow10), ("strconv.ErrRange", Rows.laid_strconv_ErrRange), ("strconv.ErrSyntax", Rows.laid_strconv_ErrSyntax)]

theorem rowErr (u : TypeId) (h : Tryd.prog.typeName? 3 u = some "*errors.errorString") : u = 157 :=
  typeName_ptr_named (nm := "errors.errorString") (by rw [show "*" ++ "errors.errorString" = "*errors.errorString" by decide]; kernel_rfl) (by kernel_rfl) (by decide) u (by rw [show "*" ++ "errors.errorString" = "*errors.errorString" by decide]; exact h)

theorem five_met (os : Os) (args : Array Value) : laidMetH Tryd.prog five ((World.laidAll Tryd.prog os five).forCall (fun _ _ => 0) ⟨#[], args, []⟩).memory := by
  rw [MakeChecks.laidMetH_plain _ _ _ (by kernel_rfl)]
  exact laidMet_laidAll _ (by kernel_rfl) (by kernel_rfl)

theorem heap_of_var {P : Program} {W : World} {name : String} {g : Nat} {cs : Array Value} (hg : P.globalNamed name = some g) (h : W.var? P name = some cs) : g < W.heap.size := by
  unfold World.var? at h
  rw [hg] at h
  refine Classical.byContradiction fun hn => ?_
  simp [Array.getElem?_eq_none (Nat.le_of_not_lt hn)] at h

theorem five_gives {W : World} (h : laidMetH Tryd.prog five W) : (∀ b, tabs.dom b → b < W.heap.size) ∧ tabs.holds W := by
  rw [MakeChecks.laidMetH_plain _ _ _ (by kernel_rfl)] at h
  have h0 : laidMet Tryd.prog (("math/bits.deBruijn32tab", Lib.tabData .u8 [0, 1, 28, 2, 29, 14, 24, 3, 30, 22, 20, 15, 25, 17, 4, 8, 31, 27, 13, 23, 21, 19, 16, 7, 26, 12, 18, 6, 11, 5, 10, 9]) :: five.tail) W := h
  have h1 : laidMet Tryd.prog (("math/bits.deBruijn64tab", Lib.tabData .u8 (Lib.deBruijn64tab.map Int.ofNat)) :: five.tail.tail) W := h.tail
  have h2 : laidMet Tryd.prog (("internal/strconv.uint64pow10", Lib.tabData .u64 Lib.pow10Tab) :: five.tail.tail.tail) W := h.tail.tail
  have h3 := h.tail.tail.tail
  have h4 := h3.tail
  have g32 : Tryd.prog.globalNamed "math/bits.deBruijn32tab" = some 4 := by kernel_rfl
  have g64 : Tryd.prog.globalNamed "math/bits.deBruijn64tab" = some 3 := by kernel_rfl
  have e32 := Lib.tabIs_of_head g32 (t := 166) (by kernel_rfl) Tryd.underlying166 Tryd.underlying5 (by kernel_rfl) (by kernel_rfl) h0
  have e64 := Lib.tabIs_of_head g64 (t := 155) (by kernel_rfl) Tryd.underlying155 Tryd.underlying5 (by kernel_rfl) (by kernel_rfl) h1
  have ep := Lib.tabIs_of_head (show Tryd.prog.globalNamed "internal/strconv.uint64pow10" = some 2 by kernel_rfl) (t := 143) (by kernel_rfl) Tryd.underlying143 Tryd.underlying47 (by kernel_rfl) (by kernel_rfl) h2
  obtain ⟨a3, s3, v3, -, -, -⟩ := laid_sentinel h3 (show Tryd.prog.globalNamed "strconv.ErrRange" = some 1 by kernel_rfl) (ti := 78) (by kernel_rfl) Tryd.underlying78 rowErr Tryd.underlying157 Tryd.underlying159 rfl rfl Tryd.underlying9 (by kernel_rfl) (by kernel_rfl)
  obtain ⟨a4, s4, v4, -, -, -⟩ := laid_sentinel h4 (show Tryd.prog.globalNamed "strconv.ErrSyntax" = some 0 by kernel_rfl) (ti := 78) (by kernel_rfl) Tryd.underlying78 rowErr Tryd.underlying157 Tryd.underlying159 rfl rfl Tryd.underlying9 (by kernel_rfl) (by kernel_rfl)
  have hlt := heap_of_var g32 e32
  refine ⟨fun b hb => ?_, ep, ⟨_, _, v4⟩, ⟨_, _, v3⟩, fun j hj => ?_⟩
  · have : b < 5 := hb
    have : (4 : Nat) < W.heap.size := hlt
    omega
  · have := Lib.TabIs.cell e64 g64 j (by simpa using hj)
    rw [this]
    simp [List.getD, hj]
end Go.Proofs.YtopmpbdjnkomoaaDoor
