/- What the library's variables hold when a law of this seat is called. No conditions. -/
import Derived.Test.YtopmpbdjnkomoaaDoorK30
import Derived.Test.YtopmpbdjnkomoaaDoorProg
import Derived.Shelf.Spec.TrailingZeros
import Derived.Shelf.Strconv.Itoa4
import Derived.Shelf.Strconv.ErrVarParseInt
import Derived.KernelRfl
namespace Go.Proofs.YtopmpbdjnkomoaaDoor
open Go Go.Dat

theorem var_stable {P : Program} {w w' : World} {n : Nat} (hn : ∀ name g, P.globalNamed name = some g → g < n) (h : ∀ b, b < n → w'.heap[b]? = w.heap[b]?) (name : String) : w'.var? P name = w.var? P name := by
  unfold World.var?
  cases hg : P.globalNamed name with
  | none => rfl
  | some g => simp only [Option.bind_some, h g (hn name g hg)]

theorem named_lt : ∀ name g, Tryd.prog.globalNamed name = some g → g < 5 := by
  intro name g h
  have hs : Tryd.prog.globals.size = 5 := by kernel_rfl
  unfold Program.globalNamed at h
  rw [hs] at h
  split at h
  · next g' hl =>
    cases h
    have : g ∈ List.filter (fun g => Option.any (fun x => x.name == name) Tryd.prog.globals[g]?) (List.range 5) := by rw [hl]; simp
    exact List.mem_range.1 (List.mem_filter.1 this).1
  · cases h

instance tabs : Dat.Tables where
  dom b := b < 5
  holds w := Lib.TabIs Tryd.prog w "internal/strconv.uint64pow10" .u64 Lib.pow10Tab ∧ (∃ t p, w.var? Tryd.prog "strconv.ErrSyntax" = some #[.iface t p]) ∧ (∃ t p, w.var? Tryd.prog "strconv.ErrRange" = some #[.iface t p]) ∧ TabAt 3 Lib.deBruijn64tab w
  stable := by
    intro w w' h ⟨h1, h2, h3, h4⟩
    have hv := var_stable named_lt h
    refine ⟨by unfold Lib.TabIs at *; rw [hv]; exact h1, by rw [hv]; exact h2, by rw [hv]; exact h3, fun j hj => ?_⟩
    rw [World.cell?_of_block (w := w) (h 3 (by decide))]
    exact h4 j hj
end Go.Proofs.YtopmpbdjnkomoaaDoor
