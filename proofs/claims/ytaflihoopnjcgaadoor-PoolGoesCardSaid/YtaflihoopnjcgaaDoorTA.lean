/- Texts Tab, Types, Shelf, Shelf2, Shelf3, S1, S2, S3, S4, S5, S6, S7, S8, S9, S10 in one file. No conditions. -/
import Derived.Test.YtaflihoopnjcgaaDoorKC
import Derived.Test.YtaflihoopnjcgaaDoorProg
import Derived.Shelf.Spec.TrailingZeros
import Derived.KernelRfl
import Derived.Shelf.SlSortCmp.NoneTotal
import Derived.Shelf.SlicesG.Cmp
import Derived.Shelf.Spec.SlicesGrow

namespace Go.Proofs.YtaflihoopnjcgaaDoor
open Go Go.Dat

instance tabs : Dat.Tables where
  dom b := b = 0
  holds w := TabAt 0 Lib.deBruijn64tab w
  stable := by
    intro w w' h h4 j hj
    rw [World.cell?_of_block (w := w) (h 0 rfl)]
    exact h4 j hj
end Go.Proofs.YtaflihoopnjcgaaDoor

namespace Go.Proofs.YtaflihoopnjcgaaDoor
open Go.Dat

def Θ : TypeId → TI
  | 1 => ⟨.sc, 1, .v .nilFunc⟩
  | 2 => ⟨.sc, 1, .v (.int .i64 0)⟩
  | 3 => ⟨.sc, 1, .v (.int .i64 0)⟩
  | 4 => ⟨.sc, 1, .v (.bool false)⟩
  | 5 => ⟨.sc, 1, .v (.int .u8 0)⟩
  | 6 => ⟨.sc, 1, .v (.int .u8 0)⟩
  | 7 => ⟨.st [(2, 0), (3, 1), (4, 2), (6, 3)], 4, .st [.v (.int .i64 0), .v (.int .i64 0), .v (.bool false), .v (.int .u8 0)]⟩
  | 8 => ⟨.st [(2, 0), (3, 1), (4, 2), (6, 3)], 4, .st [.v (.int .i64 0), .v (.int .i64 0), .v (.bool false), .v (.int .u8 0)]⟩
  | 9 => ⟨.sc, 1, .v (.string ⟨#[]⟩)⟩
  | 10 => ⟨.sc, 1, .v (.string ⟨#[]⟩)⟩
  | 11 => ⟨.sc, 1, .v (.string ⟨#[]⟩)⟩
  | 12 => ⟨.sc, 1, .v (.int .u64 0)⟩
  | 13 => ⟨.st [(9, 0), (12, 1)], 2, .st [.v (.string ⟨#[]⟩), .v (.int .u64 0)]⟩
  | 14 => ⟨.st [(9, 0), (12, 1)], 2, .st [.v (.string ⟨#[]⟩), .v (.int .u64 0)]⟩
  | 15 => ⟨.sc, 1, .v (.pointer none)⟩
  | 16 => ⟨.sc, 1, .v (.pointer none)⟩
  | 17 => ⟨.sc, 1, .v (.pointer none)⟩
  | 18 => ⟨.st [(17, 0)], 1, .st [.v (.pointer none)]⟩
  | 19 => ⟨.st [(17, 0)], 1, .st [.v (.pointer none)]⟩
  | 20 => ⟨.sc, 1, .v .nilIface⟩
  | 21 => ⟨.sc, 1, .v (.int .i32 0)⟩
  | 22 => ⟨.sl 43 3 24, 1, .lst .nl 3 []⟩
  | 23 => ⟨.sc, 1, .v .nilFunc⟩
  | 24 => ⟨.sc, 1, .v (.int .u64 0)⟩
  | 25 => ⟨.sc, 1, .v (.int .u64 0)⟩
  | 26 => ⟨.ar 32 25 1, 32, .arr 1 [.v (.int .u64 0), .v (.int .u64 0), .v (.int .u64 0), .v (.int .u64 0), .v (.int .u64 0), .v (.int .u64 0), .v (.int .u64 0), .v (.int .u64 0), .v (.int .u64 0), .v (.int .u64 0), .v (.int .u64 0), .v (.int .u64 0), .v (.int .u64 0), .v (.int .u64 0), .v (.int .u64 0), .v (.int .u64 0), .v (.int .u64 0), .v (.int .u64 0), .v (.int .u64 0), .v (.int .u64 0), .v (.int .u64 0), .v (.int .u64 0), .v (.int .u64 0), .v (.int .u64 0), .v (.int .u64 0), .v (.int .u64 0), .v (.int .u64 0), .v (.int .u64 0), .v (.int .u64 0), .v (.int .u64 0), .v (.int .u64 0), .v (.int .u64 0)]⟩
  | 27 => ⟨.ar 32 25 1, 32, .arr 1 [.v (.int .u64 0), .v (.int .u64 0), .v (.int .u64 0), .v (.int .u64 0), .v (.int .u64 0), .v (.int .u64 0), .v (.int .u64 0), .v (.int .u64 0), .v (.int .u64 0), .v (.int .u64 0), .v (.int .u64 0), .v (.int .u64 0), .v (.int .u64 0), .v (.int .u64 0), .v (.int .u64 0), .v (.int .u64 0), .v (.int .u64 0), .v (.int .u64 0), .v (.int .u64 0), .v (.int .u64 0), .v (.int .u64 0), .v (.int .u64 0), .v (.int .u64 0), .v (.int .u64 0), .v (.int .u64 0), .v (.int .u64 0), .v (.int .u64 0), .v (.int .u64 0), .v (.int .u64 0), .v (.int .u64 0), .v (.int .u64 0), .v (.int .u64 0)]⟩
  | 28 => ⟨.ar 32 3 1, 32, .arr 1 [.v (.int .i64 0), .v (.int .i64 0), .v (.int .i64 0), .v (.int .i64 0), .v (.int .i64 0), .v (.int .i64 0), .v (.int .i64 0), .v (.int .i64 0), .v (.int .i64 0), .v (.int .i64 0), .v (.int .i64 0), .v (.int .i64 0), .v (.int .i64 0), .v (.int .i64 0), .v (.int .i64 0), .v (.int .i64 0), .v (.int .i64 0), .v (.int .i64 0), .v (.int .i64 0), .v (.int .i64 0), .v (.int .i64 0), .v (.int .i64 0), .v (.int .i64 0), .v (.int .i64 0), .v (.int .i64 0), .v (.int .i64 0), .v (.int .i64 0), .v (.int .i64 0), .v (.int .i64 0), .v (.int .i64 0), .v (.int .i64 0), .v (.int .i64 0)]⟩
  | 29 => ⟨.ar 32 3 1, 32, .arr 1 [.v (.int .i64 0), .v (.int .i64 0), .v (.int .i64 0), .v (.int .i64 0), .v (.int .i64 0), .v (.int .i64 0), .v (.int .i64 0), .v (.int .i64 0), .v (.int .i64 0), .v (.int .i64 0), .v (.int .i64 0), .v (.int .i64 0), .v (.int .i64 0), .v (.int .i64 0), .v (.int .i64 0), .v (.int .i64 0), .v (.int .i64 0), .v (.int .i64 0), .v (.int .i64 0), .v (.int .i64 0), .v (.int .i64 0), .v (.int .i64 0), .v (.int .i64 0), .v (.int .i64 0), .v (.int .i64 0), .v (.int .i64 0), .v (.int .i64 0), .v (.int .i64 0), .v (.int .i64 0), .v (.int .i64 0), .v (.int .i64 0), .v (.int .i64 0)]⟩
  | 30 => ⟨.st [(3, 0), (27, 1), (29, 33), (25, 65), (25, 66), (28, 67), (3, 99)], 100, .st [.v (.int .i64 0), .arr 1 [.v (.int .u64 0), .v (.int .u64 0), .v (.int .u64 0), .v (.int .u64 0), .v (.int .u64 0), .v (.int .u64 0), .v (.int .u64 0), .v (.int .u64 0), .v (.int .u64 0), .v (.int .u64 0), .v (.int .u64 0), .v (.int .u64 0), .v (.int .u64 0), .v (.int .u64 0), .v (.int .u64 0), .v (.int .u64 0), .v (.int .u64 0), .v (.int .u64 0), .v (.int .u64 0), .v (.int .u64 0), .v (.int .u64 0), .v (.int .u64 0), .v (.int .u64 0), .v (.int .u64 0), .v (.int .u64 0), .v (.int .u64 0), .v (.int .u64 0), .v (.int .u64 0), .v (.int .u64 0), .v (.int .u64 0), .v (.int .u64 0), .v (.int .u64 0)], .arr 1 [.v (.int .i64 0), .v (.int .i64 0), .v (.int .i64 0), .v (.int .i64 0), .v (.int .i64 0), .v (.int .i64 0), .v (.int .i64 0), .v (.int .i64 0), .v (.int .i64 0), .v (.int .i64 0), .v (.int .i64 0), .v (.int .i64 0), .v (.int .i64 0), .v (.int .i64 0), .v (.int .i64 0), .v (.int .i64 0), .v (.int .i64 0), .v (.int .i64 0), .v (.int .i64 0), .v (.int .i64 0), .v (.int .i64 0), .v (.int .i64 0), .v (.int .i64 0), .v (.int .i64 0), .v (.int .i64 0), .v (.int .i64 0), .v (.int .i64 0), .v (.int .i64 0), .v (.int .i64 0), .v (.int .i64 0), .v (.int .i64 0), .v (.int .i64 0)], .v (.int .u64 0), .v (.int .u64 0), .arr 1 [.v (.int .i64 0), .v (.int .i64 0), .v (.int .i64 0), .v (.int .i64 0), .v (.int .i64 0), .v (.int .i64 0), .v (.int .i64 0), .v (.int .i64 0), .v (.int .i64 0), .v (.int .i64 0), .v (.int .i64 0), .v (.int .i64 0), .v (.int .i64 0), .v (.int .i64 0), .v (.int .i64 0), .v (.int .i64 0), .v (.int .i64 0), .v (.int .i64 0), .v (.int .i64 0), .v (.int .i64 0), .v (.int .i64 0), .v (.int .i64 0), .v (.int .i64 0), .v (.int .i64 0), .v (.int .i64 0), .v (.int .i64 0), .v (.int .i64 0), .v (.int .i64 0), .v (.int .i64 0), .v (.int .i64 0), .v (.int .i64 0), .v (.int .i64 0)], .v (.int .i64 0)]⟩
  | 31 => ⟨.st [(3, 0), (27, 1), (29, 33), (25, 65), (25, 66), (28, 67), (3, 99)], 100, .st [.v (.int .i64 0), .arr 1 [.v (.int .u64 0), .v (.int .u64 0), .v (.int .u64 0), .v (.int .u64 0), .v (.int .u64 0), .v (.int .u64 0), .v (.int .u64 0), .v (.int .u64 0), .v (.int .u64 0), .v (.int .u64 0), .v (.int .u64 0), .v (.int .u64 0), .v (.int .u64 0), .v (.int .u64 0), .v (.int .u64 0), .v (.int .u64 0), .v (.int .u64 0), .v (.int .u64 0), .v (.int .u64 0), .v (.int .u64 0), .v (.int .u64 0), .v (.int .u64 0), .v (.int .u64 0), .v (.int .u64 0), .v (.int .u64 0), .v (.int .u64 0), .v (.int .u64 0), .v (.int .u64 0), .v (.int .u64 0), .v (.int .u64 0), .v (.int .u64 0), .v (.int .u64 0)], .arr 1 [.v (.int .i64 0), .v (.int .i64 0), .v (.int .i64 0), .v (.int .i64 0), .v (.int .i64 0), .v (.int .i64 0), .v (.int .i64 0), .v (.int .i64 0), .v (.int .i64 0), .v (.int .i64 0), .v (.int .i64 0), .v (.int .i64 0), .v (.int .i64 0), .v (.int .i64 0), .v (.int .i64 0), .v (.int .i64 0), .v (.int .i64 0), .v (.int .i64 0), .v (.int .i64 0), .v (.int .i64 0), .v (.int .i64 0), .v (.int .i64 0), .v (.int .i64 0), .v (.int .i64 0), .v (.int .i64 0), .v (.int .i64 0), .v (.int .i64 0), .v (.int .i64 0), .v (.int .i64 0), .v (.int .i64 0), .v (.int .i64 0), .v (.int .i64 0)], .v (.int .u64 0), .v (.int .u64 0), .arr 1 [.v (.int .i64 0), .v (.int .i64 0), .v (.int .i64 0), .v (.int .i64 0), .v (.int .i64 0), .v (.int .i64 0), .v (.int .i64 0), .v (.int .i64 0), .v (.int .i64 0), .v (.int .i64 0), .v (.int .i64 0), .v (.int .i64 0), .v (.int .i64 0), .v (.int .i64 0), .v (.int .i64 0), .v (.int .i64 0), .v (.int .i64 0), .v (.int .i64 0), .v (.int .i64 0), .v (.int .i64 0), .v (.int .i64 0), .v (.int .i64 0), .v (.int .i64 0), .v (.int .i64 0), .v (.int .i64 0), .v (.int .i64 0), .v (.int .i64 0), .v (.int .i64 0), .v (.int .i64 0), .v (.int .i64 0), .v (.int .i64 0), .v (.int .i64 0)], .v (.int .i64 0)]⟩
  | 33 => ⟨.sc, 1, .v .nilFunc⟩
  | 34 => ⟨.ar 32 24 1, 32, .arr 1 [.v (.int .u64 0), .v (.int .u64 0), .v (.int .u64 0), .v (.int .u64 0), .v (.int .u64 0), .v (.int .u64 0), .v (.int .u64 0), .v (.int .u64 0), .v (.int .u64 0), .v (.int .u64 0), .v (.int .u64 0), .v (.int .u64 0), .v (.int .u64 0), .v (.int .u64 0), .v (.int .u64 0), .v (.int .u64 0), .v (.int .u64 0), .v (.int .u64 0), .v (.int .u64 0), .v (.int .u64 0), .v (.int .u64 0), .v (.int .u64 0), .v (.int .u64 0), .v (.int .u64 0), .v (.int .u64 0), .v (.int .u64 0), .v (.int .u64 0), .v (.int .u64 0), .v (.int .u64 0), .v (.int .u64 0), .v (.int .u64 0), .v (.int .u64 0)]⟩
  | 35 => ⟨.ar 32 24 1, 32, .arr 1 [.v (.int .u64 0), .v (.int .u64 0), .v (.int .u64 0), .v (.int .u64 0), .v (.int .u64 0), .v (.int .u64 0), .v (.int .u64 0), .v (.int .u64 0), .v (.int .u64 0), .v (.int .u64 0), .v (.int .u64 0), .v (.int .u64 0), .v (.int .u64 0), .v (.int .u64 0), .v (.int .u64 0), .v (.int .u64 0), .v (.int .u64 0), .v (.int .u64 0), .v (.int .u64 0), .v (.int .u64 0), .v (.int .u64 0), .v (.int .u64 0), .v (.int .u64 0), .v (.int .u64 0), .v (.int .u64 0), .v (.int .u64 0), .v (.int .u64 0), .v (.int .u64 0), .v (.int .u64 0), .v (.int .u64 0), .v (.int .u64 0), .v (.int .u64 0)]⟩
  | 36 => ⟨.ar 32 3 1, 32, .arr 1 [.v (.int .i64 0), .v (.int .i64 0), .v (.int .i64 0), .v (.int .i64 0), .v (.int .i64 0), .v (.int .i64 0), .v (.int .i64 0), .v (.int .i64 0), .v (.int .i64 0), .v (.int .i64 0), .v (.int .i64 0), .v (.int .i64 0), .v (.int .i64 0), .v (.int .i64 0), .v (.int .i64 0), .v (.int .i64 0), .v (.int .i64 0), .v (.int .i64 0), .v (.int .i64 0), .v (.int .i64 0), .v (.int .i64 0), .v (.int .i64 0), .v (.int .i64 0), .v (.int .i64 0), .v (.int .i64 0), .v (.int .i64 0), .v (.int .i64 0), .v (.int .i64 0), .v (.int .i64 0), .v (.int .i64 0), .v (.int .i64 0), .v (.int .i64 0)]⟩
  | 37 => ⟨.st [(3, 0), (35, 1), (36, 33), (24, 65), (24, 66), (28, 67), (3, 99)], 100, .st [.v (.int .i64 0), .arr 1 [.v (.int .u64 0), .v (.int .u64 0), .v (.int .u64 0), .v (.int .u64 0), .v (.int .u64 0), .v (.int .u64 0), .v (.int .u64 0), .v (.int .u64 0), .v (.int .u64 0), .v (.int .u64 0), .v (.int .u64 0), .v (.int .u64 0), .v (.int .u64 0), .v (.int .u64 0), .v (.int .u64 0), .v (.int .u64 0), .v (.int .u64 0), .v (.int .u64 0), .v (.int .u64 0), .v (.int .u64 0), .v (.int .u64 0), .v (.int .u64 0), .v (.int .u64 0), .v (.int .u64 0), .v (.int .u64 0), .v (.int .u64 0), .v (.int .u64 0), .v (.int .u64 0), .v (.int .u64 0), .v (.int .u64 0), .v (.int .u64 0), .v (.int .u64 0)], .arr 1 [.v (.int .i64 0), .v (.int .i64 0), .v (.int .i64 0), .v (.int .i64 0), .v (.int .i64 0), .v (.int .i64 0), .v (.int .i64 0), .v (.int .i64 0), .v (.int .i64 0), .v (.int .i64 0), .v (.int .i64 0), .v (.int .i64 0), .v (.int .i64 0), .v (.int .i64 0), .v (.int .i64 0), .v (.int .i64 0), .v (.int .i64 0), .v (.int .i64 0), .v (.int .i64 0), .v (.int .i64 0), .v (.int .i64 0), .v (.int .i64 0), .v (.int .i64 0), .v (.int .i64 0), .v (.int .i64 0), .v (.int .i64 0), .v (.int .i64 0), .v (.int .i64 0), .v (.int .i64 0), .v (.int .i64 0), .v (.int .i64 0), .v (.int .i64 0)], .v (.int .u64 0), .v (.int .u64 0), .arr 1 [.v (.int .i64 0), .v (.int .i64 0), .v (.int .i64 0), .v (.int .i64 0), .v (.int .i64 0), .v (.int .i64 0), .v (.int .i64 0), .v (.int .i64 0), .v (.int .i64 0), .v (.int .i64 0), .v (.int .i64 0), .v (.int .i64 0), .v (.int .i64 0), .v (.int .i64 0), .v (.int .i64 0), .v (.int .i64 0), .v (.int .i64 0), .v (.int .i64 0), .v (.int .i64 0), .v (.int .i64 0), .v (.int .i64 0), .v (.int .i64 0), .v (.int .i64 0), .v (.int .i64 0), .v (.int .i64 0), .v (.int .i64 0), .v (.int .i64 0), .v (.int .i64 0), .v (.int .i64 0), .v (.int .i64 0), .v (.int .i64 0), .v (.int .i64 0)], .v (.int .i64 0)]⟩
  | 38 => ⟨.st [(3, 0), (35, 1), (36, 33), (24, 65), (24, 66), (28, 67), (3, 99)], 100, .st [.v (.int .i64 0), .arr 1 [.v (.int .u64 0), .v (.int .u64 0), .v (.int .u64 0), .v (.int .u64 0), .v (.int .u64 0), .v (.int .u64 0), .v (.int .u64 0), .v (.int .u64 0), .v (.int .u64 0), .v (.int .u64 0), .v (.int .u64 0), .v (.int .u64 0), .v (.int .u64 0), .v (.int .u64 0), .v (.int .u64 0), .v (.int .u64 0), .v (.int .u64 0), .v (.int .u64 0), .v (.int .u64 0), .v (.int .u64 0), .v (.int .u64 0), .v (.int .u64 0), .v (.int .u64 0), .v (.int .u64 0), .v (.int .u64 0), .v (.int .u64 0), .v (.int .u64 0), .v (.int .u64 0), .v (.int .u64 0), .v (.int .u64 0), .v (.int .u64 0), .v (.int .u64 0)], .arr 1 [.v (.int .i64 0), .v (.int .i64 0), .v (.int .i64 0), .v (.int .i64 0), .v (.int .i64 0), .v (.int .i64 0), .v (.int .i64 0), .v (.int .i64 0), .v (.int .i64 0), .v (.int .i64 0), .v (.int .i64 0), .v (.int .i64 0), .v (.int .i64 0), .v (.int .i64 0), .v (.int .i64 0), .v (.int .i64 0), .v (.int .i64 0), .v (.int .i64 0), .v (.int .i64 0), .v (.int .i64 0), .v (.int .i64 0), .v (.int .i64 0), .v (.int .i64 0), .v (.int .i64 0), .v (.int .i64 0), .v (.int .i64 0), .v (.int .i64 0), .v (.int .i64 0), .v (.int .i64 0), .v (.int .i64 0), .v (.int .i64 0), .v (.int .i64 0)], .v (.int .u64 0), .v (.int .u64 0), .arr 1 [.v (.int .i64 0), .v (.int .i64 0), .v (.int .i64 0), .v (.int .i64 0), .v (.int .i64 0), .v (.int .i64 0), .v (.int .i64 0), .v (.int .i64 0), .v (.int .i64 0), .v (.int .i64 0), .v (.int .i64 0), .v (.int .i64 0), .v (.int .i64 0), .v (.int .i64 0), .v (.int .i64 0), .v (.int .i64 0), .v (.int .i64 0), .v (.int .i64 0), .v (.int .i64 0), .v (.int .i64 0), .v (.int .i64 0), .v (.int .i64 0), .v (.int .i64 0), .v (.int .i64 0), .v (.int .i64 0), .v (.int .i64 0), .v (.int .i64 0), .v (.int .i64 0), .v (.int .i64 0), .v (.int .i64 0), .v (.int .i64 0), .v (.int .i64 0)], .v (.int .i64 0)]⟩
  | 40 => ⟨.sc, 1, .v .nilFunc⟩
  | 41 => ⟨.sc, 1, .v .nilFunc⟩
  | 42 => ⟨.st [(5, 0), (3, 1), (3, 2)], 3, .st [.v (.int .u8 0), .v (.int .i64 0), .v (.int .i64 0)]⟩
  | 43 => ⟨.st [(5, 0), (3, 1), (3, 2)], 3, .st [.v (.int .u8 0), .v (.int .i64 0), .v (.int .i64 0)]⟩
  | 45 => ⟨.sc, 1, .v .nilFunc⟩
  | 46 => ⟨.sc, 1, .v .nilFunc⟩
  | 47 => ⟨.sc, 1, .v .nilFunc⟩
  | 48 => ⟨.sl 3 1 8, 1, .lst .nl 1 []⟩
  | 50 => ⟨.sc, 1, .v .nilFunc⟩
  | 51 => ⟨.sc, 1, .v (.map none)⟩
  | 52 => ⟨.sc, 1, .v .nilFunc⟩
  | 53 => ⟨.sc, 1, .v .nilFunc⟩
  | 54 => ⟨.sc, 1, .v .nilFunc⟩
  | 55 => ⟨.sc, 1, .v .nilFunc⟩
  | 56 => ⟨.sc, 1, .v .nilFunc⟩
  | 57 => ⟨.sc, 1, .v (.int .i64 0)⟩
  | 59 => ⟨.sc, 1, .v .nilFunc⟩
  | 60 => ⟨.st [(5, 0), (22, 1), (3, 2), (3, 3)], 4, .st [.v (.int .u8 0), .lst .nl 3 [], .v (.int .i64 0), .v (.int .i64 0)]⟩
  | 61 => ⟨.st [(5, 0), (22, 1), (3, 2), (3, 3)], 4, .st [.v (.int .u8 0), .lst .nl 3 [], .v (.int .i64 0), .v (.int .i64 0)]⟩
  | 62 => ⟨.sc, 1, .v .nilFunc⟩
  | 64 => ⟨.sc, 1, .v .nilFunc⟩
  | 65 => ⟨.sc, 1, .v .nilFunc⟩
  | 66 => ⟨.sc, 1, .v .nilFunc⟩
  | 68 => ⟨.sc, 1, .v .nilFunc⟩
  | 69 => ⟨.sc, 1, .v .nilFunc⟩
  | 70 => ⟨.sc, 1, .v .nilFunc⟩
  | 71 => ⟨.sc, 1, .v .nilFunc⟩
  | 72 => ⟨.sc, 1, .v .nilFunc⟩
  | 74 => ⟨.sc, 1, .v .nilFunc⟩
  | 75 => ⟨.sc, 1, .v .nilFunc⟩
  | 77 => ⟨.sc, 1, .v .nilFunc⟩
  | 78 => ⟨.sc, 1, .v .nilFunc⟩
  | 80 => ⟨.sc, 1, .v .nilFunc⟩
  | 81 => ⟨.sc, 1, .v .nilFunc⟩
  | 82 => ⟨.sc, 1, .v .nilFunc⟩
  | 83 => ⟨.sc, 1, .v .nilFunc⟩
  | 84 => ⟨.sc, 1, .v .nilFunc⟩
  | 86 => ⟨.sc, 1, .v .nilFunc⟩
  | 87 => ⟨.sc, 1, .v .nilFunc⟩
  | 88 => ⟨.sc, 1, .v .nilFunc⟩
  | 89 => ⟨.sc, 1, .v .nilFunc⟩
  | 90 => ⟨.sc, 1, .v .nilFunc⟩
  | 91 => ⟨.sc, 1, .v .nilFunc⟩
  | 92 => ⟨.sc, 1, .v .nilFunc⟩
  | 93 => ⟨.sc, 1, .v .nilFunc⟩
  | 94 => ⟨.sc, 1, .v .nilFunc⟩
  | 96 => ⟨.sc, 1, .v .nilFunc⟩
  | 97 => ⟨.sc, 1, .v .nilFunc⟩
  | 98 => ⟨.sc, 1, .v .nilFunc⟩
  | 99 => ⟨.ar 64 4 1, 64, .arr 1 [.v (.bool false), .v (.bool false), .v (.bool false), .v (.bool false), .v (.bool false), .v (.bool false), .v (.bool false), .v (.bool false), .v (.bool false), .v (.bool false), .v (.bool false), .v (.bool false), .v (.bool false), .v (.bool false), .v (.bool false), .v (.bool false), .v (.bool false), .v (.bool false), .v (.bool false), .v (.bool false), .v (.bool false), .v (.bool false), .v (.bool false), .v (.bool false), .v (.bool false), .v (.bool false), .v (.bool false), .v (.bool false), .v (.bool false), .v (.bool false), .v (.bool false), .v (.bool false), .v (.bool false), .v (.bool false), .v (.bool false), .v (.bool false), .v (.bool false), .v (.bool false), .v (.bool false), .v (.bool false), .v (.bool false), .v (.bool false), .v (.bool false), .v (.bool false), .v (.bool false), .v (.bool false), .v (.bool false), .v (.bool false), .v (.bool false), .v (.bool false), .v (.bool false), .v (.bool false), .v (.bool false), .v (.bool false), .v (.bool false), .v (.bool false), .v (.bool false), .v (.bool false), .v (.bool false), .v (.bool false), .v (.bool false), .v (.bool false), .v (.bool false), .v (.bool false)]⟩
  | 100 => ⟨.sc, 1, .v .nilFunc⟩
  | 101 => ⟨.sc, 1, .v .nilFunc⟩
  | 102 => ⟨.sc, 1, .v .nilFunc⟩
  | 103 => ⟨.sc, 1, .v .nilFunc⟩
  | 104 => ⟨.ar 64 5 1, 64, .arr 1 [.v (.int .u8 0), .v (.int .u8 0), .v (.int .u8 0), .v (.int .u8 0), .v (.int .u8 0), .v (.int .u8 0), .v (.int .u8 0), .v (.int .u8 0), .v (.int .u8 0), .v (.int .u8 0), .v (.int .u8 0), .v (.int .u8 0), .v (.int .u8 0), .v (.int .u8 0), .v (.int .u8 0), .v (.int .u8 0), .v (.int .u8 0), .v (.int .u8 0), .v (.int .u8 0), .v (.int .u8 0), .v (.int .u8 0), .v (.int .u8 0), .v (.int .u8 0), .v (.int .u8 0), .v (.int .u8 0), .v (.int .u8 0), .v (.int .u8 0), .v (.int .u8 0), .v (.int .u8 0), .v (.int .u8 0), .v (.int .u8 0), .v (.int .u8 0), .v (.int .u8 0), .v (.int .u8 0), .v (.int .u8 0), .v (.int .u8 0), .v (.int .u8 0), .v (.int .u8 0), .v (.int .u8 0), .v (.int .u8 0), .v (.int .u8 0), .v (.int .u8 0), .v (.int .u8 0), .v (.int .u8 0), .v (.int .u8 0), .v (.int .u8 0), .v (.int .u8 0), .v (.int .u8 0), .v (.int .u8 0), .v (.int .u8 0), .v (.int .u8 0), .v (.int .u8 0), .v (.int .u8 0), .v (.int .u8 0), .v (.int .u8 0), .v (.int .u8 0), .v (.int .u8 0), .v (.int .u8 0), .v (.int .u8 0), .v (.int .u8 0), .v (.int .u8 0), .v (.int .u8 0), .v (.int .u8 0), .v (.int .u8 0)]⟩
  | 105 => ⟨.sc, 1, .v (.int .u64 0)⟩
  | 106 => ⟨.sc, 1, .v (.pointer none)⟩
  | 108 => ⟨.sc, 1, .v .nilFunc⟩
  | 110 => ⟨.sc, 1, .v .nilFunc⟩
  | 111 => ⟨.sc, 1, .v .nilFunc⟩
  | 112 => ⟨.sc, 1, .v .nilFunc⟩
  | 113 => ⟨.sc, 1, .v .nilFunc⟩
  | 114 => ⟨.sc, 1, .v .nilFunc⟩
  | 115 => ⟨.sc, 1, .v .nilFunc⟩
  | 116 => ⟨.sc, 1, .v .nilFunc⟩
  | 117 => ⟨.sc, 1, .v .nilFunc⟩
  | 118 => ⟨.sc, 1, .v .nilFunc⟩
  | 119 => ⟨.sc, 1, .v .nilFunc⟩
  | 120 => ⟨.sc, 1, .v .nilFunc⟩
  | 121 => ⟨.sc, 1, .v .nilFunc⟩
  | 122 => ⟨.sc, 1, .v .nilFunc⟩
  | 123 => ⟨.sl 48 1 24, 1, .lst .nl 1 []⟩
  | 124 => ⟨.sc, 1, .v .nilFunc⟩
  | 125 => ⟨.sc, 1, .v .nilFunc⟩
  | 126 => ⟨.sc, 1, .v .nilFunc⟩
  | 127 => ⟨.sc, 1, .v .nilFunc⟩
  | 128 => ⟨.sc, 1, .v (.int .i64 0)⟩
  | 130 => ⟨.sc, 1, .v .nilFunc⟩
  | 131 => ⟨.sc, 1, .v .nilFunc⟩
  | 132 => ⟨.sc, 1, .v .nilFunc⟩
  | 133 => ⟨.sc, 1, .v .nilFunc⟩
  | 134 => ⟨.sc, 1, .v .nilFunc⟩
  | 135 => ⟨.sc, 1, .v (.int .u32 0)⟩
  | 136 => ⟨.sc, 1, .v (.int .u64 0)⟩
  | 137 => ⟨.sc, 1, .v .nilFunc⟩
  | 138 => ⟨.sc, 1, .v .nilFunc⟩
  | 139 => ⟨.sc, 1, .v .nilFunc⟩
  | 140 => ⟨.sc, 1, .v (.pointer none)⟩
  | 141 => ⟨.sc, 1, .v .nilFunc⟩
  | 142 => ⟨.sc, 1, .v (.pointer none)⟩
  | 144 => ⟨.sc, 1, .v .nilFunc⟩
  | 145 => ⟨.sc, 1, .v .nilFunc⟩
  | 146 => ⟨.st [(17, 0), (17, 1), (17, 2), (9, 3)], 4, .st [.v (.pointer none), .v (.pointer none), .v (.pointer none), .v (.string ⟨#[]⟩)]⟩
  | 147 => ⟨.st [(17, 0), (17, 1), (17, 2), (9, 3)], 4, .st [.v (.pointer none), .v (.pointer none), .v (.pointer none), .v (.string ⟨#[]⟩)]⟩
  | 151 => ⟨.sc, 1, .v .nilFunc⟩
  | 152 => ⟨.sc, 1, .v (.int .u8 0)⟩
  | 153 => ⟨.sc, 1, .v (.int .u8 0)⟩
  | 154 => ⟨.sc, 1, .v .nilFunc⟩
  | 155 => ⟨.sc, 1, .v (.pointer none)⟩
  | 156 => ⟨.sc, 1, .v (.int .i32 0)⟩
  | 157 => ⟨.sc, 1, .v (.int .i32 0)⟩
  | 158 => ⟨.st [(12, 0), (12, 1), (135, 2), (152, 3), (5, 4), (5, 5), (153, 6), (154, 7), (155, 8), (156, 9), (157, 10)], 11, .st [.v (.int .u64 0), .v (.int .u64 0), .v (.int .u32 0), .v (.int .u8 0), .v (.int .u8 0), .v (.int .u8 0), .v (.int .u8 0), .v .nilFunc, .v (.pointer none), .v (.int .i32 0), .v (.int .i32 0)]⟩
  | 159 => ⟨.st [(12, 0), (12, 1), (135, 2), (152, 3), (5, 4), (5, 5), (153, 6), (154, 7), (155, 8), (156, 9), (157, 10)], 11, .st [.v (.int .u64 0), .v (.int .u64 0), .v (.int .u32 0), .v (.int .u8 0), .v (.int .u8 0), .v (.int .u8 0), .v (.int .u8 0), .v .nilFunc, .v (.pointer none), .v (.int .i32 0), .v (.int .i32 0)]⟩
  | _ => default

theorem ok1 : (Θ 1).ok Tryd.prog 1 := ok_of (v := .nilFunc) (by kernel_rfl) (by kernel_rfl) (by kernel_rfl) (by kernel_rfl) (says_sc Tryd.underlying1 (by kernel_rfl))
theorem ok2 : (Θ 2).ok Tryd.prog 2 := ok_of (v := .int .i64 0) (by kernel_rfl) (by kernel_rfl) (by kernel_rfl) (by kernel_rfl) (says_sc Tryd.underlying2 (by kernel_rfl))
theorem ok3 : (Θ 3).ok Tryd.prog 3 := ok_of (v := .int .i64 0) (by kernel_rfl) (by kernel_rfl) (by kernel_rfl) (by kernel_rfl) (says_sc Tryd.underlying3 (by kernel_rfl))
theorem ok4 : (Θ 4).ok Tryd.prog 4 := ok_of (v := .bool false) (by kernel_rfl) (by kernel_rfl) (by kernel_rfl) (by kernel_rfl) (says_sc Tryd.underlying4 (by kernel_rfl))
theorem ok5 : (Θ 5).ok Tryd.prog 5 := ok_of (v := .int .u8 0) (by kernel_rfl) (by kernel_rfl) (by kernel_rfl) (by kernel_rfl) (says_sc Tryd.underlying5 (by kernel_rfl))
theorem ok6 : (Θ 6).ok Tryd.prog 6 := ok_of (v := .int .u8 0) (by kernel_rfl) (by kernel_rfl) (by kernel_rfl) (by kernel_rfl) (says_sc Tryd.underlying6 (by kernel_rfl))
theorem ok7 : (Θ 7).ok Tryd.prog 7 := ok_of (v := .agg #[.int .i64 0, .int .i64 0, .bool false, .int .u8 0]) (by kernel_rfl) (by kernel_rfl) (by kernel_rfl) (by kernel_rfl) (says_st Tryd.underlying7 (by kernel_rfl) (by kernel_rfl))
theorem ok8 : (Θ 8).ok Tryd.prog 8 := ok_of (v := .agg #[.int .i64 0, .int .i64 0, .bool false, .int .u8 0]) (by kernel_rfl) (by kernel_rfl) (by kernel_rfl) (by kernel_rfl) (says_st Tryd.underlying8 (by kernel_rfl) (by kernel_rfl))
theorem ok9 : (Θ 9).ok Tryd.prog 9 := ok_of (v := .string ⟨#[]⟩) (by kernel_rfl) (by kernel_rfl) (by kernel_rfl) (by kernel_rfl) (says_sc Tryd.underlying9 (by kernel_rfl))
theorem ok10 : (Θ 10).ok Tryd.prog 10 := ok_of (v := .string ⟨#[]⟩) (by kernel_rfl) (by kernel_rfl) (by kernel_rfl) (by kernel_rfl) (says_sc Tryd.underlying10 (by kernel_rfl))
theorem ok11 : (Θ 11).ok Tryd.prog 11 := ok_of (v := .string ⟨#[]⟩) (by kernel_rfl) (by kernel_rfl) (by kernel_rfl) (by kernel_rfl) (says_sc Tryd.underlying11 (by kernel_rfl))
theorem ok12 : (Θ 12).ok Tryd.prog 12 := ok_of (v := .int .u64 0) (by kernel_rfl) (by kernel_rfl) (by kernel_rfl) (by kernel_rfl) (says_sc Tryd.underlying12 (by kernel_rfl))
theorem ok13 : (Θ 13).ok Tryd.prog 13 := ok_of (v := .agg #[.string ⟨#[]⟩, .int .u64 0]) (by kernel_rfl) (by kernel_rfl) (by kernel_rfl) (by kernel_rfl) (says_st Tryd.underlying13 (by kernel_rfl) (by kernel_rfl))
theorem ok14 : (Θ 14).ok Tryd.prog 14 := ok_of (v := .agg #[.string ⟨#[]⟩, .int .u64 0]) (by kernel_rfl) (by kernel_rfl) (by kernel_rfl) (by kernel_rfl) (says_st Tryd.underlying14 (by kernel_rfl) (by kernel_rfl))
theorem ok15 : (Θ 15).ok Tryd.prog 15 := ok_of (v := .pointer none) (by kernel_rfl) (by kernel_rfl) (by kernel_rfl) (by kernel_rfl) (says_sc Tryd.underlying15 (by kernel_rfl))
theorem ok16 : (Θ 16).ok Tryd.prog 16 := ok_of (v := .pointer none) (by kernel_rfl) (by kernel_rfl) (by kernel_rfl) (by kernel_rfl) (says_sc Tryd.underlying16 (by kernel_rfl))
theorem ok17 : (Θ 17).ok Tryd.prog 17 := ok_of (v := .pointer none) (by kernel_rfl) (by kernel_rfl) (by kernel_rfl) (by kernel_rfl) (says_sc Tryd.underlying17 (by kernel_rfl))
theorem ok18 : (Θ 18).ok Tryd.prog 18 := ok_of (v := .agg #[.pointer none]) (by kernel_rfl) (by kernel_rfl) (by kernel_rfl) (by kernel_rfl) (says_st Tryd.underlying18 (by kernel_rfl) (by kernel_rfl))
theorem ok19 : (Θ 19).ok Tryd.prog 19 := ok_of (v := .agg #[.pointer none]) (by kernel_rfl) (by kernel_rfl) (by kernel_rfl) (by kernel_rfl) (says_st Tryd.underlying19 (by kernel_rfl) (by kernel_rfl))
theorem ok20 : (Θ 20).ok Tryd.prog 20 := ok_of (v := .nilIface) (by kernel_rfl) (by kernel_rfl) (by kernel_rfl) (by kernel_rfl) (says_sc Tryd.underlying20 (by kernel_rfl))
theorem ok21 : (Θ 21).ok Tryd.prog 21 := ok_of (v := .int .i32 0) (by kernel_rfl) (by kernel_rfl) (by kernel_rfl) (by kernel_rfl) (says_sc Tryd.underlying21 (by kernel_rfl))
theorem ok22 : (Θ 22).ok Tryd.prog 22 := ok_of (v := .slice none 0 0) (by kernel_rfl) (by kernel_rfl) (by kernel_rfl) (by kernel_rfl) (says_sl Tryd.underlying22 (by kernel_rfl) (by decide))
theorem ok23 : (Θ 23).ok Tryd.prog 23 := ok_of (v := .nilFunc) (by kernel_rfl) (by kernel_rfl) (by kernel_rfl) (by kernel_rfl) (says_sc Tryd.underlying23 (by kernel_rfl))
theorem ok24 : (Θ 24).ok Tryd.prog 24 := ok_of (v := .int .u64 0) (by kernel_rfl) (by kernel_rfl) (by kernel_rfl) (by kernel_rfl) (says_sc Tryd.underlying24 (by kernel_rfl))
theorem ok25 : (Θ 25).ok Tryd.prog 25 := ok_of (v := .int .u64 0) (by kernel_rfl) (by kernel_rfl) (by kernel_rfl) (by kernel_rfl) (says_sc Tryd.underlying25 (by kernel_rfl))
theorem ok26 : (Θ 26).ok Tryd.prog 26 := ok_of (v := .agg #[.int .u64 0, .int .u64 0, .int .u64 0, .int .u64 0, .int .u64 0, .int .u64 0, .int .u64 0, .int .u64 0, .int .u64 0, .int .u64 0, .int .u64 0, .int .u64 0, .int .u64 0, .int .u64 0, .int .u64 0, .int .u64 0, .int .u64 0, .int .u64 0, .int .u64 0, .int .u64 0, .int .u64 0, .int .u64 0, .int .u64 0, .int .u64 0, .int .u64 0, .int .u64 0, .int .u64 0, .int .u64 0, .int .u64 0, .int .u64 0, .int .u64 0, .int .u64 0]) (by kernel_rfl) (by kernel_rfl) (by kernel_rfl) (by kernel_rfl) (says_ar Tryd.underlying26 (by kernel_rfl))
theorem ok27 : (Θ 27).ok Tryd.prog 27 := ok_of (v := .agg #[.int .u64 0, .int .u64 0, .int .u64 0, .int .u64 0, .int .u64 0, .int .u64 0, .int .u64 0, .int .u64 0, .int .u64 0, .int .u64 0, .int .u64 0, .int .u64 0, .int .u64 0, .int .u64 0, .int .u64 0, .int .u64 0, .int .u64 0, .int .u64 0, .int .u64 0, .int .u64 0, .int .u64 0, .int .u64 0, .int .u64 0, .int .u64 0, .int .u64 0, .int .u64 0, .int .u64 0, .int .u64 0, .int .u64 0, .int .u64 0, .int .u64 0, .int .u64 0]) (by kernel_rfl) (by kernel_rfl) (by kernel_rfl) (by kernel_rfl) (says_ar Tryd.underlying27 (by kernel_rfl))
theorem ok28 : (Θ 28).ok Tryd.prog 28 := ok_of (v := .agg #[.int .i64 0, .int .i64 0, .int .i64 0, .int .i64 0, .int .i64 0, .int .i64 0, .int .i64 0, .int .i64 0, .int .i64 0, .int .i64 0, .int .i64 0, .int .i64 0, .int .i64 0, .int .i64 0, .int .i64 0, .int .i64 0, .int .i64 0, .int .i64 0, .int .i64 0, .int .i64 0, .int .i64 0, .int .i64 0, .int .i64 0, .int .i64 0, .int .i64 0, .int .i64 0, .int .i64 0, .int .i64 0, .int .i64 0, .int .i64 0, .int .i64 0, .int .i64 0]) (by kernel_rfl) (by kernel_rfl) (by kernel_rfl) (by kernel_rfl) (says_ar Tryd.underlying28 (by kernel_rfl))
theorem ok29 : (Θ 29).ok Tryd.prog 29 := ok_of (v := .agg #[.int .i64 0, .int .i64 0, .int .i64 0, .int .i64 0, .int .i64 0, .int .i64 0, .int .i64 0, .int .i64 0, .int .i64 0, .int .i64 0, .int .i64 0, .int .i64 0, .int .i64 0, .int .i64 0, .int .i64 0, .int .i64 0, .int .i64 0, .int .i64 0, .int .i64 0, .int .i64 0, .int .i64 0, .int .i64 0, .int .i64 0, .int .i64 0, .int .i64 0, .int .i64 0, .int .i64 0, .int .i64 0, .int .i64 0, .int .i64 0, .int .i64 0, .int .i64 0]) (by kernel_rfl) (by kernel_rfl) (by kernel_rfl) (by kernel_rfl) (says_ar Tryd.underlying29 (by kernel_rfl))
theorem ok30 : (Θ 30).ok Tryd.prog 30 := ok_of (v := .agg #[.int .i64 0, .int .u64 0, .int .u64 0, .int .u64 0, .int .u64 0, .int .u64 0, .int .u64 0, .int .u64 0, .int .u64 0, .int .u64 0, .int .u64 0, .int .u64 0, .int .u64 0, .int .u64 0, .int .u64 0, .int .u64 0, .int .u64 0, .int .u64 0, .int .u64 0, .int .u64 0, .int .u64 0, .int .u64 0, .int .u64 0, .int .u64 0, .int .u64 0, .int .u64 0, .int .u64 0, .int .u64 0, .int .u64 0, .int .u64 0, .int .u64 0, .int .u64 0, .int .u64 0, .int .i64 0, .int .i64 0, .int .i64 0, .int .i64 0, .int .i64 0, .int .i64 0, .int .i64 0, .int .i64 0, .int .i64 0, .int .i64 0, .int .i64 0, .int .i64 0, .int .i64 0, .int .i64 0, .int .i64 0, .int .i64 0, .int .i64 0, .int .i64 0, .int .i64 0, .int .i64 0, .int .i64 0, .int .i64 0, .int .i64 0, .int .i64 0, .int .i64 0, .int .i64 0, .int .i64 0, .int .i64 0, .int .i64 0, .int .i64 0, .int .i64 0, .int .i64 0, .int .u64 0, .int .u64 0, .int .i64 0, .int .i64 0, .int .i64 0, .int .i64 0, .int .i64 0, .int .i64 0, .int .i64 0, .int .i64 0, .int .i64 0, .int .i64 0, .int .i64 0, .int .i64 0, .int .i64 0, .int .i64 0, .int .i64 0, .int .i64 0, .int .i64 0, .int .i64 0, .int .i64 0, .int .i64 0, .int .i64 0, .int .i64 0, .int .i64 0, .int .i64 0, .int .i64 0, .int .i64 0, .int .i64 0, .int .i64 0, .int .i64 0, .int .i64 0, .int .i64 0, .int .i64 0, .int .i64 0]) (by kernel_rfl) (by kernel_rfl) (by kernel_rfl) (by kernel_rfl) (says_st Tryd.underlying30 (by kernel_rfl) (by kernel_rfl))
theorem ok31 : (Θ 31).ok Tryd.prog 31 := ok_of (v := .agg #[.int .i64 0, .int .u64 0, .int .u64 0, .int .u64 0, .int .u64 0, .int .u64 0, .int .u64 0, .int .u64 0, .int .u64 0, .int .u64 0, .int .u64 0, .int .u64 0, .int .u64 0, .int .u64 0, .int .u64 0, .int .u64 0, .int .u64 0, .int .u64 0, .int .u64 0, .int .u64 0, .int .u64 0, .int .u64 0, .int .u64 0, .int .u64 0, .int .u64 0, .int .u64 0, .int .u64 0, .int .u64 0, .int .u64 0, .int .u64 0, .int .u64 0, .int .u64 0, .int .u64 0, .int .i64 0, .int .i64 0, .int .i64 0, .int .i64 0, .int .i64 0, .int .i64 0, .int .i64 0, .int .i64 0, .int .i64 0, .int .i64 0, .int .i64 0, .int .i64 0, .int .i64 0, .int .i64 0, .int .i64 0, .int .i64 0, .int .i64 0, .int .i64 0, .int .i64 0, .int .i64 0, .int .i64 0, .int .i64 0, .int .i64 0, .int .i64 0, .int .i64 0, .int .i64 0, .int .i64 0, .int .i64 0, .int .i64 0, .int .i64 0, .int .i64 0, .int .i64 0, .int .u64 0, .int .u64 0, .int .i64 0, .int .i64 0, .int .i64 0, .int .i64 0, .int .i64 0, .int .i64 0, .int .i64 0, .int .i64 0, .int .i64 0, .int .i64 0, .int .i64 0, .int .i64 0, .int .i64 0, .int .i64 0, .int .i64 0, .int .i64 0, .int .i64 0, .int .i64 0, .int .i64 0, .int .i64 0, .int .i64 0, .int .i64 0, .int .i64 0, .int .i64 0, .int .i64 0, .int .i64 0, .int .i64 0, .int .i64 0, .int .i64 0, .int .i64 0, .int .i64 0, .int .i64 0, .int .i64 0]) (by kernel_rfl) (by kernel_rfl) (by kernel_rfl) (by kernel_rfl) (says_st Tryd.underlying31 (by kernel_rfl) (by kernel_rfl))
theorem ok33 : (Θ 33).ok Tryd.prog 33 := ok_of (v := .nilFunc) (by kernel_rfl) (by kernel_rfl) (by kernel_rfl) (by kernel_rfl) (says_sc Tryd.underlying33 (by kernel_rfl))
theorem ok34 : (Θ 34).ok Tryd.prog 34 := ok_of (v := .agg #[.int .u64 0, .int .u64 0, .int .u64 0, .int .u64 0, .int .u64 0, .int .u64 0, .int .u64 0, .int .u64 0, .int .u64 0, .int .u64 0, .int .u64 0, .int .u64 0, .int .u64 0, .int .u64 0, .int .u64 0, .int .u64 0, .int .u64 0, .int .u64 0, .int .u64 0, .int .u64 0, .int .u64 0, .int .u64 0, .int .u64 0, .int .u64 0, .int .u64 0, .int .u64 0, .int .u64 0, .int .u64 0, .int .u64 0, .int .u64 0, .int .u64 0, .int .u64 0]) (by kernel_rfl) (by kernel_rfl) (by kernel_rfl) (by kernel_rfl) (says_ar Tryd.underlying34 (by kernel_rfl))
theorem ok35 : (Θ 35).ok Tryd.prog 35 := ok_of (v := .agg #[.int .u64 0, .int .u64 0, .int .u64 0, .int .u64 0, .int .u64 0, .int .u64 0, .int .u64 0, .int .u64 0, .int .u64 0, .int .u64 0, .int .u64 0, .int .u64 0, .int .u64 0, .int .u64 0, .int .u64 0, .int .u64 0, .int .u64 0, .int .u64 0, .int .u64 0, .int .u64 0, .int .u64 0, .int .u64 0, .int .u64 0, .int .u64 0, .int .u64 0, .int .u64 0, .int .u64 0, .int .u64 0, .int .u64 0, .int .u64 0, .int .u64 0, .int .u64 0]) (by kernel_rfl) (by kernel_rfl) (by kernel_rfl) (by kernel_rfl) (says_ar Tryd.underlying35 (by kernel_rfl))
theorem ok36 : (Θ 36).ok Tryd.prog 36 := ok_of (v := .agg #[.int .i64 0, .int .i64 0, .int .i64 0, .int .i64 0, .int .i64 0, .int .i64 0, .int .i64 0, .int .i64 0, .int .i64 0, .int .i64 0, .int .i64 0, .int .i64 0, .int .i64 0, .int .i64 0, .int .i64 0, .int .i64 0, .int .i64 0, .int .i64 0, .int .i64 0, .int .i64 0, .int .i64 0, .int .i64 0, .int .i64 0, .int .i64 0, .int .i64 0, .int .i64 0, .int .i64 0, .int .i64 0, .int .i64 0, .int .i64 0, .int .i64 0, .int .i64 0]) (by kernel_rfl) (by kernel_rfl) (by kernel_rfl) (by kernel_rfl) (says_ar Tryd.underlying36 (by kernel_rfl))
theorem ok37 : (Θ 37).ok Tryd.prog 37 := ok_of (v := .agg #[.int .i64 0, .int .u64 0, .int .u64 0, .int .u64 0, .int .u64 0, .int .u64 0, .int .u64 0, .int .u64 0, .int .u64 0, .int .u64 0, .int .u64 0, .int .u64 0, .int .u64 0, .int .u64 0, .int .u64 0, .int .u64 0, .int .u64 0, .int .u64 0, .int .u64 0, .int .u64 0, .int .u64 0, .int .u64 0, .int .u64 0, .int .u64 0, .int .u64 0, .int .u64 0, .int .u64 0, .int .u64 0, .int .u64 0, .int .u64 0, .int .u64 0, .int .u64 0, .int .u64 0, .int .i64 0, .int .i64 0, .int .i64 0, .int .i64 0, .int .i64 0, .int .i64 0, .int .i64 0, .int .i64 0, .int .i64 0, .int .i64 0, .int .i64 0, .int .i64 0, .int .i64 0, .int .i64 0, .int .i64 0, .int .i64 0, .int .i64 0, .int .i64 0, .int .i64 0, .int .i64 0, .int .i64 0, .int .i64 0, .int .i64 0, .int .i64 0, .int .i64 0, .int .i64 0, .int .i64 0, .int .i64 0, .int .i64 0, .int .i64 0, .int .i64 0, .int .i64 0, .int .u64 0, .int .u64 0, .int .i64 0, .int .i64 0, .int .i64 0, .int .i64 0, .int .i64 0, .int .i64 0, .int .i64 0, .int .i64 0, .int .i64 0, .int .i64 0, .int .i64 0, .int .i64 0, .int .i64 0, .int .i64 0, .int .i64 0, .int .i64 0, .int .i64 0, .int .i64 0, .int .i64 0, .int .i64 0, .int .i64 0, .int .i64 0, .int .i64 0, .int .i64 0, .int .i64 0, .int .i64 0, .int .i64 0, .int .i64 0, .int .i64 0, .int .i64 0, .int .i64 0, .int .i64 0, .int .i64 0]) (by kernel_rfl) (by kernel_rfl) (by kernel_rfl) (by kernel_rfl) (says_st Tryd.underlying37 (by kernel_rfl) (by kernel_rfl))
theorem ok38 : (Θ 38).ok Tryd.prog 38 := ok_of (v := .agg #[.int .i64 0, .int .u64 0, .int .u64 0, .int .u64 0, .int .u64 0, .int .u64 0, .int .u64 0, .int .u64 0, .int .u64 0, .int .u64 0, .int .u64 0, .int .u64 0, .int .u64 0, .int .u64 0, .int .u64 0, .int .u64 0, .int .u64 0, .int .u64 0, .int .u64 0, .int .u64 0, .int .u64 0, .int .u64 0, .int .u64 0, .int .u64 0, .int .u64 0, .int .u64 0, .int .u64 0, .int .u64 0, .int .u64 0, .int .u64 0, .int .u64 0, .int .u64 0, .int .u64 0, .int .i64 0, .int .i64 0, .int .i64 0, .int .i64 0, .int .i64 0, .int .i64 0, .int .i64 0, .int .i64 0, .int .i64 0, .int .i64 0, .int .i64 0, .int .i64 0, .int .i64 0, .int .i64 0, .int .i64 0, .int .i64 0, .int .i64 0, .int .i64 0, .int .i64 0, .int .i64 0, .int .i64 0, .int .i64 0, .int .i64 0, .int .i64 0, .int .i64 0, .int .i64 0, .int .i64 0, .int .i64 0, .int .i64 0, .int .i64 0, .int .i64 0, .int .i64 0, .int .u64 0, .int .u64 0, .int .i64 0, .int .i64 0, .int .i64 0, .int .i64 0, .int .i64 0, .int .i64 0, .int .i64 0, .int .i64 0, .int .i64 0, .int .i64 0, .int .i64 0, .int .i64 0, .int .i64 0, .int .i64 0, .int .i64 0, .int .i64 0, .int .i64 0, .int .i64 0, .int .i64 0, .int .i64 0, .int .i64 0, .int .i64 0, .int .i64 0, .int .i64 0, .int .i64 0, .int .i64 0, .int .i64 0, .int .i64 0, .int .i64 0, .int .i64 0, .int .i64 0, .int .i64 0, .int .i64 0]) (by kernel_rfl) (by kernel_rfl) (by kernel_rfl) (by kernel_rfl) (says_st Tryd.underlying38 (by kernel_rfl) (by kernel_rfl))
theorem ok40 : (Θ 40).ok Tryd.prog 40 := ok_of (v := .nilFunc) (by kernel_rfl) (by kernel_rfl) (by kernel_rfl) (by kernel_rfl) (says_sc Tryd.underlying40 (by kernel_rfl))
theorem ok41 : (Θ 41).ok Tryd.prog 41 := ok_of (v := .nilFunc) (by kernel_rfl) (by kernel_rfl) (by kernel_rfl) (by kernel_rfl) (says_sc Tryd.underlying41 (by kernel_rfl))
theorem ok42 : (Θ 42).ok Tryd.prog 42 := ok_of (v := .agg #[.int .u8 0, .int .i64 0, .int .i64 0]) (by kernel_rfl) (by kernel_rfl) (by kernel_rfl) (by kernel_rfl) (says_st Tryd.underlying42 (by kernel_rfl) (by kernel_rfl))
theorem ok43 : (Θ 43).ok Tryd.prog 43 := ok_of (v := .agg #[.int .u8 0, .int .i64 0, .int .i64 0]) (by kernel_rfl) (by kernel_rfl) (by kernel_rfl) (by kernel_rfl) (says_st Tryd.underlying43 (by kernel_rfl) (by kernel_rfl))
theorem ok45 : (Θ 45).ok Tryd.prog 45 := ok_of (v := .nilFunc) (by kernel_rfl) (by kernel_rfl) (by kernel_rfl) (by kernel_rfl) (says_sc Tryd.underlying45 (by kernel_rfl))
theorem ok46 : (Θ 46).ok Tryd.prog 46 := ok_of (v := .nilFunc) (by kernel_rfl) (by kernel_rfl) (by kernel_rfl) (by kernel_rfl) (says_sc Tryd.underlying46 (by kernel_rfl))
theorem ok47 : (Θ 47).ok Tryd.prog 47 := ok_of (v := .nilFunc) (by kernel_rfl) (by kernel_rfl) (by kernel_rfl) (by kernel_rfl) (says_sc Tryd.underlying47 (by kernel_rfl))
theorem ok48 : (Θ 48).ok Tryd.prog 48 := ok_of (v := .slice none 0 0) (by kernel_rfl) (by kernel_rfl) (by kernel_rfl) (by kernel_rfl) (says_sl Tryd.underlying48 (by kernel_rfl) (by decide))
theorem ok50 : (Θ 50).ok Tryd.prog 50 := ok_of (v := .nilFunc) (by kernel_rfl) (by kernel_rfl) (by kernel_rfl) (by kernel_rfl) (says_sc Tryd.underlying50 (by kernel_rfl))
theorem ok51 : (Θ 51).ok Tryd.prog 51 := ok_of (v := .map none) (by kernel_rfl) (by kernel_rfl) (by kernel_rfl) (by kernel_rfl) (says_sc Tryd.underlying51 (by kernel_rfl))
theorem ok52 : (Θ 52).ok Tryd.prog 52 := ok_of (v := .nilFunc) (by kernel_rfl) (by kernel_rfl) (by kernel_rfl) (by kernel_rfl) (says_sc Tryd.underlying52 (by kernel_rfl))
theorem ok53 : (Θ 53).ok Tryd.prog 53 := ok_of (v := .nilFunc) (by kernel_rfl) (by kernel_rfl) (by kernel_rfl) (by kernel_rfl) (says_sc Tryd.underlying53 (by kernel_rfl))
theorem ok54 : (Θ 54).ok Tryd.prog 54 := ok_of (v := .nilFunc) (by kernel_rfl) (by kernel_rfl) (by kernel_rfl) (by kernel_rfl) (says_sc Tryd.underlying54 (by kernel_rfl))
theorem ok55 : (Θ 55).ok Tryd.prog 55 := ok_of (v := .nilFunc) (by kernel_rfl) (by kernel_rfl) (by kernel_rfl) (by kernel_rfl) (says_sc Tryd.underlying55 (by kernel_rfl))
theorem ok56 : (Θ 56).ok Tryd.prog 56 := ok_of (v := .nilFunc) (by kernel_rfl) (by kernel_rfl) (by kernel_rfl) (by kernel_rfl) (says_sc Tryd.underlying56 (by kernel_rfl))
theorem ok57 : (Θ 57).ok Tryd.prog 57 := ok_of (v := .int .i64 0) (by kernel_rfl) (by kernel_rfl) (by kernel_rfl) (by kernel_rfl) (says_sc Tryd.underlying57 (by kernel_rfl))
theorem ok59 : (Θ 59).ok Tryd.prog 59 := ok_of (v := .nilFunc) (by kernel_rfl) (by kernel_rfl) (by kernel_rfl) (by kernel_rfl) (says_sc Tryd.underlying59 (by kernel_rfl))
theorem ok60 : (Θ 60).ok Tryd.prog 60 := ok_of (v := .agg #[.int .u8 0, .slice none 0 0, .int .i64 0, .int .i64 0]) (by kernel_rfl) (by kernel_rfl) (by kernel_rfl) (by kernel_rfl) (says_st Tryd.underlying60 (by kernel_rfl) (by kernel_rfl))
theorem ok61 : (Θ 61).ok Tryd.prog 61 := ok_of (v := .agg #[.int .u8 0, .slice none 0 0, .int .i64 0, .int .i64 0]) (by kernel_rfl) (by kernel_rfl) (by kernel_rfl) (by kernel_rfl) (says_st Tryd.underlying61 (by kernel_rfl) (by kernel_rfl))
theorem ok62 : (Θ 62).ok Tryd.prog 62 := ok_of (v := .nilFunc) (by kernel_rfl) (by kernel_rfl) (by kernel_rfl) (by kernel_rfl) (says_sc Tryd.underlying62 (by kernel_rfl))
theorem ok64 : (Θ 64).ok Tryd.prog 64 := ok_of (v := .nilFunc) (by kernel_rfl) (by kernel_rfl) (by kernel_rfl) (by kernel_rfl) (says_sc Tryd.underlying64 (by kernel_rfl))
theorem ok65 : (Θ 65).ok Tryd.prog 65 := ok_of (v := .nilFunc) (by kernel_rfl) (by kernel_rfl) (by kernel_rfl) (by kernel_rfl) (says_sc Tryd.underlying65 (by kernel_rfl))
theorem ok66 : (Θ 66).ok Tryd.prog 66 := ok_of (v := .nilFunc) (by kernel_rfl) (by kernel_rfl) (by kernel_rfl) (by kernel_rfl) (says_sc Tryd.underlying66 (by kernel_rfl))
theorem ok68 : (Θ 68).ok Tryd.prog 68 := ok_of (v := .nilFunc) (by kernel_rfl) (by kernel_rfl) (by kernel_rfl) (by kernel_rfl) (says_sc Tryd.underlying68 (by kernel_rfl))
theorem ok69 : (Θ 69).ok Tryd.prog 69 := ok_of (v := .nilFunc) (by kernel_rfl) (by kernel_rfl) (by kernel_rfl) (by kernel_rfl) (says_sc Tryd.underlying69 (by kernel_rfl))
theorem ok70 : (Θ 70).ok Tryd.prog 70 := ok_of (v := .nilFunc) (by kernel_rfl) (by kernel_rfl) (by kernel_rfl) (by kernel_rfl) (says_sc Tryd.underlying70 (by kernel_rfl))
theorem ok71 : (Θ 71).ok Tryd.prog 71 := ok_of (v := .nilFunc) (by kernel_rfl) (by kernel_rfl) (by kernel_rfl) (by kernel_rfl) (says_sc Tryd.underlying71 (by kernel_rfl))
theorem ok72 : (Θ 72).ok Tryd.prog 72 := ok_of (v := .nilFunc) (by kernel_rfl) (by kernel_rfl) (by kernel_rfl) (by kernel_rfl) (says_sc Tryd.underlying72 (by kernel_rfl))
theorem ok74 : (Θ 74).ok Tryd.prog 74 := ok_of (v := .nilFunc) (by kernel_rfl) (by kernel_rfl) (by kernel_rfl) (by kernel_rfl) (says_sc Tryd.underlying74 (by kernel_rfl))
theorem ok75 : (Θ 75).ok Tryd.prog 75 := ok_of (v := .nilFunc) (by kernel_rfl) (by kernel_rfl) (by kernel_rfl) (by kernel_rfl) (says_sc Tryd.underlying75 (by kernel_rfl))
theorem ok77 : (Θ 77).ok Tryd.prog 77 := ok_of (v := .nilFunc) (by kernel_rfl) (by kernel_rfl) (by kernel_rfl) (by kernel_rfl) (says_sc Tryd.underlying77 (by kernel_rfl))
theorem ok78 : (Θ 78).ok Tryd.prog 78 := ok_of (v := .nilFunc) (by kernel_rfl) (by kernel_rfl) (by kernel_rfl) (by kernel_rfl) (says_sc Tryd.underlying78 (by kernel_rfl))
theorem ok80 : (Θ 80).ok Tryd.prog 80 := ok_of (v := .nilFunc) (by kernel_rfl) (by kernel_rfl) (by kernel_rfl) (by kernel_rfl) (says_sc Tryd.underlying80 (by kernel_rfl))
theorem ok81 : (Θ 81).ok Tryd.prog 81 := ok_of (v := .nilFunc) (by kernel_rfl) (by kernel_rfl) (by kernel_rfl) (by kernel_rfl) (says_sc Tryd.underlying81 (by kernel_rfl))
theorem ok82 : (Θ 82).ok Tryd.prog 82 := ok_of (v := .nilFunc) (by kernel_rfl) (by kernel_rfl) (by kernel_rfl) (by kernel_rfl) (says_sc Tryd.underlying82 (by kernel_rfl))
theorem ok83 : (Θ 83).ok Tryd.prog 83 := ok_of (v := .nilFunc) (by kernel_rfl) (by kernel_rfl) (by kernel_rfl) (by kernel_rfl) (says_sc Tryd.underlying83 (by kernel_rfl))
theorem ok84 : (Θ 84).ok Tryd.prog 84 := ok_of (v := .nilFunc) (by kernel_rfl) (by kernel_rfl) (by kernel_rfl) (by kernel_rfl) (says_sc Tryd.underlying84 (by kernel_rfl))
theorem ok86 : (Θ 86).ok Tryd.prog 86 := ok_of (v := .nilFunc) (by kernel_rfl) (by kernel_rfl) (by kernel_rfl) (by kernel_rfl) (says_sc Tryd.underlying86 (by kernel_rfl))
theorem ok87 : (Θ 87).ok Tryd.prog 87 := ok_of (v := .nilFunc) (by kernel_rfl) (by kernel_rfl) (by kernel_rfl) (by kernel_rfl) (says_sc Tryd.underlying87 (by kernel_rfl))
theorem ok88 : (Θ 88).ok Tryd.prog 88 := ok_of (v := .nilFunc) (by kernel_rfl) (by kernel_rfl) (by kernel_rfl) (by kernel_rfl) (says_sc Tryd.underlying88 (by kernel_rfl))
theorem ok89 : (Θ 89).ok Tryd.prog 89 := ok_of (v := .nilFunc) (by kernel_rfl) (by kernel_rfl) (by kernel_rfl) (by kernel_rfl) (says_sc Tryd.underlying89 (by kernel_rfl))
theorem ok90 : (Θ 90).ok Tryd.prog 90 := ok_of (v := .nilFunc) (by kernel_rfl) (by kernel_rfl) (by kernel_rfl) (by kernel_rfl) (says_sc Tryd.underlying90 (by kernel_rfl))
theorem ok91 : (Θ 91).ok Tryd.prog 91 := ok_of (v := .nilFunc) (by kernel_rfl) (by kernel_rfl) (by kernel_rfl) (by kernel_rfl) (says_sc Tryd.underlying91 (by kernel_rfl))
theorem ok92 : (Θ 92).ok Tryd.prog 92 := ok_of (v := .nilFunc) (by kernel_rfl) (by kernel_rfl) (by kernel_rfl) (by kernel_rfl) (says_sc Tryd.underlying92 (by kernel_rfl))
theorem ok93 : (Θ 93).ok Tryd.prog 93 := ok_of (v := .nilFunc) (by kernel_rfl) (by kernel_rfl) (by kernel_rfl) (by kernel_rfl) (says_sc Tryd.underlying93 (by kernel_rfl))
theorem ok94 : (Θ 94).ok Tryd.prog 94 := ok_of (v := .nilFunc) (by kernel_rfl) (by kernel_rfl) (by kernel_rfl) (by kernel_rfl) (says_sc Tryd.underlying94 (by kernel_rfl))
theorem ok96 : (Θ 96).ok Tryd.prog 96 := ok_of (v := .nilFunc) (by kernel_rfl) (by kernel_rfl) (by kernel_rfl) (by kernel_rfl) (says_sc Tryd.underlying96 (by kernel_rfl))
theorem ok97 : (Θ 97).ok Tryd.prog 97 := ok_of (v := .nilFunc) (by kernel_rfl) (by kernel_rfl) (by kernel_rfl) (by kernel_rfl) (says_sc Tryd.underlying97 (by kernel_rfl))
theorem ok98 : (Θ 98).ok Tryd.prog 98 := ok_of (v := .nilFunc) (by kernel_rfl) (by kernel_rfl) (by kernel_rfl) (by kernel_rfl) (says_sc Tryd.underlying98 (by kernel_rfl))
theorem ok99 : (Θ 99).ok Tryd.prog 99 := ok_of (v := .agg #[.bool false, .bool false, .bool false, .bool false, .bool false, .bool false, .bool false, .bool false, .bool false, .bool false, .bool false, .bool false, .bool false, .bool false, .bool false, .bool false, .bool false, .bool false, .bool false, .bool false, .bool false, .bool false, .bool false, .bool false, .bool false, .bool false, .bool false, .bool false, .bool false, .bool false, .bool false, .bool false, .bool false, .bool false, .bool false, .bool false, .bool false, .bool false, .bool false, .bool false, .bool false, .bool false, .bool false, .bool false, .bool false, .bool false, .bool false, .bool false, .bool false, .bool false, .bool false, .bool false, .bool false, .bool false, .bool false, .bool false, .bool false, .bool false, .bool false, .bool false, .bool false, .bool false, .bool false, .bool false]) (by kernel_rfl) (by kernel_rfl) (by kernel_rfl) (by kernel_rfl) (says_ar Tryd.underlying99 (by kernel_rfl))
theorem ok100 : (Θ 100).ok Tryd.prog 100 := ok_of (v := .nilFunc) (by kernel_rfl) (by kernel_rfl) (by kernel_rfl) (by kernel_rfl) (says_sc Tryd.underlying100 (by kernel_rfl))
theorem ok101 : (Θ 101).ok Tryd.prog 101 := ok_of (v := .nilFunc) (by kernel_rfl) (by kernel_rfl) (by kernel_rfl) (by kernel_rfl) (says_sc Tryd.underlying101 (by kernel_rfl))
theorem ok102 : (Θ 102).ok Tryd.prog 102 := ok_of (v := .nilFunc) (by kernel_rfl) (by kernel_rfl) (by kernel_rfl) (by kernel_rfl) (says_sc Tryd.underlying102 (by kernel_rfl))
theorem ok103 : (Θ 103).ok Tryd.prog 103 := ok_of (v := .nilFunc) (by kernel_rfl) (by kernel_rfl) (by kernel_rfl) (by kernel_rfl) (says_sc Tryd.underlying103 (by kernel_rfl))
theorem ok104 : (Θ 104).ok Tryd.prog 104 := ok_of (v := .agg #[.int .u8 0, .int .u8 0, .int .u8 0, .int .u8 0, .int .u8 0, .int .u8 0, .int .u8 0, .int .u8 0, .int .u8 0, .int .u8 0, .int .u8 0, .int .u8 0, .int .u8 0, .int .u8 0, .int .u8 0, .int .u8 0, .int .u8 0, .int .u8 0, .int .u8 0, .int .u8 0, .int .u8 0, .int .u8 0, .int .u8 0, .int .u8 0, .int .u8 0, .int .u8 0, .int .u8 0, .int .u8 0, .int .u8 0, .int .u8 0, .int .u8 0, .int .u8 0, .int .u8 0, .int .u8 0, .int .u8 0, .int .u8 0, .int .u8 0, .int .u8 0, .int .u8 0, .int .u8 0, .int .u8 0, .int .u8 0, .int .u8 0, .int .u8 0, .int .u8 0, .int .u8 0, .int .u8 0, .int .u8 0, .int .u8 0, .int .u8 0, .int .u8 0, .int .u8 0, .int .u8 0, .int .u8 0, .int .u8 0, .int .u8 0, .int .u8 0, .int .u8 0, .int .u8 0, .int .u8 0, .int .u8 0, .int .u8 0, .int .u8 0, .int .u8 0]) (by kernel_rfl) (by kernel_rfl) (by kernel_rfl) (by kernel_rfl) (says_ar Tryd.underlying104 (by kernel_rfl))
theorem ok105 : (Θ 105).ok Tryd.prog 105 := ok_of (v := .int .u64 0) (by kernel_rfl) (by kernel_rfl) (by kernel_rfl) (by kernel_rfl) (says_sc Tryd.underlying105 (by kernel_rfl))
theorem ok106 : (Θ 106).ok Tryd.prog 106 := ok_of (v := .pointer none) (by kernel_rfl) (by kernel_rfl) (by kernel_rfl) (by kernel_rfl) (says_sc Tryd.underlying106 (by kernel_rfl))
theorem ok108 : (Θ 108).ok Tryd.prog 108 := ok_of (v := .nilFunc) (by kernel_rfl) (by kernel_rfl) (by kernel_rfl) (by kernel_rfl) (says_sc Tryd.underlying108 (by kernel_rfl))
theorem ok110 : (Θ 110).ok Tryd.prog 110 := ok_of (v := .nilFunc) (by kernel_rfl) (by kernel_rfl) (by kernel_rfl) (by kernel_rfl) (says_sc Tryd.underlying110 (by kernel_rfl))
theorem ok111 : (Θ 111).ok Tryd.prog 111 := ok_of (v := .nilFunc) (by kernel_rfl) (by kernel_rfl) (by kernel_rfl) (by kernel_rfl) (says_sc Tryd.underlying111 (by kernel_rfl))
theorem ok112 : (Θ 112).ok Tryd.prog 112 := ok_of (v := .nilFunc) (by kernel_rfl) (by kernel_rfl) (by kernel_rfl) (by kernel_rfl) (says_sc Tryd.underlying112 (by kernel_rfl))
theorem ok113 : (Θ 113).ok Tryd.prog 113 := ok_of (v := .nilFunc) (by kernel_rfl) (by kernel_rfl) (by kernel_rfl) (by kernel_rfl) (says_sc Tryd.underlying113 (by kernel_rfl))
theorem ok114 : (Θ 114).ok Tryd.prog 114 := ok_of (v := .nilFunc) (by kernel_rfl) (by kernel_rfl) (by kernel_rfl) (by kernel_rfl) (says_sc Tryd.underlying114 (by kernel_rfl))
theorem ok115 : (Θ 115).ok Tryd.prog 115 := ok_of (v := .nilFunc) (by kernel_rfl) (by kernel_rfl) (by kernel_rfl) (by kernel_rfl) (says_sc Tryd.underlying115 (by kernel_rfl))
theorem ok116 : (Θ 116).ok Tryd.prog 116 := ok_of (v := .nilFunc) (by kernel_rfl) (by kernel_rfl) (by kernel_rfl) (by kernel_rfl) (says_sc Tryd.underlying116 (by kernel_rfl))
theorem ok117 : (Θ 117).ok Tryd.prog 117 := ok_of (v := .nilFunc) (by kernel_rfl) (by kernel_rfl) (by kernel_rfl) (by kernel_rfl) (says_sc Tryd.underlying117 (by kernel_rfl))
theorem ok118 : (Θ 118).ok Tryd.prog 118 := ok_of (v := .nilFunc) (by kernel_rfl) (by kernel_rfl) (by kernel_rfl) (by kernel_rfl) (says_sc Tryd.underlying118 (by kernel_rfl))
theorem ok119 : (Θ 119).ok Tryd.prog 119 := ok_of (v := .nilFunc) (by kernel_rfl) (by kernel_rfl) (by kernel_rfl) (by kernel_rfl) (says_sc Tryd.underlying119 (by kernel_rfl))
theorem ok120 : (Θ 120).ok Tryd.prog 120 := ok_of (v := .nilFunc) (by kernel_rfl) (by kernel_rfl) (by kernel_rfl) (by kernel_rfl) (says_sc Tryd.underlying120 (by kernel_rfl))
theorem ok121 : (Θ 121).ok Tryd.prog 121 := ok_of (v := .nilFunc) (by kernel_rfl) (by kernel_rfl) (by kernel_rfl) (by kernel_rfl) (says_sc Tryd.underlying121 (by kernel_rfl))
theorem ok122 : (Θ 122).ok Tryd.prog 122 := ok_of (v := .nilFunc) (by kernel_rfl) (by kernel_rfl) (by kernel_rfl) (by kernel_rfl) (says_sc Tryd.underlying122 (by kernel_rfl))
theorem ok123 : (Θ 123).ok Tryd.prog 123 := ok_of (v := .slice none 0 0) (by kernel_rfl) (by kernel_rfl) (by kernel_rfl) (by kernel_rfl) (says_sl Tryd.underlying123 (by kernel_rfl) (by decide))
theorem ok124 : (Θ 124).ok Tryd.prog 124 := ok_of (v := .nilFunc) (by kernel_rfl) (by kernel_rfl) (by kernel_rfl) (by kernel_rfl) (says_sc Tryd.underlying124 (by kernel_rfl))
theorem ok125 : (Θ 125).ok Tryd.prog 125 := ok_of (v := .nilFunc) (by kernel_rfl) (by kernel_rfl) (by kernel_rfl) (by kernel_rfl) (says_sc Tryd.underlying125 (by kernel_rfl))
theorem ok126 : (Θ 126).ok Tryd.prog 126 := ok_of (v := .nilFunc) (by kernel_rfl) (by kernel_rfl) (by kernel_rfl) (by kernel_rfl) (says_sc Tryd.underlying126 (by kernel_rfl))
theorem ok127 : (Θ 127).ok Tryd.prog 127 := ok_of (v := .nilFunc) (by kernel_rfl) (by kernel_rfl) (by kernel_rfl) (by kernel_rfl) (says_sc Tryd.underlying127 (by kernel_rfl))
theorem ok128 : (Θ 128).ok Tryd.prog 128 := ok_of (v := .int .i64 0) (by kernel_rfl) (by kernel_rfl) (by kernel_rfl) (by kernel_rfl) (says_sc Tryd.underlying128 (by kernel_rfl))
theorem ok130 : (Θ 130).ok Tryd.prog 130 := ok_of (v := .nilFunc) (by kernel_rfl) (by kernel_rfl) (by kernel_rfl) (by kernel_rfl) (says_sc Tryd.underlying130 (by kernel_rfl))
theorem ok131 : (Θ 131).ok Tryd.prog 131 := ok_of (v := .nilFunc) (by kernel_rfl) (by kernel_rfl) (by kernel_rfl) (by kernel_rfl) (says_sc Tryd.underlying131 (by kernel_rfl))
theorem ok132 : (Θ 132).ok Tryd.prog 132 := ok_of (v := .nilFunc) (by kernel_rfl) (by kernel_rfl) (by kernel_rfl) (by kernel_rfl) (says_sc Tryd.underlying132 (by kernel_rfl))
theorem ok133 : (Θ 133).ok Tryd.prog 133 := ok_of (v := .nilFunc) (by kernel_rfl) (by kernel_rfl) (by kernel_rfl) (by kernel_rfl) (says_sc Tryd.underlying133 (by kernel_rfl))
theorem ok134 : (Θ 134).ok Tryd.prog 134 := ok_of (v := .nilFunc) (by kernel_rfl) (by kernel_rfl) (by kernel_rfl) (by kernel_rfl) (says_sc Tryd.underlying134 (by kernel_rfl))
theorem ok135 : (Θ 135).ok Tryd.prog 135 := ok_of (v := .int .u32 0) (by kernel_rfl) (by kernel_rfl) (by kernel_rfl) (by kernel_rfl) (says_sc Tryd.underlying135 (by kernel_rfl))
theorem ok136 : (Θ 136).ok Tryd.prog 136 := ok_of (v := .int .u64 0) (by kernel_rfl) (by kernel_rfl) (by kernel_rfl) (by kernel_rfl) (says_sc Tryd.underlying136 (by kernel_rfl))
theorem ok137 : (Θ 137).ok Tryd.prog 137 := ok_of (v := .nilFunc) (by kernel_rfl) (by kernel_rfl) (by kernel_rfl) (by kernel_rfl) (says_sc Tryd.underlying137 (by kernel_rfl))
theorem ok138 : (Θ 138).ok Tryd.prog 138 := ok_of (v := .nilFunc) (by kernel_rfl) (by kernel_rfl) (by kernel_rfl) (by kernel_rfl) (says_sc Tryd.underlying138 (by kernel_rfl))
theorem ok139 : (Θ 139).ok Tryd.prog 139 := ok_of (v := .nilFunc) (by kernel_rfl) (by kernel_rfl) (by kernel_rfl) (by kernel_rfl) (says_sc Tryd.underlying139 (by kernel_rfl))
theorem ok140 : (Θ 140).ok Tryd.prog 140 := ok_of (v := .pointer none) (by kernel_rfl) (by kernel_rfl) (by kernel_rfl) (by kernel_rfl) (says_sc Tryd.underlying140 (by kernel_rfl))
theorem ok141 : (Θ 141).ok Tryd.prog 141 := ok_of (v := .nilFunc) (by kernel_rfl) (by kernel_rfl) (by kernel_rfl) (by kernel_rfl) (says_sc Tryd.underlying141 (by kernel_rfl))
theorem ok142 : (Θ 142).ok Tryd.prog 142 := ok_of (v := .pointer none) (by kernel_rfl) (by kernel_rfl) (by kernel_rfl) (by kernel_rfl) (says_sc Tryd.underlying142 (by kernel_rfl))
theorem ok144 : (Θ 144).ok Tryd.prog 144 := ok_of (v := .nilFunc) (by kernel_rfl) (by kernel_rfl) (by kernel_rfl) (by kernel_rfl) (says_sc Tryd.underlying144 (by kernel_rfl))
theorem ok145 : (Θ 145).ok Tryd.prog 145 := ok_of (v := .nilFunc) (by kernel_rfl) (by kernel_rfl) (by kernel_rfl) (by kernel_rfl) (says_sc Tryd.underlying145 (by kernel_rfl))
theorem ok146 : (Θ 146).ok Tryd.prog 146 := ok_of (v := .agg #[.pointer none, .pointer none, .pointer none, .string ⟨#[]⟩]) (by kernel_rfl) (by kernel_rfl) (by kernel_rfl) (by kernel_rfl) (says_st Tryd.underlying146 (by kernel_rfl) (by kernel_rfl))
theorem ok147 : (Θ 147).ok Tryd.prog 147 := ok_of (v := .agg #[.pointer none, .pointer none, .pointer none, .string ⟨#[]⟩]) (by kernel_rfl) (by kernel_rfl) (by kernel_rfl) (by kernel_rfl) (says_st Tryd.underlying147 (by kernel_rfl) (by kernel_rfl))
theorem ok151 : (Θ 151).ok Tryd.prog 151 := ok_of (v := .nilFunc) (by kernel_rfl) (by kernel_rfl) (by kernel_rfl) (by kernel_rfl) (says_sc Tryd.underlying151 (by kernel_rfl))
theorem ok152 : (Θ 152).ok Tryd.prog 152 := ok_of (v := .int .u8 0) (by kernel_rfl) (by kernel_rfl) (by kernel_rfl) (by kernel_rfl) (says_sc Tryd.underlying152 (by kernel_rfl))
theorem ok153 : (Θ 153).ok Tryd.prog 153 := ok_of (v := .int .u8 0) (by kernel_rfl) (by kernel_rfl) (by kernel_rfl) (by kernel_rfl) (says_sc Tryd.underlying153 (by kernel_rfl))
theorem ok154 : (Θ 154).ok Tryd.prog 154 := ok_of (v := .nilFunc) (by kernel_rfl) (by kernel_rfl) (by kernel_rfl) (by kernel_rfl) (says_sc Tryd.underlying154 (by kernel_rfl))
theorem ok155 : (Θ 155).ok Tryd.prog 155 := ok_of (v := .pointer none) (by kernel_rfl) (by kernel_rfl) (by kernel_rfl) (by kernel_rfl) (says_sc Tryd.underlying155 (by kernel_rfl))
theorem ok156 : (Θ 156).ok Tryd.prog 156 := ok_of (v := .int .i32 0) (by kernel_rfl) (by kernel_rfl) (by kernel_rfl) (by kernel_rfl) (says_sc Tryd.underlying156 (by kernel_rfl))
theorem ok157 : (Θ 157).ok Tryd.prog 157 := ok_of (v := .int .i32 0) (by kernel_rfl) (by kernel_rfl) (by kernel_rfl) (by kernel_rfl) (says_sc Tryd.underlying157 (by kernel_rfl))
theorem ok158 : (Θ 158).ok Tryd.prog 158 := ok_of (v := .agg #[.int .u64 0, .int .u64 0, .int .u32 0, .int .u8 0, .int .u8 0, .int .u8 0, .int .u8 0, .nilFunc, .pointer none, .int .i32 0, .int .i32 0]) (by kernel_rfl) (by kernel_rfl) (by kernel_rfl) (by kernel_rfl) (says_st Tryd.underlying158 (by kernel_rfl) (by kernel_rfl))
theorem ok159 : (Θ 159).ok Tryd.prog 159 := ok_of (v := .agg #[.int .u64 0, .int .u64 0, .int .u32 0, .int .u8 0, .int .u8 0, .int .u8 0, .int .u8 0, .nilFunc, .pointer none, .int .i32 0, .int .i32 0]) (by kernel_rfl) (by kernel_rfl) (by kernel_rfl) (by kernel_rfl) (says_st Tryd.underlying159 (by kernel_rfl) (by kernel_rfl))

theorem agree : Agree Tryd.prog Θ := by
  intro T hk
  unfold Θ at hk
  split at hk
  · exact ok1
  · exact ok2
  · exact ok3
  · exact ok4
  · exact ok5
  · exact ok6
  · exact ok7
  · exact ok8
  · exact ok9
  · exact ok10
  · exact ok11
  · exact ok12
  · exact ok13
  · exact ok14
  · exact ok15
  · exact ok16
  · exact ok17
  · exact ok18
  · exact ok19
  · exact ok20
  · exact ok21
  · exact ok22
  · exact ok23
  · exact ok24
  · exact ok25
  · exact ok26
  · exact ok27
  · exact ok28
  · exact ok29
  · exact ok30
  · exact ok31
  · exact ok33
  · exact ok34
  · exact ok35
  · exact ok36
  · exact ok37
  · exact ok38
  · exact ok40
  · exact ok41
  · exact ok42
  · exact ok43
  · exact ok45
  · exact ok46
  · exact ok47
  · exact ok48
  · exact ok50
  · exact ok51
  · exact ok52
  · exact ok53
  · exact ok54
  · exact ok55
  · exact ok56
  · exact ok57
  · exact ok59
  · exact ok60
  · exact ok61
  · exact ok62
  · exact ok64
  · exact ok65
  · exact ok66
  · exact ok68
  · exact ok69
  · exact ok70
  · exact ok71
  · exact ok72
  · exact ok74
  · exact ok75
  · exact ok77
  · exact ok78
  · exact ok80
  · exact ok81
  · exact ok82
  · exact ok83
  · exact ok84
  · exact ok86
  · exact ok87
  · exact ok88
  · exact ok89
  · exact ok90
  · exact ok91
  · exact ok92
  · exact ok93
  · exact ok94
  · exact ok96
  · exact ok97
  · exact ok98
  · exact ok99
  · exact ok100
  · exact ok101
  · exact ok102
  · exact ok103
  · exact ok104
  · exact ok105
  · exact ok106
  · exact ok108
  · exact ok110
  · exact ok111
  · exact ok112
  · exact ok113
  · exact ok114
  · exact ok115
  · exact ok116
  · exact ok117
  · exact ok118
  · exact ok119
  · exact ok120
  · exact ok121
  · exact ok122
  · exact ok123
  · exact ok124
  · exact ok125
  · exact ok126
  · exact ok127
  · exact ok128
  · exact ok130
  · exact ok131
  · exact ok132
  · exact ok133
  · exact ok134
  · exact ok135
  · exact ok136
  · exact ok137
  · exact ok138
  · exact ok139
  · exact ok140
  · exact ok141
  · exact ok142
  · exact ok144
  · exact ok145
  · exact ok146
  · exact ok147
  · exact ok151
  · exact ok152
  · exact ok153
  · exact ok154
  · exact ok155
  · exact ok156
  · exact ok157
  · exact ok158
  · exact ok159
  · cases hk

theorem callAll : (List.range 106).all (fun f => decide (f < 3) || match Tryd.prog.funcs[f]? with | some fn => !(fn.name == "runtime.NumGoroutine") && !fn.body.isNone | none => false) = true := by kernel_rfl
theorem callable {f : Nat} (h : 3 ≤ f ∧ f < 106) : Callable Tryd.prog f := by
  have h1 := List.all_eq_true.1 callAll f (List.mem_range.2 h.2)
  have h0 : ¬ f < 3 := by omega
  simp only [h0, decide_false, Bool.false_or] at h1
  split at h1
  · next fn hf =>
    simp only [Bool.and_eq_true, Bool.not_eq_true'] at h1
    exact ⟨fn, hf, h1.1, h1.2⟩
  · cases h1

theorem mixed : Tryd.prog.follows .mixedOrders = true := by kernel_rfl

end Go.Proofs.YtaflihoopnjcgaaDoor

namespace Go.Proofs
open Go.Shelf
def Tryd.tz64_ren : Go.Shelf.Ren := ⟨fun | 29 => 45 | n => n, fun | 22 => 24 | 3 => 3 | 4 => 4 | 25 => 105 | 54 => 104 | 0 => 0 | 5 => 5 | n => n, fun | 1 => 0 | n => n⟩
theorem Tryd.tz64 : Go.Proofs.Lays7.n29 Tryd.prog Tryd.tz64_ren := {
  mixed := by kernel_rfl
  f29 := Tryd.func45.trans (congrArg some (by kernel_rfl))
  t0 := Tryd.underlying0
  a0 := Tryd.isAgg0
  z0 := Tryd.sizeOf0
  v0 := Tryd.zeroValue0
  i0 := by kernel_rfl
  t3 := Tryd.underlying3
  a3 := Tryd.isAgg3
  z3 := Tryd.sizeOf3
  v3 := Tryd.zeroValue3
  i3 := by kernel_rfl
  t4 := Tryd.underlying4
  a4 := Tryd.isAgg4
  z4 := Tryd.sizeOf4
  v4 := Tryd.zeroValue4
  i4 := by kernel_rfl
  t5 := Tryd.underlying5
  a5 := Tryd.isAgg5
  z5 := Tryd.sizeOf5
  v5 := Tryd.zeroValue5
  i5 := by kernel_rfl
  t22 := Tryd.underlying24
  a22 := Tryd.isAgg24
  z22 := Tryd.sizeOf24
  v22 := Tryd.zeroValue24
  i22 := by kernel_rfl
  t25 := Tryd.underlying105
  a25 := Tryd.isAgg105
  z25 := Tryd.sizeOf105
  v25 := Tryd.zeroValue105
  i25 := by kernel_rfl
  t54 := Tryd.underlying104
  a54 := Tryd.isAgg104
  z54 := Tryd.sizeOf104
  g1 := by kernel_rfl }
end Go.Proofs

namespace Go.Proofs
open Go.Shelf
def Tryd.sortInt_ren : Go.Shelf.Ren := ⟨fun | 6 => 83 | 15 => 88 | 14 => 87 | 28 => 98 | 29 => 99 | 20 => 90 | 21 => 91 | 22 => 92 | 23 => 93 | 24 => 94 | 25 => 95 | 26 => 96 | 27 => 97 | 46 => 100 | 47 => 101 | 48 => 102 | 49 => 103 | 50 => 104 | 57 => 105 | n => n, fun | 22 => 48 | 24 => 3 | 25 => 122 | 3 => 3 | 39 => 105 | 0 => 0 | 53 => 135 | 55 => 24 | 4 => 4 | 46 => 129 | 45 => 128 | 50 => 85 | 5 => 5 | 9 => 9 | 66 => 136 | 70 => 140 | 76 => 142 | 77 => 143 | n => n, fun | n => n⟩
theorem Tryd.sortInt : Go.Proofs.SlLaysF.n6 Tryd.prog Tryd.sortInt_ren := {
  mixed := by kernel_rfl
  f6 := ⟨Tryd.f83.name, by decide, Tryd.func83.trans (congrArg some (by kernel_rfl))⟩
  f14 := ⟨Tryd.f87.name, by decide, Tryd.func87.trans (congrArg some (by kernel_rfl))⟩
  f15 := Tryd.func88.trans (congrArg some (by kernel_rfl))
  f20 := ⟨Tryd.f90.name, by decide, Tryd.func90.trans (congrArg some (by kernel_rfl))⟩
  f21 := ⟨Tryd.f91.name, by decide, Tryd.func91.trans (congrArg some (by kernel_rfl))⟩
  f22 := ⟨Tryd.f92.name, by decide, Tryd.func92.trans (congrArg some (by kernel_rfl))⟩
  f23 := ⟨Tryd.f93.name, by decide, Tryd.func93.trans (congrArg some (by kernel_rfl))⟩
  f24 := ⟨Tryd.f94.name, by decide, Tryd.func94.trans (congrArg some (by kernel_rfl))⟩
  f25 := ⟨Tryd.f95.name, by decide, Tryd.func95.trans (congrArg some (by kernel_rfl))⟩
  f26 := ⟨Tryd.f96.name, by decide, Tryd.func96.trans (congrArg some (by kernel_rfl))⟩
  f27 := ⟨Tryd.f97.name, by decide, Tryd.func97.trans (congrArg some (by kernel_rfl))⟩
  f28 := Tryd.func98.trans (congrArg some (by kernel_rfl))
  f29 := Tryd.func99.trans (congrArg some (by kernel_rfl))
  f46 := ⟨Tryd.f100.name, by decide, Tryd.func100.trans (congrArg some (by kernel_rfl))⟩
  f47 := Tryd.func101.trans (congrArg some (by kernel_rfl))
  f48 := Tryd.func102.trans (congrArg some (by kernel_rfl))
  f49 := ⟨Tryd.f103.name, by decide, Tryd.func103.trans (congrArg some (by kernel_rfl))⟩
  f50 := ⟨Tryd.f104.name, by decide, Tryd.func104.trans (congrArg some (by kernel_rfl))⟩
  f57 := ⟨Tryd.f105.name, by decide, Tryd.func105.trans (congrArg some (by kernel_rfl))⟩
  t0 := Tryd.underlying0
  a0 := Tryd.isAgg0
  z0 := Tryd.sizeOf0
  v0 := Tryd.zeroValue0
  t3 := Tryd.underlying3
  a3 := Tryd.isAgg3
  z3 := Tryd.sizeOf3
  v3 := Tryd.zeroValue3
  t4 := Tryd.underlying4
  a4 := Tryd.isAgg4
  z4 := Tryd.sizeOf4
  v4 := Tryd.zeroValue4
  t5 := Tryd.underlying5
  a5 := Tryd.isAgg5
  z5 := Tryd.sizeOf5
  v5 := Tryd.zeroValue5
  t9 := Tryd.underlying9
  a9 := Tryd.isAgg9
  z9 := Tryd.sizeOf9
  v9 := Tryd.zeroValue9
  t22 := Tryd.underlying48
  a22 := Tryd.isAgg48
  z22 := Tryd.sizeOf48
  v22 := Tryd.zeroValue48
  a24 := Tryd.isAgg3
  z24 := Tryd.sizeOf3
  t25 := Tryd.underlying122
  a25 := Tryd.isAgg122
  z25 := Tryd.sizeOf122
  v25 := Tryd.zeroValue122
  t39 := Tryd.underlying105
  a39 := Tryd.isAgg105
  z39 := Tryd.sizeOf105
  v39 := Tryd.zeroValue105
  t45 := Tryd.underlying128
  a45 := Tryd.isAgg128
  z45 := Tryd.sizeOf128
  v45 := Tryd.zeroValue128
  t46 := Tryd.underlying129
  a46 := Tryd.isAgg129
  z46 := Tryd.sizeOf129
  v46 := Tryd.zeroValue129
  t50 := Tryd.underlying85
  a50 := Tryd.isAgg85
  z50 := Tryd.sizeOf85
  v50 := Tryd.zeroValue85
  t53 := Tryd.underlying135
  a53 := Tryd.isAgg135
  z53 := Tryd.sizeOf135
  v53 := Tryd.zeroValue135
  t55 := Tryd.underlying24
  a55 := Tryd.isAgg24
  z55 := Tryd.sizeOf24
  v55 := Tryd.zeroValue24
  t66 := Tryd.underlying136
  a66 := Tryd.isAgg136
  z66 := Tryd.sizeOf136
  v66 := Tryd.zeroValue136
  t70 := Tryd.underlying140
  a70 := Tryd.isAgg140
  z70 := Tryd.sizeOf140
  v70 := Tryd.zeroValue140
  t76 := Tryd.underlying142
  a76 := Tryd.isAgg142
  z76 := Tryd.sizeOf142
  v76 := Tryd.zeroValue142
  t77 := Tryd.underlying143
  a77 := Tryd.isAgg143
  z77 := Tryd.sizeOf143
  v77 := Tryd.zeroValue143 }
def Tryd.cmpInt_ren : Go.Shelf.Ren := ⟨fun | 5 => 85 | 7 => 89 | n => n, fun | 22 => 3 | 3 => 3 | 4 => 4 | n => n, fun | n => n⟩
theorem Tryd.cmpInt : Go.Proofs.SlLaysC2.n5 Tryd.prog Tryd.cmpInt_ren := {
  mixed := by kernel_rfl
  f5 := ⟨Tryd.f85.name, by decide, Tryd.func85.trans (congrArg some (by kernel_rfl))⟩
  f7 := ⟨Tryd.f89.name, by decide, Tryd.func89.trans (congrArg some (by kernel_rfl))⟩
  t3 := Tryd.underlying3
  a3 := Tryd.isAgg3
  z3 := Tryd.sizeOf3
  v3 := Tryd.zeroValue3
  t4 := Tryd.underlying4
  a4 := Tryd.isAgg4
  z4 := Tryd.sizeOf4
  v4 := Tryd.zeroValue4
  t22 := Tryd.underlying3
  a22 := Tryd.isAgg3
  z22 := Tryd.sizeOf3
  v22 := Tryd.zeroValue3 }
end Go.Proofs

namespace Go.Proofs
open Go.Shelf
def Tryd.growInt_ren : Go.Shelf.Ren := ⟨fun | 4 => 86 | n => n, fun | 22 => 48 | 25 => 3 | 3 => 3 | 4 => 4 | 9 => 9 | 20 => 20 | 0 => 0 | n => n, fun | n => n⟩
theorem Tryd.growInt : Go.Proofs.Lays8.n4 Tryd.prog Tryd.growInt_ren := {
  mixed := by kernel_rfl
  f4 := ⟨Tryd.f86.name, by decide, Tryd.func86.trans (congrArg some (by kernel_rfl))⟩
  t0 := Tryd.underlying0
  a0 := Tryd.isAgg0
  z0 := Tryd.sizeOf0
  v0 := Tryd.zeroValue0
  t3 := Tryd.underlying3
  a3 := Tryd.isAgg3
  z3 := Tryd.sizeOf3
  v3 := Tryd.zeroValue3
  t4 := Tryd.underlying4
  a4 := Tryd.isAgg4
  z4 := Tryd.sizeOf4
  v4 := Tryd.zeroValue4
  t9 := Tryd.underlying9
  a9 := Tryd.isAgg9
  z9 := Tryd.sizeOf9
  v9 := Tryd.zeroValue9
  t20 := Tryd.underlying20
  a20 := Tryd.isAgg20
  z20 := Tryd.sizeOf20
  v20 := Tryd.zeroValue20
  t22 := Tryd.underlying48
  a22 := Tryd.isAgg48
  z22 := Tryd.sizeOf48
  v22 := Tryd.zeroValue48 }
end Go.Proofs

namespace Go.Proofs.YtaflihoopnjcgaaDoor
open Go Go.Dat

abbrev M64 : Nat := 18446744073709551616
/-- A set. -/
def S (s : Nat) : D := .v (.int .u64 (s : Int))

theorem u64_in {n : Nat} (h : n < M64) : IntKind.u64.wrap (n : Int) = n := by
  simp only [IntKind.wrap, IntKind.bits, IntKind.signed]
  simp only [M64] at h
  simp
  omega

theorem and64 {a b : Nat} (ha : a < M64) (hb : b < M64) : IntKind.u64.wrap (BitVec.ofInt IntKind.u64.bits (a : Int) &&& BitVec.ofInt IntKind.u64.bits (b : Int)).toNat = ((a &&& b : Nat) : Int) := by
  have h1 : IntKind.u64.bits = 64 := rfl
  rw [h1, BitVec.ofInt_natCast, BitVec.ofInt_natCast, BitVec.toNat_and, BitVec.toNat_ofNat, BitVec.toNat_ofNat, Nat.mod_eq_of_lt ha, Nat.mod_eq_of_lt hb]
  exact u64_in (Nat.lt_of_le_of_lt Nat.and_le_left ha)

theorem or_lt {a b : Nat} (ha : a < M64) (hb : b < M64) : a ||| b < M64 := Nat.or_lt_two_pow (n := 64) ha hb

theorem or64 {a b : Nat} (ha : a < M64) (hb : b < M64) : IntKind.u64.wrap (BitVec.ofInt IntKind.u64.bits (a : Int) ||| BitVec.ofInt IntKind.u64.bits (b : Int)).toNat = ((a ||| b : Nat) : Int) := by
  have h1 : IntKind.u64.bits = 64 := rfl
  rw [h1, BitVec.ofInt_natCast, BitVec.ofInt_natCast, BitVec.toNat_or, BitVec.toNat_ofNat, BitVec.toNat_ofNat, Nat.mod_eq_of_lt ha, Nat.mod_eq_of_lt hb]
  exact u64_in (or_lt ha hb)

def small (i : Int) : Bool := decide (0 ≤ i) && decide (i ≤ 63)
def bitN (i : Int) : Nat := if small i then 2 ^ i.toNat else 0
theorem bitN_lt (i : Int) : bitN i < M64 := by
  unfold bitN
  split
  · next h =>
    simp only [small, Bool.and_eq_true, decide_eq_true_eq] at h
    exact Nat.pow_lt_pow_right (a := 2) (by decide) (show i.toNat < 64 by omega)
  · decide
def hasN (s : Nat) (i : Int) : Bool := small i && s.testBit i.toNat
theorem has_and (s : Nat) (i : Int) : (((s &&& bitN i : Nat) : Int) != 0) = hasN s i := by
  unfold bitN hasN
  split
  · next h =>
    rw [h, Bool.true_and]
    cases hb : s.testBit i.toNat
    · have : s &&& 2 ^ i.toNat = 0 := by
        apply Nat.eq_of_testBit_eq
        intro j
        rw [Nat.testBit_and, Nat.testBit_two_pow]
        by_cases hj : i.toNat = j
        · subst hj; simp [hb]
        · simp [hj]
      simp [this]
    · have : s &&& 2 ^ i.toNat ≠ 0 := by
        intro h0
        have h1 : (s &&& 2 ^ i.toNat).testBit i.toNat = true := by rw [Nat.testBit_and, Nat.testBit_two_pow, hb]; simp
        rw [h0] at h1
        simp at h1
      simp
      omega
  · next h => simp [h]
def withN (s : Nat) (i : Int) : Nat := s ||| bitN i
def ofN (l : List Int) : Nat := l.foldl withN 0

theorem c_bit (i : Int) : DFun Tryd.prog 46 [.v (.int .i64 i)] (S (bitN i)) := by
  refine DFun.ofRun agree mixed Tryd.func46 rfl rfl ?_
  repeat (first | refine wa ?_ | refine wb ?_ | refine wc ?_ | ((first | refine wl rfl rfl ?_ ?_ | refine wn (wp rfl rfl rfl rfl rfl ?_) rfl ?_); try (first | exact trivial | ((repeat' apply And.intro) <;> first | exact trivial | exact rfl | omega | (simp; done) | (simp; omega)))))
  refine OpsAt.br rfl rfl rfl (fun h1 => ?_) (fun h1 => ?_)
  · repeat (first | refine wa ?_ | refine wb ?_ | refine wc ?_ | ((first | refine wl rfl rfl ?_ ?_ | refine wt rfl ?_ ?_); try (first | exact trivial | ((repeat' apply And.intro) <;> first | exact trivial | exact rfl | omega | (simp; done) | (simp; omega)))) | refine ws rfl rfl ?_)
    refine wD (wE rfl rfl ?_)
    have : small i = false := by simp [small] at h1 ⊢; omega
    simp [bitN, this, S]
  repeat (first | refine wb ?_ | ((first | refine wl rfl rfl ?_ ?_ | refine wm rfl rfl rfl ?_ ?_ | refine wo rfl (wp rfl rfl rfl rfl rfl ?_) rfl ?_); try (first | ((repeat' apply And.intro) <;> first | exact trivial | exact rfl | omega | (simp; done) | (simp; omega)))))
  refine Run.condB rfl rfl (fun h2 => ?_) (fun h2 => ?_)
  · repeat (first | refine wa ?_ | refine wb ?_ | refine wc ?_ | ((refine wl rfl rfl ?_ ?_); try (first | exact trivial)))
    refine wD (wE rfl rfl ?_)
    have : small i = false := by simp [small] at h2 ⊢; omega
    simp [bitN, this, S]
  · have hs : small i = true := by simp [small] at h1 h2 ⊢; omega
    have h1' : 0 ≤ i ∧ i ≤ 63 := by simpa [small] using hs
    repeat (first | refine wa ?_ | refine wb ?_ | refine wc ?_ | refine wf ?_ | ((first | refine wl rfl rfl ?_ ?_ | refine wn (wp rfl rfl rfl rfl rfl ?_) rfl ?_); try (first | ((repeat' apply And.intro) <;> first | exact trivial | exact rfl | omega | (simp; done) | (simp; omega)))))
    refine wD (wE rfl rfl ?_)
    have hm : min i.toNat 64 = i.toNat := by omega
    have : IntKind.u64.wrap ((1 : Int) * 2 ^ min i.toNat IntKind.u64.bits) = ((2 ^ i.toNat : Nat) : Int) := by
      rw [show IntKind.u64.bits = 64 from rfl, hm, Int.one_mul]
      have := u64_in (n := 2 ^ i.toNat) (by have := bitN_lt i; rwa [bitN, if_pos hs] at this)
      rw [← this]
      simp
    rw [this]
    simp [bitN, hs, S]

theorem c_Has (s : Nat) (i : Int) (h : s < M64) : DFun Tryd.prog 19 [S s, .v (.int .i64 i)] (.v (.bool (hasN s i))) := by
  refine DFun.ofRun agree mixed Tryd.func19 rfl rfl ?_
  repeat (first | refine wa ?_ | refine wb ?_ | refine wc ?_ | ((refine wl rfl rfl ?_ ?_); try (first | exact trivial | ((repeat' apply And.intro) <;> first | exact trivial | exact rfl | omega | (simp; done) | (simp; omega)))))
  refine wn (wA rfl rfl rfl (by repeat' (first | exact trivial | exact rfl | assumption | apply And.intro)) (callable (by decide)) (c_bit i)) rfl ?_
  repeat (first | refine wb ?_ | ((first | refine wl rfl rfl ?_ ?_ | refine wn (wp rfl rfl rfl rfl rfl ?_) rfl ?_); try (first | ((repeat' apply And.intro) <;> first | exact trivial | exact rfl | omega | (simp; done) | (simp; omega)))))
  refine wD (wE rfl rfl ?_)
  rw [and64 h (bitN_lt i), has_and]

theorem c_With (s : Nat) (i : Int) (h : s < M64) : DFun Tryd.prog 47 [S s, .v (.int .i64 i)] (S (withN s i)) := by
  refine DFun.ofRun agree mixed Tryd.func47 rfl rfl ?_
  repeat (first | refine wa ?_ | refine wb ?_ | refine wc ?_ | ((refine wl rfl rfl ?_ ?_); try (first | exact trivial | ((repeat' apply And.intro) <;> first | exact trivial | exact rfl | omega | (simp; done) | (simp; omega)))))
  refine wn (wA rfl rfl rfl (by repeat' (first | exact trivial | exact rfl | assumption | apply And.intro)) (callable (by decide)) (c_bit i)) rfl ?_
  repeat (first | refine wb ?_ | ((first | refine wl rfl rfl ?_ ?_ | refine wn (wp rfl rfl rfl rfl rfl ?_) rfl ?_); try (first | ((repeat' apply And.intro) <;> first | exact trivial | exact rfl | omega | (simp; done) | (simp; omega)))))
  refine wD (wE rfl rfl ?_)
  rw [or64 h (bitN_lt i)]
  rfl

theorem withN_lt {s : Nat} (i : Int) (h : s < M64) : withN s i < M64 := or_lt h (bitN_lt i)
theorem ofN_lt (l : List Int) : ∀ {s : Nat}, s < M64 → l.foldl withN s < M64 := by
  induction l with
  | nil => exact fun h => h
  | cons x l ih => exact fun h => ih (withN_lt x h)
end Go.Proofs.YtaflihoopnjcgaaDoor

namespace Go.Proofs.YtaflihoopnjcgaaDoor
open Go Go.Dat

def ints (l : List Int) : List D := l.map fun n => .v (.int .i64 n)

theorem c_Of (k : SK) (l : List Int) (hl : l.length ≤ 1000000) : DFun Tryd.prog 82 [.lst k 1 (ints l)] (S (ofN l)) := by
  refine DFun.ofRun agree mixed Tryd.func82 rfl rfl ?_
  repeat (first | refine wa ?_ | refine wb ?_ | refine wc ?_ | refine wd ?_ | ((first | refine wl rfl rfl ?_ ?_ | refine wn (wq agree rfl rfl rfl ?_) rfl ?_); try (first | exact trivial | ((repeat' apply And.intro) <;> first | exact trivial | exact rfl | omega | (simp; done) | (simp; omega)))))
  refine Run.keep [0, 2, 5, 6, 7] rfl ?_
  have hlx : ((ints l).length : Int) = l.length := by simp [ints]
  refine Run.at (l' := [(0, .d (.lst k 1 (ints l))), (2, .d (S (ofN []))), (5, .d (.lst k 1 (ints l))), (6, .d (.v (.int .i64 l.length))), (7, .d (.v (.int .i64 (0 : Nat))))]) (by rw [← hlx]; rfl) ?_
  refine Run.loopL (α := List Int × List Int) (fun q => l = q.1 ++ q.2) (fun q => [(0, .d (.lst k 1 (ints l))), (2, .d (S (ofN q.1))), (5, .d (.lst k 1 (ints l))), (6, .d (.v (.int .i64 l.length))), (7, .d (.v (.int .i64 q.1.length)))]) (fun q => q.2.length) ([], l) rfl ?_
  rintro ⟨pre, post⟩ hp ih
  simp only at hp
  have hlen : l.length = pre.length + post.length := by rw [hp]; simp
  repeat (first | refine wa ?_ | refine wb ?_ | refine wc ?_ | ((refine wn (wp rfl rfl rfl rfl rfl ?_) rfl ?_); try (first | ((repeat' apply And.intro) <;> first | exact trivial | exact rfl | omega | (simp; done) | (simp; omega)))))
  refine Run.condB rfl rfl (fun hb => ?_) (fun hb => ?_)
  · cases post with
    | nil => simp [hp] at hb
    | cons x post =>
      simp only [List.length_cons] at hlen
      have hgd : (ints l).getD ((pre.length : Int)).toNat un = .v (.int .i64 x) := by simp [hp, ints]
      repeat (first | refine wa ?_ | refine wc ?_ | refine wd ?_ | refine wf ?_ | ((refine wl rfl rfl ?_ ?_); try (first | (rw [hgd] <;> rfl) | ((repeat' apply And.intro) <;> first | exact trivial | exact rfl | omega | (simp; done) | (simp; omega)))))
      first | refine OpsAt.say (d := 10) rfl (y := .v (.int .i64 x)) (hgd) ?_ | refine Run.say (d := 10) rfl (y := .v (.int .i64 x)) (hgd) ?_ | refine OpsR.say (q := 10) rfl (y := .v (.int .i64 x)) (hgd) ?_ | refine OpsB.say (d := 10) rfl (y := .v (.int .i64 x)) (hgd) ?_
      repeat (first | refine wb ?_ | refine wc ?_ | ((refine wl rfl rfl ?_ ?_); try (first | ((repeat' apply And.intro) <;> first | exact trivial | exact rfl | omega | (simp; done) | (simp; omega)))))
      refine wn (wA rfl rfl rfl (by repeat' (first | exact trivial | exact rfl | assumption | apply And.intro)) (callable (by decide)) (c_bit x)) rfl ?_
      repeat (first | refine wb ?_ | refine wc ?_ | refine we ?_ | ((first | refine wl rfl rfl ?_ ?_ | refine wn (wp rfl rfl rfl rfl rfl ?_) rfl ?_); try (first | ((repeat' apply And.intro) <;> first | exact trivial | exact rfl | omega | (simp; done) | (simp; omega)))))
      first | refine OpsAt.say (d := 2) rfl (y := S (ofN (pre ++ [x]))) ((congrArg (fun z => D.v (.int .u64 z)) (or64 (ofN_lt (s := 0) pre (by decide)) (bitN_lt x))).trans (by simp [ofN, withN, S])) ?_ | refine Run.say (d := 2) rfl (y := S (ofN (pre ++ [x]))) ((congrArg (fun z => D.v (.int .u64 z)) (or64 (ofN_lt (s := 0) pre (by decide)) (bitN_lt x))).trans (by simp [ofN, withN, S])) ?_ | refine OpsR.say (q := 2) rfl (y := S (ofN (pre ++ [x]))) ((congrArg (fun z => D.v (.int .u64 z)) (or64 (ofN_lt (s := 0) pre (by decide)) (bitN_lt x))).trans (by simp [ofN, withN, S])) ?_ | refine OpsB.say (d := 2) rfl (y := S (ofN (pre ++ [x]))) ((congrArg (fun z => D.v (.int .u64 z)) (or64 (ofN_lt (s := 0) pre (by decide)) (bitN_lt x))).trans (by simp [ofN, withN, S])) ?_
      first | refine OpsAt.say (d := 7) rfl (y := .v (.int .i64 ((pre ++ [x]).length : Nat))) (by rw [wrap64_in _ (by simp only; omega)]; simp) ?_ | refine Run.say (d := 7) rfl (y := .v (.int .i64 ((pre ++ [x]).length : Nat))) (by rw [wrap64_in _ (by simp only; omega)]; simp) ?_ | refine OpsR.say (q := 7) rfl (y := .v (.int .i64 ((pre ++ [x]).length : Nat))) (by rw [wrap64_in _ (by simp only; omega)]; simp) ?_ | refine OpsB.say (d := 7) rfl (y := .v (.int .i64 ((pre ++ [x]).length : Nat))) (by rw [wrap64_in _ (by simp only; omega)]; simp) ?_
      refine Run.keep [0, 2, 5, 6, 7] rfl ?_
      exact ih (pre ++ [x], post) (by simp [hp]) (by simp)
  · have h0 : post = [] := by cases post with | nil => rfl | cons x post => simp at hlen hb; omega
    subst h0
    repeat (first | refine wa ?_ | refine wb ?_ | refine wc ?_ | ((refine wl rfl rfl ?_ ?_); try (first | ((repeat' apply And.intro) <;> first | exact trivial | exact rfl | omega | (simp; done) | (simp; omega)))) | refine wj rfl ?_)
    refine wD (wE rfl rfl ?_)
    rw [hp, List.append_nil]
end Go.Proofs.YtaflihoopnjcgaaDoor

namespace Go.Proofs.YtaflihoopnjcgaaDoor
open Go Go.Dat

theorem ints_len (l : List Int) : (ints l).length = l.length := by simp [ints]
theorem ints_lend (l : List Int) : lends (ints l) = ints l := lends_flat _ (fun x hx => by
  obtain ⟨n, _, rfl⟩ := List.mem_map.1 hx
  exact ⟨_, rfl⟩)

/-- An order: where each stands. -/
def ord (l : List Int) : D := .arr 1 (ints l)
theorem noOwns_v (l : List D) (h : ∀ x ∈ l, ∃ v, x = .v v) : noOwns l = true := by
  induction l with
  | nil => rfl
  | cons d l ih =>
    obtain ⟨v, rfl⟩ := h d (by simp)
    simp only [noOwns, D.noOwn, ih (fun x hx => h x (by simp [hx])), Bool.and_true]
theorem ord_pl (l : List Int) : (ord l).pl = true := noOwns_v _ (fun x hx => by
  obtain ⟨n, _, rfl⟩ := List.mem_map.1 hx
  exact ⟨_, rfl⟩)
theorem ord_fits {T : TypeId} {l : List Int} (h : l.length = 32) (hT : ((Θ T).known && (Θ T).td.isAgg && ((Θ T).n == 32)) = true) : (Θ T).fits (ord l) = true := by
  simp only [Bool.and_eq_true, beq_iff_eq] at hT
  unfold TI.fits
  have h1 : (ord l).size = 32 := by show 1 * (ints l).length = 32; rw [ints_len, h]
  have h2 : (ord l).isAgg = true := rfl
  rw [hT.1.1, hT.1.2, hT.2, h1, h2]
  rfl
def rightO (l : List Int) : Bool := decide (ofN l = 4294967295)

theorem c_Right (l : List Int) (h : l.length = 32) : DFun Tryd.prog 81 [ord l] (.v (.bool (rightO l))) := by
  refine DFun.ofRun agree mixed Tryd.func81 rfl rfl ?_
  repeat (first | refine wa ?_ | refine wc ?_ | ((refine wl rfl rfl ?_ ?_)))
  · exact ord_pl l
  repeat (first | refine wa ?_ | refine wb ?_ | refine wc ?_ | ((refine wl rfl rfl ?_ ?_); try (first | exact trivial)))
  refine wn (Ev.sliceArr (ds := ints l) (e := 3) (es := 1) agree rfl rfl ?_ ?_) rfl ?_
  · show D.lend (.arr 1 (ints l)) = _
    simp only [D.lend, ints_lend]
  · rw [ints_len, h]; rfl
  refine wn (xc rfl rfl rfl rfl (by repeat' (first | exact trivial | exact rfl | assumption | apply And.intro)) (callable (by decide)) (c_Of .any l (by omega))) rfl ?_
  repeat (first | refine wb ?_ | ((first | refine wl rfl rfl ?_ ?_ | refine wn (wp rfl rfl rfl rfl rfl ?_) rfl ?_); try (first | ((repeat' apply And.intro) <;> first | exact trivial | exact rfl | omega | (simp; done) | (simp; omega)))))
  refine wD (wE rfl rfl ?_)
  show D.v (.bool ((ofN l : Int) == 4294967295)) = _
  unfold rightO
  congr 2
  rw [Bool.eq_iff_iff]
  simp
  omega

theorem ord_at {l : List Int} {i : Nat} (hi : i < l.length) : (ord l).get [i] = .v (.int .i64 (l.getD i 0)) := by
  show (ints l).getD i un = _
  simp [ints, hi]
theorem ord_set (l : List Int) (i : Nat) (n : Int) : (ord l).set [i] (.v (.int .i64 n)) = ord (l.set i n) := by
  show D.arr 1 ((ints l).set i (D.v (.int .i64 n))) = _
  simp [ord, ints, List.map_set]
theorem ord_sto {T : TypeId} {l : List Int} {i : Nat} {n : Int} (hi : i < l.length) (hf : (Θ T).fits (.v (.int .i64 n)) = true) :
    ((Θ T).fits (.v (.int .i64 n)) && ((D.v (.int .i64 n)).size == ((ord l).get [i]).size) && ((ord l).get [i]).noOwn) = true := by
  rw [hf, ord_at hi]
  rfl

def upto (i : Nat) : List Int := (List.range 32).map fun j => if j < i then (j : Int) else 0
theorem upto_len (i : Nat) : (upto i).length = 32 := by simp [upto]
theorem upto_set (i : Nat) (hi : i < 32) : (upto i).set i i = upto (i + 1) := by
  apply List.ext_getElem?
  intro j
  rw [List.getElem?_set]
  by_cases h1 : i = j
  · subst h1
    simp [upto, hi]
  · simp only [h1, if_false, upto, List.getElem?_map]
    by_cases h2 : j < 32
    · have h3 : j < i ↔ j < i + 1 := by omega
      simp [h2, h3]
    · simp [h2]

theorem c_New : DFun Tryd.prog 29 [] (ord (upto 32)) := by
  refine DFun.ofRun agree mixed Tryd.func29 rfl rfl ?_
  repeat (first | refine wa ?_ | refine wb ?_ | refine wc ?_ | refine wd ?_ | ((refine wl rfl rfl ?_ ?_); try (first | exact trivial | ((repeat' apply And.intro) <;> first | exact trivial | exact rfl | omega | (simp; done) | (simp; omega)))))
  refine Run.keep [0, 2] rfl ?_
  refine Run.at (l' := [(0, .box (ord (upto 0))), (2, .d (.v (.int .i64 (0 : Nat))))]) rfl ?_
  refine Run.loopL (α := Nat) (fun i => i ≤ 32) (fun i => [(0, .box (ord (upto i))), (2, .d (.v (.int .i64 i)))]) (fun i => 32 - i) 0 (by decide) ?_
  intro i hi ih
  repeat (first | refine wa ?_ | refine wb ?_ | refine wc ?_ | ((refine wn (wp rfl rfl rfl rfl rfl ?_) rfl ?_); try (first | ((repeat' apply And.intro) <;> first | exact trivial | exact rfl | omega | (simp; done) | (simp; omega)))))
  refine Run.condB rfl rfl (fun hb => ?_) (fun hb => ?_)
  · have hi2 : i < 32 := by simp at hb; omega
    repeat (first | refine wa ?_ | refine wb ?_ | refine wc ?_ | refine wd ?_ | refine wf ?_ | ((refine wl rfl rfl ?_ ?_); try (first | ((repeat' apply And.intro) <;> first | exact trivial | exact rfl | omega | (simp; done) | (simp; omega)))))
    refine wv rfl rfl rfl (ord_sto (by rw [upto_len]; exact hi2) rfl) rfl ?_
    repeat (first | refine wb ?_ | refine wc ?_ | refine we ?_ | ((first | refine wl rfl rfl ?_ ?_ | refine wn (wp rfl rfl rfl rfl rfl ?_) rfl ?_); try (first | ((repeat' apply And.intro) <;> first | exact trivial | exact rfl | omega | (simp; done) | (simp; omega)))))
    first | refine OpsAt.sayB (d := 0) rfl (y := ord (upto (i + 1))) ((ord_set (upto i) i i).trans (by rw [upto_set i hi2])) ?_ | refine Run.sayB (d := 0) rfl (y := ord (upto (i + 1))) ((ord_set (upto i) i i).trans (by rw [upto_set i hi2])) ?_
    first | refine OpsAt.say (d := 2) rfl (y := .v (.int .i64 (i + 1 : Nat))) (by rw [wrap64_in ((i : Int) + 1) (by omega)]; simp) ?_ | refine Run.say (d := 2) rfl (y := .v (.int .i64 (i + 1 : Nat))) (by rw [wrap64_in ((i : Int) + 1) (by omega)]; simp) ?_ | refine OpsR.say (q := 2) rfl (y := .v (.int .i64 (i + 1 : Nat))) (by rw [wrap64_in ((i : Int) + 1) (by omega)]; simp) ?_ | refine OpsB.say (d := 2) rfl (y := .v (.int .i64 (i + 1 : Nat))) (by rw [wrap64_in ((i : Int) + 1) (by omega)]; simp) ?_
    refine Run.keep [0, 2] rfl ?_
    exact ih (i + 1) (by omega) (by omega)
  · have hi2 : i = 32 := by simp at hb; omega
    subst hi2
    repeat (first | refine wa ?_ | refine wb ?_ | refine wc ?_ | ((first | refine wl rfl rfl ?_ ?_ | refine wv rfl rfl ?_ rfl rfl ?_); try (first | ((repeat' apply And.intro) <;> first | exact trivial | exact rfl | omega | (simp; done) | (simp; omega)))) | refine wj rfl ?_)
    exact wD (Ends.cellE agree rfl rfl rfl rfl)
end Go.Proofs.YtaflihoopnjcgaaDoor

namespace Go.Proofs.YtaflihoopnjcgaaDoor
open Go Go.Dat

theorem c_tz (x : Nat) (hx : x < M64) : DFun Tryd.prog 45 [S x] (.v (.int .i64 (Lib.ctz 64 x))) := by
  refine DFun.lib (xs := [.int .u64 x]) rfl fun w hw => ?_
  refine (Any7.bits_TrailingZeros64 Tryd.tz64 x hx w (fun _ => hw)).mono fun e w' ⟨he, hw'⟩ => ⟨_, he, ⟨[_], by simp [Rp, Value.oneCell'], rfl⟩, ?_⟩
  rw [hw']
  exact Go.RowKit.Below.refl _ _

def firstN (s : Nat) : Int := if s = 0 then -1 else Lib.ctz 64 s

theorem c_First (s : Nat) (h : s < M64) : DFun Tryd.prog 18 [S s] (.v (.int .i64 (firstN s))) := by
  refine DFun.ofRun agree mixed Tryd.func18 rfl rfl ?_
  repeat (first | refine wa ?_ | refine wb ?_ | refine wc ?_ | ((first | refine wl rfl rfl ?_ ?_ | refine wn (wp rfl rfl rfl rfl rfl ?_) rfl ?_); try (first | exact trivial | ((repeat' apply And.intro) <;> first | exact trivial | exact rfl | omega | (simp; done) | (simp; omega)))))
  refine Run.condB rfl rfl (fun h0 => ?_) (fun h0 => ?_)
  · have : s = 0 := by simp at h0; omega
    subst this
    repeat (first | refine wa ?_ | refine wb ?_ | refine wc ?_ | ((refine wl rfl rfl ?_ ?_); try (first | exact trivial)))
    exact wD (wE rfl rfl rfl)
  · have h0' : ¬ s = 0 := by simp at h0; omega
    repeat (first | refine wa ?_ | refine wc ?_ | refine wf ?_ | ((refine wl rfl rfl ?_ ?_); try (first | ((repeat' apply And.intro) <;> first | exact trivial | exact rfl | omega | (simp; done) | (simp; omega)))))
    refine wn (wA rfl rfl rfl (by repeat' (first | exact trivial | exact rfl | assumption | apply And.intro)) (callable (by decide)) (c_tz s h)) rfl ?_
    repeat (first | refine wb ?_ | ((refine wl rfl rfl ?_ ?_); try (first | ((repeat' apply And.intro) <;> first | exact trivial | exact rfl | omega | (simp; done) | (simp; omega)))))
    refine wD (wE rfl rfl ?_)
    simp [firstN, h0']

def lessN (s : Nat) (i : Int) : Nat := (BitVec.ofNat 64 s &&& ~~~ BitVec.ofNat 64 (bitN i)).toNat
theorem lessN_lt (s : Nat) (i : Int) : lessN s i < M64 := (BitVec.ofNat 64 s &&& ~~~ BitVec.ofNat 64 (bitN i)).isLt
theorem lessN_bit {s : Nat} (i : Int) (hs : s < M64) (j : Nat) : (lessN s i).testBit j = (s.testBit j && !(bitN i).testBit j) := by
  have hj : 64 ≤ j → s.testBit j = false := fun h => Nat.testBit_lt_two_pow (Nat.lt_of_lt_of_le hs (Nat.pow_le_pow_right (n := 2) (i := 64) (by decide) h))
  by_cases h : j < 64
  · have : (lessN s i).testBit j = (BitVec.ofNat 64 s &&& ~~~ BitVec.ofNat 64 (bitN i)).getLsbD j := rfl
    rw [this, BitVec.getLsbD_and, BitVec.getLsbD_not, BitVec.getLsbD_ofNat, BitVec.getLsbD_ofNat]
    simp [h]
  · rw [hj (by omega)]
    simp only [Bool.false_and]
    exact Nat.testBit_lt_two_pow (Nat.lt_of_lt_of_le (lessN_lt s i) (Nat.pow_le_pow_right (n := 2) (i := 64) (by decide) (by omega)))

theorem c_Less (s : Nat) (i : Int) : DFun Tryd.prog 43 [S s, .v (.int .i64 i)] (S (lessN s i)) := by
  refine DFun.ofRun agree mixed Tryd.func43 rfl rfl ?_
  repeat (first | refine wa ?_ | refine wb ?_ | refine wc ?_ | ((refine wl rfl rfl ?_ ?_); try (first | exact trivial | ((repeat' apply And.intro) <;> first | exact trivial | exact rfl | omega | (simp; done) | (simp; omega)))))
  refine wn (wA rfl rfl rfl (by repeat' (first | exact trivial | exact rfl | assumption | apply And.intro)) (callable (by decide)) (c_bit i)) rfl ?_
  repeat (first | refine wb ?_ | ((first | refine wl rfl rfl ?_ ?_ | refine wn (wp rfl rfl rfl rfl rfl ?_) rfl ?_); try (first | ((repeat' apply And.intro) <;> first | exact trivial | exact rfl | omega | (simp; done) | (simp; omega)))))
  refine wD (wE rfl rfl ?_)
  have h1 : IntKind.u64.bits = 64 := rfl
  rw [h1, BitVec.ofInt_natCast, BitVec.ofInt_natCast]
  exact congrArg (fun z => D.v (.int .u64 z)) (u64_in (lessN_lt s i))

def full32 : Nat := 4294967295
def nodeN (i : Int) : Bool := decide (0 ≤ i) && decide (i < 32)
theorem full_has (i : Int) : hasN full32 i = nodeN i := by
  unfold hasN nodeN small full32
  by_cases h : 0 ≤ i
  · obtain ⟨n, rfl⟩ := Int.eq_ofNat_of_zero_le h
    have h3 : (4294967295 : Nat).testBit n = decide (n < 32) := by
      have := Nat.testBit_two_pow_sub_one 32 n
      simpa using this
    rw [Int.toNat_natCast, h3, Bool.eq_iff_iff]
    simp only [Bool.and_eq_true, decide_eq_true_eq]
    omega
  · simp [h]

theorem c_node (i : Int) : DFun Tryd.prog 44 [.v (.int .i64 i)] (.v (.bool (nodeN i))) := by
  refine DFun.ofRun agree mixed Tryd.func44 rfl rfl ?_
  repeat (first | refine wa ?_ | refine wb ?_ | refine wc ?_ | ((refine wl rfl rfl ?_ ?_); try (first | exact trivial | ((repeat' apply And.intro) <;> first | exact trivial | exact rfl | omega | (simp; done) | (simp; omega)))))
  refine wn (wA rfl rfl rfl (by repeat' (first | exact trivial | exact rfl | assumption | apply And.intro)) (callable (by decide)) (c_Has full32 i (by decide))) rfl ?_
  repeat (first | refine wb ?_ | ((refine wl rfl rfl ?_ ?_); try (first | ((repeat' apply And.intro) <;> first | exact trivial | exact rfl | omega | (simp; done) | (simp; omega)))))
  refine wD (wE rfl rfl ?_)
  rw [full_has]
end Go.Proofs.YtaflihoopnjcgaaDoor

namespace Go.Proofs.YtaflihoopnjcgaaDoor
open Go Go.Dat

def sets (g : List Nat) : List D := g.map S
def gr (g : List Nat) : D := .arr 1 (sets g)
theorem sets_len (g : List Nat) : (sets g).length = g.length := by simp [sets]
theorem sets_v (g : List Nat) : ∀ x ∈ sets g, ∃ v, x = .v v := fun x hx => by
  obtain ⟨n, _, rfl⟩ := List.mem_map.1 hx
  exact ⟨_, rfl⟩
theorem sets_lend (g : List Nat) : lends (sets g) = sets g := lends_flat _ (sets_v g)
theorem gr_pl (g : List Nat) : (gr g).pl = true := noOwns_v _ (sets_v g)
theorem gr_fits {T : TypeId} {g : List Nat} (h : g.length = 32) (hT : ((Θ T).known && (Θ T).td.isAgg && ((Θ T).n == 32)) = true) : (Θ T).fits (gr g) = true := by
  simp only [Bool.and_eq_true, beq_iff_eq] at hT
  unfold TI.fits
  have h1 : (gr g).size = 32 := by show 1 * (sets g).length = 32; rw [sets_len, h]
  have h2 : (gr g).isAgg = true := rfl
  rw [hT.1.1, hT.1.2, hT.2, h1, h2]
  rfl
theorem gr_at {g : List Nat} {i : Nat} (hi : i < g.length) : (gr g).get [i] = S (g.getD i 0) := by
  show (sets g).getD i un = _
  simp [sets, hi]
theorem gr_set (g : List Nat) (i : Nat) (s : Nat) : (gr g).set [i] (S s) = gr (g.set i s) := by
  show D.arr 1 ((sets g).set i (S s)) = _
  simp [gr, sets, List.map_set]
theorem gr_sto {T : TypeId} {g : List Nat} {i : Nat} {s : Nat} (hi : i < g.length) (hf : (Θ T).fits (S s) = true) :
    ((Θ T).fits (S s) && ((S s).size == ((gr g).get [i]).size) && ((gr g).get [i]).noOwn) = true := by
  rw [hf, gr_at hi]
  rfl
theorem gr_stoAll {T : TypeId} {g z : List Nat} (h : g.length = 32) (hz : z.length = 32) (hT : ((Θ T).known && (Θ T).td.isAgg && ((Θ T).n == 32)) = true) :
    ((Θ T).fits (gr g) && ((gr g).size == ((gr z).get []).size) && ((gr z).get []).noOwn) = true := by
  have h1 : (gr g).size = 32 := by show 1 * (sets g).length = 32; rw [sets_len, h]
  have h2 : ((gr z).get []).size = 32 := by show 1 * (sets z).length = 32; rw [sets_len, hz]
  have h3 : ((gr z).get []).noOwn = true := noOwns_v _ (sets_v z)
  rw [gr_fits h hT, h1, h2, h3]
  rfl

def gok (g : List Nat) : Prop := g.length = 32 ∧ ∀ s ∈ g, s < M64
theorem gok.at {g : List Nat} (h : gok g) (i : Nat) : g.getD i 0 < M64 := by
  rw [List.getD_eq_getElem?_getD]
  by_cases hi : i < g.length
  · rw [List.getElem?_eq_getElem hi]; exact h.2 _ (List.getElem_mem hi)
  · rw [List.getElem?_eq_none (by omega)]; decide
theorem gok.set {g : List Nat} (h : gok g) (i : Nat) {s : Nat} (hs : s < M64) : gok (g.set i s) :=
  ⟨by rw [List.length_set]; exact h.1, fun x hx => by
    rcases List.mem_or_eq_of_mem_set hx with h1 | h1
    · exact h.2 x h1
    · rw [h1]; exact hs⟩

theorem node_nat {i : Int} (h : nodeN i = true) : ∃ n : Nat, i = n ∧ n < 32 := by
  simp only [nodeN, Bool.and_eq_true, decide_eq_true_eq] at h
  exact ⟨i.toNat, by omega, by omega⟩

theorem ld_ok {T : TypeId} {x y : D} (h : x = y) (hy : ((Θ T).fits y && y.pl) = true) : (Θ T).fits x = true ∧ x.pl = true := by
  subst h; simpa using hy

def outsN (g : List Nat) (i : Int) : Nat := if nodeN i then g.getD i.toNat 0 &&& full32 else 0

theorem c_Outs (g : List Nat) (i : Int) (hg : gok g) : DFun Tryd.prog 17 [gr g, .v (.int .i64 i)] (S (outsN g i)) := by
  refine DFun.ofRun agree mixed Tryd.func17 rfl rfl ?_
  repeat (first | refine wa ?_ | refine wc ?_ | ((refine wl rfl rfl ?_ ?_)))
  · exact gr_pl g
  repeat (first | refine wa ?_ | refine wb ?_ | refine wc ?_ | ((refine wl rfl rfl ?_ ?_); try (first | exact trivial | ((repeat' apply And.intro) <;> first | exact trivial | exact rfl | omega | (simp; done) | (simp; omega)))))
  refine wn (wA rfl rfl rfl (by repeat' (first | exact trivial | exact rfl | assumption | apply And.intro)) (callable (by decide)) (c_node i)) rfl ?_
  repeat (first | refine wb ?_ | ((refine wl rfl rfl ?_ ?_); try (first | ((repeat' apply And.intro) <;> first | exact trivial | exact rfl | omega | (simp; done) | (simp; omega)))))
  refine Run.condB rfl rfl (fun h0 => ?_) (fun h0 => ?_)
  · have : nodeN i = false := by simpa using h0
    repeat (first | refine wa ?_ | refine wb ?_ | refine wc ?_ | ((refine wl rfl rfl ?_ ?_); try (first | exact trivial)))
    refine wD (wE rfl rfl ?_)
    simp [outsN, this, S]
  · have hn : nodeN i = true := by simpa using h0
    obtain ⟨n, rfl, hlt⟩ := node_nat hn
    have hgd : (gr g).get ([] ++ [((n : Int)).toNat]) = S (g.getD n 0) := gr_at (by rw [hg.1]; exact hlt)
    repeat (first | refine wa ?_ | refine wc ?_ | refine wf ?_ | ((refine wl rfl rfl ?_ ?_); try (first | ((repeat' apply And.intro) <;> first | exact trivial | exact rfl | omega | (simp; done) | (simp; omega)))))
    · exact ⟨rfl, rfl, by rw [sets_len, hg.1], by omega, by omega⟩
    refine wn (Ev.ldBox rfl (adrOf_sound rfl) (ld_ok (T := 25) hgd rfl).1 (ld_ok (T := 25) hgd rfl).2) rfl ?_
    first | refine OpsAt.say (d := 10) rfl (y := S (g.getD n 0)) (hgd) ?_ | refine Run.say (d := 10) rfl (y := S (g.getD n 0)) (hgd) ?_ | refine OpsR.say (q := 10) rfl (y := S (g.getD n 0)) (hgd) ?_ | refine OpsB.say (d := 10) rfl (y := S (g.getD n 0)) (hgd) ?_
    repeat (first | refine wb ?_ | ((first | refine wl rfl rfl ?_ ?_ | refine wn (wp rfl rfl rfl rfl rfl ?_) rfl ?_); try (first | ((repeat' apply And.intro) <;> first | exact trivial | exact rfl | omega | (simp; done) | (simp; omega)))))
    refine wD (wE rfl rfl ?_)
    have := and64 (hg.at n) (show full32 < M64 by decide)
    refine (congrArg (fun z => D.v (.int .u64 z)) this).trans ?_
    simp [outsN, hn, S]

def putG (g : List Nat) (i j : Int) : List Nat × Bool :=
  if nodeN i && nodeN j && i != j then (g.set i.toNat (withN (g.getD i.toNat 0) j), true) else (g, false)

theorem c_Put (g : List Nat) (i j : Int) (hg : gok g) : DFun Tryd.prog 24 [gr g, .v (.int .i64 i), .v (.int .i64 j)] (.tup [gr (putG g i j).1, .v (.bool (putG g i j).2)]) := by
  refine DFun.ofRun agree mixed Tryd.func24 rfl rfl ?_
  repeat (first | refine wa ?_ | refine wc ?_ | ((refine wl rfl rfl ?_ ?_)))
  · exact gr_pl g
  repeat (first | refine wa ?_ | refine wb ?_ | refine wc ?_ | ((refine wl rfl rfl ?_ ?_); try (first | exact trivial | ((repeat' apply And.intro) <;> first | exact trivial | exact rfl | omega | (simp; done) | (simp; omega)))))
  refine wn (wA rfl rfl rfl (by repeat' (first | exact trivial | exact rfl | assumption | apply And.intro)) (callable (by decide)) (c_node i)) rfl ?_
  repeat (first | ((refine wl rfl rfl ?_ ?_); try (first | ((repeat' apply And.intro) <;> first | exact trivial | exact rfl | omega | (simp; done) | (simp; omega)))))
  first | refine OpsAt.say (d := 11) rfl (y := .v (.bool (!nodeN i))) (rfl) ?_ | refine Run.say (d := 11) rfl (y := .v (.bool (!nodeN i))) (rfl) ?_ | refine OpsR.say (q := 11) rfl (y := .v (.bool (!nodeN i))) (rfl) ?_ | refine OpsB.say (d := 11) rfl (y := .v (.bool (!nodeN i))) (rfl) ?_
  refine OpsAt.br rfl rfl rfl (fun hi => ?_) (fun hi => ?_)
  · have h0 : nodeN i = false := by simpa using hi
    have hp : putG g i j = (g, false) := by simp [putG, h0]
    repeat (first | refine wa ?_ | refine wb ?_ | refine wc ?_ | ((first | refine wl rfl rfl ?_ ?_ | refine wt rfl ?_ ?_); try (first | ((repeat' apply And.intro) <;> first | exact trivial | exact rfl | omega | (simp; done) | (simp; omega)))) | refine ws rfl rfl ?_)
    · exact ⟨gr_fits hg.1 rfl, gr_pl g⟩
    refine wv rfl rfl (gr_pl g) (gr_stoAll (z := List.replicate 32 0) hg.1 rfl rfl) rfl ?_
    repeat (first | refine wb ?_ | ((refine wl rfl rfl ?_ ?_); try (first | exact trivial)))
    refine wD (Ends.tupE agree rfl ⟨⟨gr_fits hg.1 rfl, gr_pl g⟩, rfl, trivial⟩ rfl ?_)
    rw [hp]
    rfl
  have hi' : nodeN i = true := by simpa using hi
  repeat (first | ((refine wm rfl rfl rfl ?_ ?_); try (first | ((repeat' apply And.intro) <;> first | exact trivial | exact rfl | omega | (simp; done) | (simp; omega)))))
  refine wo rfl (wA rfl rfl rfl (by repeat' (first | exact trivial | exact rfl | assumption | apply And.intro)) (callable (by decide)) (c_node j)) rfl ?_
  repeat (first | ((first | refine wl rfl rfl ?_ ?_ | refine wm rfl rfl rfl ?_ ?_); try (first | ((repeat' apply And.intro) <;> first | exact trivial | exact rfl | omega | (simp; done) | (simp; omega)))))
  first | refine OpsAt.say (d := 16) rfl (y := .v (.bool (!nodeN j))) (rfl) ?_ | refine Run.say (d := 16) rfl (y := .v (.bool (!nodeN j))) (rfl) ?_ | refine OpsR.say (q := 16) rfl (y := .v (.bool (!nodeN j))) (rfl) ?_ | refine OpsB.say (d := 16) rfl (y := .v (.bool (!nodeN j))) (rfl) ?_
  refine OpsAt.br rfl rfl rfl (fun hj => ?_) (fun hj => ?_)
  · have h0 : nodeN j = false := by simpa using hj
    have hp : putG g i j = (g, false) := by simp [putG, h0]
    repeat (first | refine wa ?_ | refine wb ?_ | refine wc ?_ | ((first | refine wl rfl rfl ?_ ?_ | refine wt rfl ?_ ?_); try (first | ((repeat' apply And.intro) <;> first | exact trivial | exact rfl | omega | (simp; done) | (simp; omega)))) | refine ws rfl rfl ?_)
    · exact ⟨gr_fits hg.1 rfl, gr_pl g⟩
    refine wv rfl rfl (gr_pl g) (gr_stoAll (z := List.replicate 32 0) hg.1 rfl rfl) rfl ?_
    repeat (first | refine wb ?_ | ((refine wl rfl rfl ?_ ?_); try (first | exact trivial)))
    refine wD (Ends.tupE agree rfl ⟨⟨gr_fits hg.1 rfl, gr_pl g⟩, rfl, trivial⟩ rfl ?_)
    rw [hp]
    rfl
  have hj' : nodeN j = true := by simpa using hj
  repeat (first | refine wb ?_ | ((first | refine wl rfl rfl ?_ ?_ | refine wm rfl rfl rfl ?_ ?_ | refine wo rfl (wp rfl rfl rfl rfl rfl ?_) rfl ?_); try (first | ((repeat' apply And.intro) <;> first | exact trivial | exact rfl | omega | (simp; done) | (simp; omega)))))
  refine Run.condB rfl rfl (fun he => ?_) (fun he => ?_)
  · have hp : putG g i j = (g, false) := by
      have : i = j := by simpa using he
      simp [putG, this]
    repeat (first | refine wa ?_ | refine wc ?_ | ((refine wl rfl rfl ?_ ?_)))
    · exact ⟨gr_fits hg.1 rfl, gr_pl g⟩
    refine wv rfl rfl (gr_pl g) (gr_stoAll (z := List.replicate 32 0) hg.1 rfl rfl) rfl ?_
    repeat (first | refine wb ?_ | ((refine wl rfl rfl ?_ ?_); try (first | exact trivial)))
    refine wD (Ends.tupE agree rfl ⟨⟨gr_fits hg.1 rfl, gr_pl g⟩, rfl, trivial⟩ rfl ?_)
    rw [hp]
    rfl
  have hne : (i != j) = true := by simpa using he
  have hp : putG g i j = (g.set i.toNat (withN (g.getD i.toNat 0) j), true) := by unfold putG; rw [hi', hj', hne]; rfl
  obtain ⟨n, rfl, hlt⟩ := node_nat hi'
  have hgd : (gr g).get ([] ++ [((n : Int)).toNat]) = S (g.getD n 0) := gr_at (by rw [hg.1]; exact hlt)
  repeat (first | refine wa ?_ | refine wc ?_ | refine wf ?_ | ((refine wl rfl rfl ?_ ?_); try (first | ((repeat' apply And.intro) <;> first | exact trivial | exact rfl | omega | (simp; done) | (simp; omega)))))
  · exact ⟨rfl, rfl, by rw [sets_len, hg.1], by omega, by omega⟩
  refine wn (Ev.ldBox rfl (adrOf_sound rfl) (ld_ok (T := 25) hgd rfl).1 (ld_ok (T := 25) hgd rfl).2) rfl ?_
  first | refine OpsAt.say (d := 25) rfl (y := S (g.getD n 0)) (hgd) ?_ | refine Run.say (d := 25) rfl (y := S (g.getD n 0)) (hgd) ?_ | refine OpsR.say (q := 25) rfl (y := S (g.getD n 0)) (hgd) ?_ | refine OpsB.say (d := 25) rfl (y := S (g.getD n 0)) (hgd) ?_
  repeat (first | ((refine wl rfl rfl ?_ ?_); try (first | ((repeat' apply And.intro) <;> first | exact trivial | exact rfl | omega | (simp; done) | (simp; omega)))))
  refine wn (wA rfl rfl rfl (by repeat' (first | exact trivial | exact rfl | assumption | apply And.intro)) (callable (by decide)) (c_With (g.getD n 0) j (hg.at n))) rfl ?_
  repeat (first | ((refine wl rfl rfl ?_ ?_)))
  · exact ⟨rfl, rfl, by rw [sets_len, hg.1], by omega, by omega⟩
  have hg2 : gok (g.set n (withN (g.getD n 0) j)) := hg.set n (withN_lt j (hg.at n))
  refine wv rfl rfl rfl (gr_sto (by rw [hg.1]; exact hlt) rfl) rfl ?_
  first | refine OpsAt.sayB (d := 3) rfl (y := gr (g.set n (withN (g.getD n 0) j))) (gr_set g n _) ?_ | refine Run.sayB (d := 3) rfl (y := gr (g.set n (withN (g.getD n 0) j))) (gr_set g n _) ?_
  repeat (first | refine wa ?_ | refine wb ?_ | refine wc ?_ | ((refine wl rfl rfl ?_ ?_)))
  · exact ⟨gr_fits hg2.1 rfl, gr_pl _⟩
  refine wv rfl rfl (gr_pl _) (gr_stoAll (z := List.replicate 32 0) hg2.1 rfl rfl) rfl ?_
  repeat (first | refine wb ?_ | ((refine wl rfl rfl ?_ ?_); try (first | exact trivial)))
  refine wD (Ends.tupE agree rfl ⟨⟨gr_fits hg2.1 rfl, gr_pl _⟩, rfl, trivial⟩ rfl ?_)
  rw [hp]
  rfl
end Go.Proofs.YtaflihoopnjcgaaDoor

namespace Go.Proofs.YtaflihoopnjcgaaDoor
open Go Go.Dat

theorem ctz_low {s : Nat} (h0 : s ≠ 0) (h : s < M64) : ∃ k, Lib.ctz 64 s = k ∧ k < 64 ∧ s.testBit k = true ∧ ∀ j, j < k → s.testBit j = false := by
  obtain ⟨m, hm, hk⟩ := Lib.ctzFrom_spec 64 s (by omega) h
  refine ⟨Lib.ctzFrom 64 s, by simp [Lib.ctz, h0], hk, ?_, fun j hj => ?_⟩
  · generalize Lib.ctzFrom 64 s = k at hm
    rw [hm, Nat.testBit_two_pow_mul]
    simp
  · generalize Lib.ctzFrom 64 s = k at hm hj
    rw [hm, Nat.testBit_two_pow_mul]
    simp
    omega

def itemsN (s : Nat) : List Int := ((List.range 64).filter fun j => s.testBit j).map Int.ofNat

theorem bit_at {k : Nat} (hk : k < 64) (j : Nat) : (bitN (k : Int)).testBit j = decide (k = j) := by
  have hs : small (k : Int) = true := by simp [small]; omega
  rw [bitN, if_pos hs, Int.toNat_natCast, Nat.testBit_two_pow]

theorem items_cons {s k : Nat} (h : s < M64) (hk : k < 64) (h1 : s.testBit k = true) (h2 : ∀ j, j < k → s.testBit j = false) : itemsN s = (k : Int) :: itemsN (lessN s k) := by
  have hr : List.range 64 = List.range k ++ k :: List.range' (k + 1) (64 - k - 1) := by
    rw [List.range_eq_range', List.range_eq_range']
    have : 64 = k + ((64 - k - 1) + 1) := by omega
    conv => lhs; rw [this]
    rw [← List.range'_append_1, List.range'_succ]
    simp
  have hb : ∀ j, (lessN s k).testBit j = (s.testBit j && !decide (k = j)) := fun j => by rw [lessN_bit _ h, bit_at hk]
  unfold itemsN
  rw [hr]
  simp only [List.filter_append, List.filter_cons, h1, hb, if_true, decide_true, Bool.not_true, Bool.and_false, Bool.false_eq_true, if_false]
  have e1 : (List.range k).filter (fun j => s.testBit j) = [] := by
    rw [List.filter_eq_nil_iff]
    intro j hj
    simp [h2 j (List.mem_range.1 hj)]
  have e2 : (List.range k).filter (fun j => s.testBit j && !decide (k = j)) = [] := by
    rw [List.filter_eq_nil_iff]
    intro j hj
    simp [h2 j (List.mem_range.1 hj)]
  have e3 : (List.range' (k + 1) (64 - k - 1)).filter (fun j => s.testBit j && !decide (k = j)) = (List.range' (k + 1) (64 - k - 1)).filter (fun j => s.testBit j) := by
    refine List.filter_congr fun j hj => ?_
    obtain ⟨q, _, h4⟩ := List.mem_range'.1 hj
    have : ¬ k = j := by omega
    simp [this]
  rw [e1, e2, e3]
  simp

theorem items_zero : itemsN 0 = [] := by simp [itemsN]
theorem items_le (s : Nat) : (itemsN s).length ≤ 64 := by
  unfold itemsN
  rw [List.length_map]
  exact Nat.le_trans (List.length_filter_le _ _) (by simp)

theorem okK_any (b : Bool) : okK b .any = true := by cases b <;> rfl

theorem c_Items (s : Nat) (h : s < M64) : DFun Tryd.prog 16 [S s] (.lst .any 1 (ints (itemsN s))) := by
  refine DFun.ofRun agree mixed Tryd.func16 rfl rfl ?_
  refine wa ?_
  refine wc ?_
  refine wl rfl rfl trivial ?_
  refine wb ?_
  refine wg ?_
  refine wa ?_
  refine wi ?_
  refine Run.ownNil 2 3 1 rfl ?_
  refine Run.keep [0, 2] rfl ?_
  refine Run.at (l' := [(0, .d (S s)), (2, .d (.own ([] : List Int).isEmpty 3 1 (ints [])))]) rfl ?_
  refine Run.again (α := List Int × Nat) (fun q => q.2 < M64 ∧ itemsN s = q.1 ++ itemsN q.2) (fun q => [(0, .d (S q.2)), (2, .d (.own q.1.isEmpty 3 1 (ints q.1)))]) (fun q => (itemsN q.2).length) ([], s) ⟨h, rfl⟩ ?_
  rintro ⟨pre, r⟩ ⟨hr, hp⟩ ih
  simp only at hr hp
  have hle := items_le s
  have hpl : pre.length ≤ 64 := by rw [hp] at hle; simp at hle; omega
  repeat (first | refine wa ?_ | refine wb ?_ | refine wc ?_ | ((first | refine wl rfl rfl ?_ ?_ | refine wn (wp rfl rfl rfl rfl rfl ?_) rfl ?_); try (first | ((repeat' apply And.intro) <;> first | exact trivial | exact rfl | omega | (simp; done) | (simp; omega)))))
  refine Run.condB rfl rfl (fun h0 => ?_) (fun h0 => ?_)
  · have : r = 0 := by simp at h0; omega
    subst this
    rw [items_zero, List.append_nil] at hp
    refine Run.freeze 2 .any rfl (okK_any _) ?_
    repeat (first | refine wa ?_ | refine wb ?_ | refine wc ?_ | ((refine wl rfl rfl ?_ ?_); try (first | ((repeat' apply And.intro) <;> first | exact trivial | exact rfl | omega | (simp; done) | (simp; omega)))))
    refine wD (wE rfl rfl ?_)
    rw [hp]
  · have h0' : r ≠ 0 := by simp at h0; omega
    obtain ⟨k, k1, k2, k3, k4⟩ := ctz_low h0' hr
    have hc := items_cons hr k2 k3 k4
    repeat (first | refine wa ?_ | refine wc ?_ | refine wf ?_ | ((refine wl rfl rfl ?_ ?_); try (first | ((repeat' apply And.intro) <;> first | exact trivial | exact rfl | omega | (simp; done) | (simp; omega)))))
    refine wn (wA rfl rfl rfl (by repeat' (first | exact trivial | exact rfl | assumption | apply And.intro)) (callable (by decide)) (c_First r hr)) rfl ?_
    first | refine OpsAt.say (d := 8) rfl (y := .v (.int .i64 k)) (by simp [firstN, h0', k1]) ?_ | refine Run.say (d := 8) rfl (y := .v (.int .i64 k)) (by simp [firstN, h0', k1]) ?_ | refine OpsR.say (q := 8) rfl (y := .v (.int .i64 k)) (by simp [firstN, h0', k1]) ?_ | refine OpsB.say (d := 8) rfl (y := .v (.int .i64 k)) (by simp [firstN, h0', k1]) ?_
    repeat (first | refine wa ?_ | refine wb ?_ | refine wc ?_ | ((refine wl rfl rfl ?_ ?_); try (first | exact trivial | ((repeat' apply And.intro) <;> first | exact trivial | exact rfl | omega | (simp; done) | (simp; omega)))) | (refine wx rfl rfl (.vw (vwOf_sound rfl)) rfl rfl ?_ ?_ rfl ?_; (try (simp <;> omega)); (try (first | (simp <;> omega) | (simp [maxLen] <;> omega)))))
    · simp [ints]; omega
    · simp [ints, maxLen]; omega
    repeat (first | refine wa ?_ | refine wb ?_ | refine wc ?_ | ((refine wl rfl rfl ?_ ?_); try (first | ((repeat' apply And.intro) <;> first | exact trivial | exact rfl | omega | (simp; done) | (simp; omega)))) | refine ww rfl rfl rfl ?_)
    refine wn (wA rfl rfl rfl (by repeat' (first | exact trivial | exact rfl | assumption | apply And.intro)) (callable (by decide)) (c_Less r k)) rfl ?_
    refine wl rfl rfl rfl ?_
    refine wb ?_
    refine wk rfl ?_
    refine wa ?_
    refine wf ?_
    first | refine OpsAt.say (d := 2) rfl (y := .own (pre ++ [(k : Int)]).isEmpty 3 1 (ints (pre ++ [(k : Int)]))) (by simp [ints]) ?_ | refine Run.say (d := 2) rfl (y := .own (pre ++ [(k : Int)]).isEmpty 3 1 (ints (pre ++ [(k : Int)]))) (by simp [ints]) ?_ | refine OpsR.say (q := 2) rfl (y := .own (pre ++ [(k : Int)]).isEmpty 3 1 (ints (pre ++ [(k : Int)]))) (by simp [ints]) ?_ | refine OpsB.say (d := 2) rfl (y := .own (pre ++ [(k : Int)]).isEmpty 3 1 (ints (pre ++ [(k : Int)]))) (by simp [ints]) ?_
    refine Run.keep [0, 2] rfl ?_
    exact ih (pre ++ [(k : Int)], lessN r k) ⟨lessN_lt r k, by rw [hp, hc]; simp⟩ (by rw [hc]; simp)
/-- The same, the result being the caller's own. -/
theorem c_ItemsO (s : Nat) (h : s < M64) : DFun Tryd.prog 16 [S s] (.own (itemsN s).isEmpty 3 1 (ints (itemsN s))) := by
  refine DFun.ofRun agree mixed Tryd.func16 rfl rfl ?_
  refine wa ?_
  refine wc ?_
  refine wl rfl rfl trivial ?_
  refine wb ?_
  refine wg ?_
  refine wa ?_
  refine wi ?_
  refine Run.ownNil 2 3 1 rfl ?_
  refine Run.keep [0, 2] rfl ?_
  refine Run.at (l' := [(0, .d (S s)), (2, .d (.own ([] : List Int).isEmpty 3 1 (ints [])))]) rfl ?_
  refine Run.again (α := List Int × Nat) (fun q => q.2 < M64 ∧ itemsN s = q.1 ++ itemsN q.2) (fun q => [(0, .d (S q.2)), (2, .d (.own q.1.isEmpty 3 1 (ints q.1)))]) (fun q => (itemsN q.2).length) ([], s) ⟨h, rfl⟩ ?_
  rintro ⟨pre, r⟩ ⟨hr, hp⟩ ih
  simp only at hr hp
  have hle := items_le s
  have hpl : pre.length ≤ 64 := by rw [hp] at hle; simp at hle; omega
  repeat (first | refine wa ?_ | refine wb ?_ | refine wc ?_ | ((first | refine wl rfl rfl ?_ ?_ | refine wn (wp rfl rfl rfl rfl rfl ?_) rfl ?_); try (first | ((repeat' apply And.intro) <;> first | exact trivial | exact rfl | omega | (simp; done) | (simp; omega)))))
  refine Run.condB rfl rfl (fun h0 => ?_) (fun h0 => ?_)
  · have : r = 0 := by simp at h0; omega
    subst this
    rw [items_zero, List.append_nil] at hp
    repeat (first | refine wa ?_ | refine wc ?_ | ((refine wl rfl rfl ?_ ?_); try (first | exact trivial)))
    refine OpsAt.asgSelf rfl rfl rfl ?_
    repeat (first | refine wb ?_)
    refine wD (wE rfl rfl ?_)
    rw [hp]
  · have h0' : r ≠ 0 := by simp at h0; omega
    obtain ⟨k, k1, k2, k3, k4⟩ := ctz_low h0' hr
    have hc := items_cons hr k2 k3 k4
    repeat (first | refine wa ?_ | refine wc ?_ | refine wf ?_ | ((refine wl rfl rfl ?_ ?_); try (first | ((repeat' apply And.intro) <;> first | exact trivial | exact rfl | omega | (simp; done) | (simp; omega)))))
    refine wn (wA rfl rfl rfl (by repeat' (first | exact trivial | exact rfl | assumption | apply And.intro)) (callable (by decide)) (c_First r hr)) rfl ?_
    first | refine OpsAt.say (d := 8) rfl (y := .v (.int .i64 k)) (by simp [firstN, h0', k1]) ?_ | refine Run.say (d := 8) rfl (y := .v (.int .i64 k)) (by simp [firstN, h0', k1]) ?_ | refine OpsR.say (q := 8) rfl (y := .v (.int .i64 k)) (by simp [firstN, h0', k1]) ?_ | refine OpsB.say (d := 8) rfl (y := .v (.int .i64 k)) (by simp [firstN, h0', k1]) ?_
    repeat (first | refine wa ?_ | refine wb ?_ | refine wc ?_ | ((refine wl rfl rfl ?_ ?_); try (first | exact trivial | ((repeat' apply And.intro) <;> first | exact trivial | exact rfl | omega | (simp; done) | (simp; omega)))) | (refine wx rfl rfl (.vw (vwOf_sound rfl)) rfl rfl ?_ ?_ rfl ?_; (try (simp <;> omega)); (try (first | (simp <;> omega) | (simp [maxLen] <;> omega)))))
    · simp [ints]; omega
    · simp [ints, maxLen]; omega
    repeat (first | refine wa ?_ | refine wb ?_ | refine wc ?_ | ((refine wl rfl rfl ?_ ?_); try (first | ((repeat' apply And.intro) <;> first | exact trivial | exact rfl | omega | (simp; done) | (simp; omega)))) | refine ww rfl rfl rfl ?_)
    refine wn (wA rfl rfl rfl (by repeat' (first | exact trivial | exact rfl | assumption | apply And.intro)) (callable (by decide)) (c_Less r k)) rfl ?_
    refine wl rfl rfl rfl ?_
    refine wb ?_
    refine wk rfl ?_
    refine wa ?_
    refine wf ?_
    first | refine OpsAt.say (d := 2) rfl (y := .own (pre ++ [(k : Int)]).isEmpty 3 1 (ints (pre ++ [(k : Int)]))) (by simp [ints]) ?_ | refine Run.say (d := 2) rfl (y := .own (pre ++ [(k : Int)]).isEmpty 3 1 (ints (pre ++ [(k : Int)]))) (by simp [ints]) ?_ | refine OpsR.say (q := 2) rfl (y := .own (pre ++ [(k : Int)]).isEmpty 3 1 (ints (pre ++ [(k : Int)]))) (by simp [ints]) ?_ | refine OpsB.say (d := 2) rfl (y := .own (pre ++ [(k : Int)]).isEmpty 3 1 (ints (pre ++ [(k : Int)]))) (by simp [ints]) ?_
    refine Run.keep [0, 2] rfl ?_
    exact ih (pre ++ [(k : Int)], lessN r k) ⟨lessN_lt r k, by rw [hp, hc]; simp⟩ (by rw [hc]; simp)
end Go.Proofs.YtaflihoopnjcgaaDoor

namespace Go.Proofs.YtaflihoopnjcgaaDoor
open Go Go.Dat

/-- Who stands where: the first n places of l, written to row. -/
def rowOf (l : List Int) (n : Nat) : List Int := (List.range n).foldl (fun r i => r.set (l.getD i 0).toNat i) (List.replicate 32 0)
theorem rowOf_len (l : List Int) (n : Nat) : (rowOf l n).length = 32 := by
  unfold rowOf
  induction n with
  | zero => simp
  | succ n ih => rw [List.range_succ, List.foldl_append, List.foldl_cons, List.foldl_nil, List.length_set, ih]
theorem rowOf_succ (l : List Int) (n : Nat) : rowOf l (n + 1) = (rowOf l n).set (l.getD n 0).toNat n := by
  unfold rowOf
  rw [List.range_succ, List.foldl_append]
  rfl
end Go.Proofs.YtaflihoopnjcgaaDoor

namespace Go.Proofs.YtaflihoopnjcgaaDoor
open Go Go.Dat

def goes (l : List Int) (i : Nat) (x : Int) : Bool := decide (l.getD i 0 < l.getD x.toNat 0)
def sortedN (g : List Nat) (l : List Int) : Bool := (List.range 32).all (fun i => (itemsN (outsN g (i : Int))).all (goes l i)) && rightO l

theorem items_mem {s : Nat} {x : Int} (h : x ∈ itemsN s) : ∃ j : Nat, x = j ∧ j < 64 ∧ s.testBit j = true := by
  obtain ⟨j, hj, rfl⟩ := List.mem_map.1 h
  obtain ⟨h1, h2⟩ := List.mem_filter.1 hj
  exact ⟨j, rfl, by simpa using h1, h2⟩
theorem outs_lt (g : List Nat) (i : Int) : outsN g i < M64 := by
  unfold outsN
  split
  · exact Nat.lt_of_le_of_lt Nat.and_le_right (by decide)
  · decide
theorem outs_item {g : List Nat} {i x : Int} (h : x ∈ itemsN (outsN g i)) : ∃ j : Nat, x = j ∧ j < 32 := by
  obtain ⟨j, rfl, _, h2⟩ := items_mem h
  refine ⟨j, rfl, ?_⟩
  unfold outsN at h2
  split at h2
  · rw [Nat.testBit_and] at h2
    have h3 : full32.testBit j = true := by simp only [Bool.and_eq_true] at h2; exact h2.2
    have : (4294967295 : Nat).testBit j = decide (j < 32) := by
      have := Nat.testBit_two_pow_sub_one 32 j
      simpa using this
    rw [show full32 = 4294967295 from rfl, this] at h3
    simpa using h3
  · simp at h2

theorem c_Sorted (g : List Nat) (l : List Int) (hg : gok g) (h : l.length = 32) : DFun Tryd.prog 72 [gr g, ord l] (.v (.bool (sortedN g l))) := by
  refine DFun.ofRun agree mixed Tryd.func72 rfl rfl ?_
  repeat (first | refine wa ?_ | refine wc ?_ | ((refine wl rfl rfl ?_ ?_)))
  · exact gr_pl g
  repeat (first | ((refine wl rfl rfl ?_ ?_)))
  · exact ord_pl l
  repeat (first | refine wa ?_ | refine wb ?_ | refine wc ?_ | refine wd ?_ | ((refine wl rfl rfl ?_ ?_); try (first | exact trivial)))
  refine Run.keep [2, 3, 4, 8] rfl ?_
  refine Run.at (l' := [(2, .box (gr g)), (3, .box (ord l)), (4, .d (.v (.bool false))), (8, .d (.v (.int .i64 (0 : Nat))))]) rfl ?_
  refine Run.loopL (α := Nat) (fun i => i ≤ 32 ∧ ∀ j, j < i → (itemsN (outsN g (j : Int))).all (goes l j) = true) (fun i => [(2, .box (gr g)), (3, .box (ord l)), (4, .d (.v (.bool false))), (8, .d (.v (.int .i64 i)))]) (fun i => 32 - i) 0 ⟨by decide, fun j hj => absurd hj (by omega)⟩ ?_
  rintro i ⟨hi, hall⟩ ih
  repeat (first | refine wa ?_ | refine wb ?_ | refine wc ?_ | ((refine wn (wp rfl rfl rfl rfl rfl ?_) rfl ?_); try (first | ((repeat' apply And.intro) <;> first | exact trivial | exact rfl | omega | (simp; done) | (simp; omega)))))
  refine Run.condB rfl rfl (fun hc => ?_) (fun hc => ?_)
  · have hi2 : i < 32 := by simp at hc; omega
    repeat (first | refine wa ?_ | refine wb ?_ | refine wc ?_ | refine wd ?_ | refine wf ?_ | ((refine wl rfl rfl ?_ ?_); try (first | ((repeat' apply And.intro) <;> first | exact trivial | exact rfl | omega | (simp; done) | (simp; omega)))))
    · exact ⟨gr_fits hg.1 rfl, gr_pl g⟩
    repeat (first | ((refine wl rfl rfl ?_ ?_); try (first | ((repeat' apply And.intro) <;> first | exact trivial | exact rfl | omega | (simp; done) | (simp; omega)))))
    have hpl : ((gr g).get []).pl = true := gr_pl g
    refine wn (wA rfl rfl rfl (by repeat' (first | exact trivial | exact rfl | assumption | apply And.intro)) (callable (by decide)) (c_Outs g i hg)) rfl ?_
    skip
    refine wn (wA rfl rfl rfl (by repeat' (first | exact trivial | exact rfl | assumption | apply And.intro)) (callable (by decide)) (c_Items (outsN g i) (outs_lt g i))) rfl ?_
    obtain ⟨xs, hxs⟩ : ∃ xs, xs = itemsN (outsN g (i : Int)) := ⟨_, rfl⟩
    rw [← hxs]
    repeat (first | refine wb ?_ | refine wd ?_ | ((first | refine wl rfl rfl ?_ ?_ | refine wn (wq agree rfl rfl rfl ?_) rfl ?_); try (first | exact trivial | ((repeat' apply And.intro) <;> first | exact trivial | exact rfl | omega | (simp; done) | (simp; omega)))))
    refine Run.keep [2, 3, 4, 5, 8, 14, 15, 16] rfl ?_
    have hlx : ((ints xs).length : Int) = xs.length := by simp [ints]
    have hxl : xs.length ≤ 64 := by rw [hxs]; exact items_le _
    refine Run.at (l' := [(2, .box (gr g)), (3, .box (ord l)), (4, .d (.v (.bool false))), (5, .d (.v (.int .i64 i))), (8, .d (.v (.int .i64 i))), (14, .d (.lst .any 1 (ints xs))), (15, .d (.v (.int .i64 xs.length))), (16, .d (.v (.int .i64 (0 : Nat))))]) (by rw [← hlx]; rfl) ?_
    refine Run.loopL (α := List Int × List Int) (fun q => xs = q.1 ++ q.2 ∧ q.1.all (goes l i) = true) (fun q => [(2, .box (gr g)), (3, .box (ord l)), (4, .d (.v (.bool false))), (5, .d (.v (.int .i64 i))), (8, .d (.v (.int .i64 i))), (14, .d (.lst .any 1 (ints xs))), (15, .d (.v (.int .i64 xs.length))), (16, .d (.v (.int .i64 q.1.length)))]) (fun q => q.2.length) ([], xs) ⟨rfl, rfl⟩ ?_
    rintro ⟨pre, post⟩ ⟨hp, hpre⟩ ih2
    simp only at hp hpre
    have hlen : xs.length = pre.length + post.length := by rw [hp]; simp
    repeat (first | refine wa ?_ | refine wb ?_ | refine wc ?_ | ((refine wn (wp rfl rfl rfl rfl rfl ?_) rfl ?_); try (first | ((repeat' apply And.intro) <;> first | exact trivial | exact rfl | omega | (simp; done) | (simp; omega)))))
    refine Run.condB rfl rfl (fun hb => ?_) (fun hb => ?_)
    · cases post with
      | nil => simp at hlen hb; omega
      | cons x post =>
        simp only [List.length_cons] at hlen
        obtain ⟨j, rfl, hj⟩ := outs_item (g := g) (i := i) (x := x) (by rw [← hxs, hp]; simp)
        have hgd : (ints xs).getD ((pre.length : Int)).toNat un = .v (.int .i64 (j : Int)) := by simp [hp, ints]
        have g1 : (ord l).get ([] ++ [((i : Int)).toNat]) = .v (.int .i64 (l.getD i 0)) := ord_at (by omega)
        have g2 : (ord l).get ([] ++ [((j : Int)).toNat]) = .v (.int .i64 (l.getD j 0)) := ord_at (by omega)
        repeat (first | refine wa ?_ | refine wc ?_ | refine wd ?_ | refine wf ?_ | ((refine wl rfl rfl ?_ ?_); try (first | (rw [hgd] <;> rfl) | ((repeat' apply And.intro) <;> first | exact trivial | exact rfl | omega | (simp; done) | (simp; omega)))))
        first | refine OpsAt.say (d := 19) rfl (y := .v (.int .i64 (j : Int))) (hgd) ?_ | refine Run.say (d := 19) rfl (y := .v (.int .i64 (j : Int))) (hgd) ?_ | refine OpsR.say (q := 19) rfl (y := .v (.int .i64 (j : Int))) (hgd) ?_ | refine OpsB.say (d := 19) rfl (y := .v (.int .i64 (j : Int))) (hgd) ?_
        repeat (first | refine wa ?_ | refine wb ?_ | ((refine wl rfl rfl ?_ ?_); try (first | ((repeat' apply And.intro) <;> first | exact trivial | exact rfl | omega | (simp; done) | (simp; omega)))))
        refine Run.ops1 (ld := []) rfl ?_
        repeat (first | ((refine wl rfl rfl ?_ ?_); try (first | ((repeat' apply And.intro) <;> first | exact trivial | exact rfl | omega | (simp; done) | (simp; omega)))))
        · exact ⟨rfl, rfl, by rw [ints_len, h], by omega, by omega⟩
        refine wn (Ev.ldBox rfl (adrOf_sound rfl) (ld_ok (T := 3) g1 rfl).1 (ld_ok (T := 3) g1 rfl).2) rfl ?_
        first | refine OpsAt.say (d := 22) rfl (y := .v (.int .i64 (l.getD i 0))) (g1) ?_ | refine Run.say (d := 22) rfl (y := .v (.int .i64 (l.getD i 0))) (g1) ?_ | refine OpsR.say (q := 22) rfl (y := .v (.int .i64 (l.getD i 0))) (g1) ?_ | refine OpsB.say (d := 22) rfl (y := .v (.int .i64 (l.getD i 0))) (g1) ?_
        repeat (first | ((refine wl rfl rfl ?_ ?_); try (first | ((repeat' apply And.intro) <;> first | exact trivial | exact rfl | omega | (simp; done) | (simp; omega)))))
        · exact ⟨rfl, rfl, by rw [ints_len, h], by omega, by omega⟩
        refine wn (Ev.ldBox rfl (adrOf_sound rfl) (ld_ok (T := 3) g2 rfl).1 (ld_ok (T := 3) g2 rfl).2) rfl ?_
        first | refine OpsAt.say (d := 25) rfl (y := .v (.int .i64 (l.getD j 0))) (g2) ?_ | refine Run.say (d := 25) rfl (y := .v (.int .i64 (l.getD j 0))) (g2) ?_ | refine OpsR.say (q := 25) rfl (y := .v (.int .i64 (l.getD j 0))) (g2) ?_ | refine OpsB.say (d := 25) rfl (y := .v (.int .i64 (l.getD j 0))) (g2) ?_
        repeat (first | refine wb ?_ | ((refine wn (wp rfl rfl rfl rfl rfl ?_) rfl ?_); try (first | ((repeat' apply And.intro) <;> first | exact trivial | exact rfl | omega | (simp; done) | (simp; omega)))))
        refine Run.condB rfl rfl (fun hd => ?_) (fun hd => ?_)
        · have hd' : l.getD j 0 ≤ l.getD i 0 := of_decide_eq_true hd
          have hf : sortedN g l = false := by
            cases hs : sortedN g l with
            | false => rfl
            | true =>
              exfalso
              unfold sortedN at hs
              rw [Bool.and_eq_true] at hs
              have h1 := List.all_eq_true.1 hs.1 i (List.mem_range.2 hi2)
              have h2 := List.all_eq_true.1 h1 (j : Int) (by rw [← hxs, hp]; simp)
              have h3 : l.getD i 0 < l.getD ((j : Int)).toNat 0 := of_decide_eq_true h2
              rw [Int.toNat_natCast] at h3
              omega
          repeat (first | refine wa ?_ | refine wb ?_ | refine wc ?_ | ((refine wl rfl rfl ?_ ?_); try (first | exact trivial)))
          refine wD (wE rfl rfl ?_)
          rw [hf]
        · have hd' : ¬ l.getD j 0 ≤ l.getD i 0 := of_decide_eq_false hd
          have hgo : goes l i (j : Int) = true := decide_eq_true (by rw [Int.toNat_natCast]; omega)
          repeat (first | refine wb ?_ | refine wc ?_ | refine we ?_ | refine wf ?_ | ((first | refine wl rfl rfl ?_ ?_ | refine wn (wp rfl rfl rfl rfl rfl ?_) rfl ?_); try (first | ((repeat' apply And.intro) <;> first | exact trivial | exact rfl | omega | (simp; done) | (simp; omega)))))
          first | refine OpsAt.say (d := 16) rfl (y := .v (.int .i64 ((pre ++ [(j : Int)]).length : Nat))) (by rw [wrap64_in ((pre.length : Int) + 1) (by omega)]; simp) ?_ | refine Run.say (d := 16) rfl (y := .v (.int .i64 ((pre ++ [(j : Int)]).length : Nat))) (by rw [wrap64_in ((pre.length : Int) + 1) (by omega)]; simp) ?_ | refine OpsR.say (q := 16) rfl (y := .v (.int .i64 ((pre ++ [(j : Int)]).length : Nat))) (by rw [wrap64_in ((pre.length : Int) + 1) (by omega)]; simp) ?_ | refine OpsB.say (d := 16) rfl (y := .v (.int .i64 ((pre ++ [(j : Int)]).length : Nat))) (by rw [wrap64_in ((pre.length : Int) + 1) (by omega)]; simp) ?_
          refine Run.keep [2, 3, 4, 5, 8, 14, 15, 16] rfl ?_
          exact ih2 (pre ++ [(j : Int)], post) ⟨by simp [hp], by rw [List.all_append, hpre]; simp [hgo]⟩ (by simp)
    · have h0 : post = [] := by cases post with | nil => rfl | cons x post => simp at hlen hb; omega
      subst h0
      rw [List.append_nil] at hp
      repeat (first | refine wb ?_ | refine wc ?_ | refine we ?_ | ((first | refine wl rfl rfl ?_ ?_ | refine wn (wp rfl rfl rfl rfl rfl ?_) rfl ?_); try (first | ((repeat' apply And.intro) <;> first | exact trivial | exact rfl | omega | (simp; done) | (simp; omega)))) | refine wj rfl ?_)
      first | refine OpsAt.say (d := 8) rfl (y := .v (.int .i64 (i + 1 : Nat))) (by rw [wrap64_in ((i : Int) + 1) (by omega)]; simp) ?_ | refine Run.say (d := 8) rfl (y := .v (.int .i64 (i + 1 : Nat))) (by rw [wrap64_in ((i : Int) + 1) (by omega)]; simp) ?_ | refine OpsR.say (q := 8) rfl (y := .v (.int .i64 (i + 1 : Nat))) (by rw [wrap64_in ((i : Int) + 1) (by omega)]; simp) ?_ | refine OpsB.say (d := 8) rfl (y := .v (.int .i64 (i + 1 : Nat))) (by rw [wrap64_in ((i : Int) + 1) (by omega)]; simp) ?_
      refine Run.keep [2, 3, 4, 8] rfl ?_
      refine ih (i + 1) ⟨by omega, fun j hj => ?_⟩ (by omega)
      by_cases hji : j = i
      · subst hji; rw [← hxs, hp]; exact hpre
      · exact hall j (by omega)
  · have hi2 : i = 32 := by simp at hc; omega
    subst hi2
    repeat (first | refine wa ?_ | refine wc ?_ | ((refine wl rfl rfl ?_ ?_)) | refine wj rfl ?_)
    · exact ⟨ord_fits h rfl, ord_pl l⟩
    skip
    have hpl : ((ord l).get []).pl = true := ord_pl l
    refine wn (wA rfl rfl rfl (by repeat' (first | exact trivial | exact rfl | assumption | apply And.intro)) (callable (by decide)) (c_Right l h)) rfl ?_
    repeat (first | refine wb ?_ | ((refine wl rfl rfl ?_ ?_); try (first | ((repeat' apply And.intro) <;> first | exact trivial | exact rfl | omega | (simp; done) | (simp; omega)))))
    refine wD (wE rfl rfl ?_)
    have : (List.range 32).all (fun i => (itemsN (outsN g (i : Int))).all (goes l i)) = true := List.all_eq_true.2 fun j hj => hall j (List.mem_range.1 hj)
    rw [sortedN, this, Bool.true_and]
end Go.Proofs.YtaflihoopnjcgaaDoor

namespace Go.Proofs.YtaflihoopnjcgaaDoor
open Go Go.Dat

def insTo (g : List Nat) (i : Int) (n : Nat) : Nat := (List.range n).foldl (fun s j => if hasN (g.getD j 0) i then withN s (j : Int) else s) 0
theorem insTo_succ (g : List Nat) (i : Int) (n : Nat) : insTo g i (n + 1) = if hasN (g.getD n 0) i then withN (insTo g i n) (n : Int) else insTo g i n := by
  unfold insTo
  rw [List.range_succ, List.foldl_append]
  rfl
theorem insTo_lt (g : List Nat) (i : Int) (n : Nat) : insTo g i n < M64 := by
  induction n with
  | zero => exact (by decide : (0 : Nat) < M64)
  | succ n ih =>
    rw [insTo_succ]
    split
    · exact withN_lt _ ih
    · exact ih
def insN (g : List Nat) (i : Int) : Nat := if nodeN i then insTo g i 32 else 0

theorem c_Ins (g : List Nat) (i : Int) (hg : gok g) : DFun Tryd.prog 20 [gr g, .v (.int .i64 i)] (S (insN g i)) := by
  refine DFun.ofRun agree mixed Tryd.func20 rfl rfl ?_
  repeat (first | refine wa ?_ | refine wc ?_ | ((refine wl rfl rfl ?_ ?_)))
  · exact gr_pl g
  repeat (first | refine wa ?_ | refine wb ?_ | refine wc ?_ | ((refine wl rfl rfl ?_ ?_); try (first | exact trivial | ((repeat' apply And.intro) <;> first | exact trivial | exact rfl | omega | (simp; done) | (simp; omega)))))
  refine wn (wA rfl rfl rfl (by repeat' (first | exact trivial | exact rfl | assumption | apply And.intro)) (callable (by decide)) (c_node i)) rfl ?_
  repeat (first | refine wb ?_ | ((refine wl rfl rfl ?_ ?_); try (first | ((repeat' apply And.intro) <;> first | exact trivial | exact rfl | omega | (simp; done) | (simp; omega)))))
  refine Run.condB rfl rfl (fun h0 => ?_) (fun h0 => ?_)
  · have : nodeN i = false := by simpa using h0
    repeat (first | refine wa ?_ | refine wb ?_ | refine wc ?_ | ((refine wl rfl rfl ?_ ?_); try (first | exact trivial)))
    refine wD (wE rfl rfl ?_)
    simp [insN, this, S]
  have hn : nodeN i = true := by simpa using h0
  repeat (first | refine wa ?_ | refine wb ?_ | refine wc ?_ | refine wd ?_ | refine wf ?_ | ((refine wl rfl rfl ?_ ?_); try (first | exact trivial)))
  refine Run.keep [1, 2, 4, 9] rfl ?_
  refine Run.at (l' := [(1, .d (.v (.int .i64 i))), (2, .box (gr g)), (4, .d (S (insTo g i 0))), (9, .d (.v (.int .i64 (0 : Nat))))]) rfl ?_
  refine Run.loopL (α := Nat) (fun n => n ≤ 32) (fun n => [(1, .d (.v (.int .i64 i))), (2, .box (gr g)), (4, .d (S (insTo g i n))), (9, .d (.v (.int .i64 n)))]) (fun n => 32 - n) 0 (by decide) ?_
  intro n hle ih
  repeat (first | refine wa ?_ | refine wb ?_ | refine wc ?_ | ((refine wn (wp rfl rfl rfl rfl rfl ?_) rfl ?_); try (first | ((repeat' apply And.intro) <;> first | exact trivial | exact rfl | omega | (simp; done) | (simp; omega)))))
  refine Run.condB rfl rfl (fun hc => ?_) (fun hc => ?_)
  · have hn2 : n < 32 := by simp at hc; omega
    have hgd : (gr g).get ([] ++ [((n : Int)).toNat]) = S (g.getD n 0) := gr_at (by rw [hg.1]; exact hn2)
    repeat (first | refine wa ?_ | refine wb ?_ | refine wc ?_ | refine wd ?_ | refine wf ?_ | ((refine wl rfl rfl ?_ ?_); try (first | ((repeat' apply And.intro) <;> first | exact trivial | exact rfl | omega | (simp; done) | (simp; omega)))))
    · exact ⟨rfl, rfl, by rw [sets_len, hg.1], by omega, by omega⟩
    refine wn (Ev.ldBox rfl (adrOf_sound rfl) (ld_ok (T := 25) hgd rfl).1 (ld_ok (T := 25) hgd rfl).2) rfl ?_
    first | refine OpsAt.say (d := 14) rfl (y := S (g.getD n 0)) (hgd) ?_ | refine Run.say (d := 14) rfl (y := S (g.getD n 0)) (hgd) ?_ | refine OpsR.say (q := 14) rfl (y := S (g.getD n 0)) (hgd) ?_ | refine OpsB.say (d := 14) rfl (y := S (g.getD n 0)) (hgd) ?_
    repeat (first | ((refine wl rfl rfl ?_ ?_); try (first | ((repeat' apply And.intro) <;> first | exact trivial | exact rfl | omega | (simp; done) | (simp; omega)))))
    refine wn (wA rfl rfl rfl (by repeat' (first | exact trivial | exact rfl | assumption | apply And.intro)) (callable (by decide)) (c_Has (g.getD n 0) i (hg.at n))) rfl ?_
    repeat (first | refine wb ?_)
    refine Run.condB rfl rfl (fun hh => ?_) (fun hh => ?_)
    · repeat (first | refine wc ?_ | ((refine wl rfl rfl ?_ ?_); try (first | ((repeat' apply And.intro) <;> first | exact trivial | exact rfl | omega | (simp; done) | (simp; omega)))))
      refine wn (wA rfl rfl rfl (by repeat' (first | exact trivial | exact rfl | assumption | apply And.intro)) (callable (by decide)) (c_With (insTo g i n) n (insTo_lt g i n))) rfl ?_
      repeat (first | refine wb ?_ | refine wc ?_ | refine we ?_ | ((first | refine wl rfl rfl ?_ ?_ | refine wn (wp rfl rfl rfl rfl rfl ?_) rfl ?_); try (first | ((repeat' apply And.intro) <;> first | exact trivial | exact rfl | omega | (simp; done) | (simp; omega)))))
      first | refine OpsAt.say (d := 4) rfl (y := S (insTo g i (n + 1))) (by rw [insTo_succ, if_pos hh]) ?_ | refine Run.say (d := 4) rfl (y := S (insTo g i (n + 1))) (by rw [insTo_succ, if_pos hh]) ?_ | refine OpsR.say (q := 4) rfl (y := S (insTo g i (n + 1))) (by rw [insTo_succ, if_pos hh]) ?_ | refine OpsB.say (d := 4) rfl (y := S (insTo g i (n + 1))) (by rw [insTo_succ, if_pos hh]) ?_
      first | refine OpsAt.say (d := 9) rfl (y := .v (.int .i64 (n + 1 : Nat))) (by rw [wrap64_in ((n : Int) + 1) (by omega)]; simp) ?_ | refine Run.say (d := 9) rfl (y := .v (.int .i64 (n + 1 : Nat))) (by rw [wrap64_in ((n : Int) + 1) (by omega)]; simp) ?_ | refine OpsR.say (q := 9) rfl (y := .v (.int .i64 (n + 1 : Nat))) (by rw [wrap64_in ((n : Int) + 1) (by omega)]; simp) ?_ | refine OpsB.say (d := 9) rfl (y := .v (.int .i64 (n + 1 : Nat))) (by rw [wrap64_in ((n : Int) + 1) (by omega)]; simp) ?_
      refine Run.keep [1, 2, 4, 9] rfl ?_
      exact ih (n + 1) (by omega) (by omega)
    · repeat (first | refine wb ?_ | refine wc ?_ | refine we ?_ | refine wf ?_ | ((first | refine wl rfl rfl ?_ ?_ | refine wn (wp rfl rfl rfl rfl rfl ?_) rfl ?_); try (first | ((repeat' apply And.intro) <;> first | exact trivial | exact rfl | omega | (simp; done) | (simp; omega)))))
      first | refine OpsAt.say (d := 4) rfl (y := S (insTo g i (n + 1))) (by rw [insTo_succ, if_neg (by rw [hh]; simp)]) ?_ | refine Run.say (d := 4) rfl (y := S (insTo g i (n + 1))) (by rw [insTo_succ, if_neg (by rw [hh]; simp)]) ?_ | refine OpsR.say (q := 4) rfl (y := S (insTo g i (n + 1))) (by rw [insTo_succ, if_neg (by rw [hh]; simp)]) ?_ | refine OpsB.say (d := 4) rfl (y := S (insTo g i (n + 1))) (by rw [insTo_succ, if_neg (by rw [hh]; simp)]) ?_
      first | refine OpsAt.say (d := 9) rfl (y := .v (.int .i64 (n + 1 : Nat))) (by rw [wrap64_in ((n : Int) + 1) (by omega)]; simp) ?_ | refine Run.say (d := 9) rfl (y := .v (.int .i64 (n + 1 : Nat))) (by rw [wrap64_in ((n : Int) + 1) (by omega)]; simp) ?_ | refine OpsR.say (q := 9) rfl (y := .v (.int .i64 (n + 1 : Nat))) (by rw [wrap64_in ((n : Int) + 1) (by omega)]; simp) ?_ | refine OpsB.say (d := 9) rfl (y := .v (.int .i64 (n + 1 : Nat))) (by rw [wrap64_in ((n : Int) + 1) (by omega)]; simp) ?_
      refine Run.keep [1, 2, 4, 9] rfl ?_
      exact ih (n + 1) (by omega) (by omega)
  · have hn2 : n = 32 := by simp at hc; omega
    subst hn2
    repeat (first | refine wa ?_ | refine wb ?_ | refine wc ?_ | ((refine wl rfl rfl ?_ ?_); try (first | ((repeat' apply And.intro) <;> first | exact trivial | exact rfl | omega | (simp; done) | (simp; omega)))) | refine wj rfl ?_)
    refine wD (wE rfl rfl ?_)
    simp [insN, hn, S]
end Go.Proofs.YtaflihoopnjcgaaDoor

namespace Go.Proofs.YtaflihoopnjcgaaDoor
open Go Go.Dat

theorem c_In1 (g : List Nat) (i : Int) (hg : gok g) : DFun Tryd.prog 74 [.v (.int .i64 i), .pt (gr g)] (S (outsN g i)) := by
  refine DFun.ofRun agree mixed Tryd.func74 rfl rfl ?_
  repeat (first | refine wa ?_ | refine wb ?_ | refine wc ?_ | ((refine wl rfl rfl ?_ ?_); try (first | exact trivial)))
  · exact gr_fits hg.1 rfl
  repeat (first | ((refine wl rfl rfl ?_ ?_); try (first | ((repeat' apply And.intro) <;> first | exact trivial | exact rfl | omega | (simp; done) | (simp; omega)))))
  have hpl : (gr g).pl = true := gr_pl g
  refine wn (wA rfl rfl rfl (by repeat' (first | exact trivial | exact rfl | assumption | apply And.intro)) (callable (by decide)) (c_Outs g i hg)) rfl ?_
  repeat (first | refine wb ?_ | ((refine wl rfl rfl ?_ ?_); try (first | ((repeat' apply And.intro) <;> first | exact trivial | exact rfl | omega | (simp; done) | (simp; omega)))))
  exact wD (wE rfl rfl rfl)

theorem c_In3 (g : List Nat) (i : Int) (hg : gok g) : DFun Tryd.prog 76 [.v (.int .i64 i), .pt (gr g)] (S (insN g i)) := by
  refine DFun.ofRun agree mixed Tryd.func76 rfl rfl ?_
  repeat (first | refine wa ?_ | refine wb ?_ | refine wc ?_ | ((refine wl rfl rfl ?_ ?_); try (first | exact trivial)))
  · exact gr_fits hg.1 rfl
  repeat (first | ((refine wl rfl rfl ?_ ?_); try (first | ((repeat' apply And.intro) <;> first | exact trivial | exact rfl | omega | (simp; done) | (simp; omega)))))
  have hpl : (gr g).pl = true := gr_pl g
  refine wn (wA rfl rfl rfl (by repeat' (first | exact trivial | exact rfl | assumption | apply And.intro)) (callable (by decide)) (c_Ins g i hg)) rfl ?_
  repeat (first | refine wb ?_ | ((refine wl rfl rfl ?_ ?_); try (first | ((repeat' apply And.intro) <;> first | exact trivial | exact rfl | omega | (simp; done) | (simp; omega)))))
  exact wD (wE rfl rfl rfl)

theorem c_In2 (l : List Int) (n f : Nat) (h : l.length = 32) (hn : n < 32) (hf : f < 32) : DFun Tryd.prog 75 [.v (.int .i64 n), .pt (ord l), .pt (.v (.int .i64 f))] (.v (.bool (decide (l.getD n 0 ≤ l.getD f 0)))) := by
  refine DFun.ofRun agree mixed Tryd.func75 rfl rfl ?_
  repeat (first | refine wa ?_ | refine wb ?_ | refine wc ?_ | ((refine wl rfl rfl ?_ ?_); try (first | exact trivial)))
  refine Run.ops1 (ld := []) rfl ?_
  have g1 : (ints l).getD ((n : Int)).toNat un = .v (.int .i64 (l.getD n 0)) := by simp [ints, h, hn]
  have g2 : (ints l).getD ((f : Int)).toNat un = .v (.int .i64 (l.getD f 0)) := by simp [ints, h, hf]
  repeat (first | ((refine wl rfl rfl ?_ ?_); try (first | ((repeat' apply And.intro) <;> first | exact trivial | exact rfl | omega | (simp; done) | (simp; omega)))))
  · exact ⟨rfl, rfl, by rw [ints_len, h], by omega, by omega⟩
  first | refine OpsAt.say (d := 6) rfl (y := .pt (.v (.int .i64 (l.getD n 0)))) (congrArg D.pt g1) ?_ | refine Run.say (d := 6) rfl (y := .pt (.v (.int .i64 (l.getD n 0)))) (congrArg D.pt g1) ?_ | refine OpsR.say (q := 6) rfl (y := .pt (.v (.int .i64 (l.getD n 0)))) (congrArg D.pt g1) ?_ | refine OpsB.say (d := 6) rfl (y := .pt (.v (.int .i64 (l.getD n 0)))) (congrArg D.pt g1) ?_
  repeat (first | ((refine wl rfl rfl ?_ ?_); try (first | ((repeat' apply And.intro) <;> first | exact trivial | exact rfl | omega | (simp; done) | (simp; omega)))))
  · exact ⟨rfl, rfl, by rw [ints_len, h], by omega, by omega⟩
  first | refine OpsAt.say (d := 9) rfl (y := .pt (.v (.int .i64 (l.getD f 0)))) (congrArg D.pt g2) ?_ | refine Run.say (d := 9) rfl (y := .pt (.v (.int .i64 (l.getD f 0)))) (congrArg D.pt g2) ?_ | refine OpsR.say (q := 9) rfl (y := .pt (.v (.int .i64 (l.getD f 0)))) (congrArg D.pt g2) ?_ | refine OpsB.say (d := 9) rfl (y := .pt (.v (.int .i64 (l.getD f 0)))) (congrArg D.pt g2) ?_
  repeat (first | refine wb ?_ | ((first | refine wl rfl rfl ?_ ?_ | refine wn (wp rfl rfl rfl rfl rfl ?_) rfl ?_); try (first | ((repeat' apply And.intro) <;> first | exact trivial | exact rfl | omega | (simp; done) | (simp; omega)))))
  exact wD (wE rfl rfl rfl)

theorem c_In4 (l : List Int) (n f : Nat) (h : l.length = 32) (hn : n < 32) (hf : f < 32) : DFun Tryd.prog 77 [.v (.int .i64 n), .pt (ord l), .pt (.v (.int .i64 f))] (.v (.bool (decide (l.getD f 0 ≤ l.getD n 0)))) := by
  refine DFun.ofRun agree mixed Tryd.func77 rfl rfl ?_
  repeat (first | refine wa ?_ | refine wb ?_ | refine wc ?_ | ((refine wl rfl rfl ?_ ?_); try (first | exact trivial)))
  refine Run.ops1 (ld := []) rfl ?_
  have g1 : (ints l).getD ((n : Int)).toNat un = .v (.int .i64 (l.getD n 0)) := by simp [ints, h, hn]
  have g2 : (ints l).getD ((f : Int)).toNat un = .v (.int .i64 (l.getD f 0)) := by simp [ints, h, hf]
  repeat (first | ((refine wl rfl rfl ?_ ?_); try (first | ((repeat' apply And.intro) <;> first | exact trivial | exact rfl | omega | (simp; done) | (simp; omega)))))
  · exact ⟨rfl, rfl, by rw [ints_len, h], by omega, by omega⟩
  first | refine OpsAt.say (d := 6) rfl (y := .pt (.v (.int .i64 (l.getD n 0)))) (congrArg D.pt g1) ?_ | refine Run.say (d := 6) rfl (y := .pt (.v (.int .i64 (l.getD n 0)))) (congrArg D.pt g1) ?_ | refine OpsR.say (q := 6) rfl (y := .pt (.v (.int .i64 (l.getD n 0)))) (congrArg D.pt g1) ?_ | refine OpsB.say (d := 6) rfl (y := .pt (.v (.int .i64 (l.getD n 0)))) (congrArg D.pt g1) ?_
  repeat (first | ((refine wl rfl rfl ?_ ?_); try (first | ((repeat' apply And.intro) <;> first | exact trivial | exact rfl | omega | (simp; done) | (simp; omega)))))
  · exact ⟨rfl, rfl, by rw [ints_len, h], by omega, by omega⟩
  first | refine OpsAt.say (d := 9) rfl (y := .pt (.v (.int .i64 (l.getD f 0)))) (congrArg D.pt g2) ?_ | refine Run.say (d := 9) rfl (y := .pt (.v (.int .i64 (l.getD f 0)))) (congrArg D.pt g2) ?_ | refine OpsR.say (q := 9) rfl (y := .pt (.v (.int .i64 (l.getD f 0)))) (congrArg D.pt g2) ?_ | refine OpsB.say (d := 9) rfl (y := .pt (.v (.int .i64 (l.getD f 0)))) (congrArg D.pt g2) ?_
  repeat (first | refine wb ?_ | ((first | refine wl rfl rfl ?_ ?_ | refine wn (wp rfl rfl rfl rfl rfl ?_) rfl ?_); try (first | ((repeat' apply And.intro) <;> first | exact trivial | exact rfl | omega | (simp; done) | (simp; omega)))))
  exact wD (wE rfl rfl rfl)

end Go.Proofs.YtaflihoopnjcgaaDoor
