/- The program's types, as a table, and that they are so. No conditions. Printed by gentheta.py (wip). -/
import Derived.Test.YtopmpbdjnkomoaaDoorProg
import Derived.Test.YtopmpbdjnkomoaaDoorTab
import Derived.KernelRfl
namespace Go.Proofs.YtopmpbdjnkomoaaDoor
open Go.Dat

def Θ : TypeId → TI
  | 1 => ⟨.sc, 1, .v .nilFunc⟩
  | 2 => ⟨.sc, 1, .v (.int .i64 0)⟩
  | 3 => ⟨.sc, 1, .v (.int .i64 0)⟩
  | 4 => ⟨.sc, 1, .v (.bool false)⟩
  | 5 => ⟨.sc, 1, .v (.int .u8 0)⟩
  | 6 => ⟨.sc, 1, .v (.int .u8 0)⟩
  | 7 => ⟨.st [(2, 0), (3, 1), (4, 2), (6, 3)], 4, .st [.v (.int .i64 0), .v (.int .i64 0), .v (.bool false), .v (.int .u8 0)]⟩
  | 8 => ⟨.st [(2, 0), (3, 1), (4, 2), (6, 3)], 4, .st [.v (.int .i64 0), .v (.int .i64 0), .v (.bool false), .v (.int .u8 0)]⟩
  | 9 => ⟨.sc, 1, .v (.string ⟨#[]⟩)⟩
  | 10 => ⟨.sc, 1, .v (.string ⟨#[]⟩)⟩
  | 11 => ⟨.sc, 1, .v (.string ⟨#[]⟩)⟩
  | 12 => ⟨.sc, 1, .v (.int .u64 0)⟩
  | 13 => ⟨.st [(9, 0), (12, 1)], 2, .st [.v (.string ⟨#[]⟩), .v (.int .u64 0)]⟩
  | 14 => ⟨.st [(9, 0), (12, 1)], 2, .st [.v (.string ⟨#[]⟩), .v (.int .u64 0)]⟩
  | 15 => ⟨.sc, 1, .v (.pointer none)⟩
  | 16 => ⟨.sc, 1, .v (.pointer none)⟩
  | 17 => ⟨.sc, 1, .v (.pointer none)⟩
  | 18 => ⟨.st [(17, 0)], 1, .st [.v (.pointer none)]⟩
  | 19 => ⟨.st [(17, 0)], 1, .st [.v (.pointer none)]⟩
  | 20 => ⟨.sc, 1, .v .nilIface⟩
  | 21 => ⟨.sc, 1, .v (.int .i32 0)⟩
  | 22 => ⟨.sc, 1, .v .nilFunc⟩
  | 23 => ⟨.st [(3, 0), (2, 1)], 2, .st [.v (.int .i64 0), .v (.int .i64 0)]⟩
  | 24 => ⟨.st [(3, 0), (2, 1)], 2, .st [.v (.int .i64 0), .v (.int .i64 0)]⟩
  | 25 => ⟨.sc, 1, .v (.int .i64 0)⟩
  | 27 => ⟨.sc, 1, .v .nilFunc⟩
  | 28 => ⟨.st [(3, 0), (2, 1)], 2, .st [.v (.int .i64 0), .v (.int .i64 0)]⟩
  | 30 => ⟨.sc, 1, .v .nilFunc⟩
  | 31 => ⟨.sc, 1, .v .nilFunc⟩
  | 32 => ⟨.sc, 1, .v .nilFunc⟩
  | 33 => ⟨.sc, 1, .v .nilFunc⟩
  | 34 => ⟨.sc, 1, .v .nilFunc⟩
  | 35 => ⟨.sc, 1, .v .nilFunc⟩
  | 36 => ⟨.sc, 1, .v .nilFunc⟩
  | 37 => ⟨.sl 36 1 8, 1, .lst .nl 1 []⟩
  | 38 => ⟨.sc, 1, .v .nilFunc⟩
  | 40 => ⟨.sc, 1, .v .nilFunc⟩
  | 42 => ⟨.sc, 1, .v .nilFunc⟩
  | 43 => ⟨.sc, 1, .v .nilFunc⟩
  | 44 => ⟨.sc, 1, .v .nilFunc⟩
  | 45 => ⟨.sc, 1, .v .nilFunc⟩
  | 46 => ⟨.sc, 1, .v .nilFunc⟩
  | 47 => ⟨.sc, 1, .v (.int .u64 0)⟩
  | 48 => ⟨.ar 32 47 1, 32, .arr 1 [.v (.int .u64 0), .v (.int .u64 0), .v (.int .u64 0), .v (.int .u64 0), .v (.int .u64 0), .v (.int .u64 0), .v (.int .u64 0), .v (.int .u64 0), .v (.int .u64 0), .v (.int .u64 0), .v (.int .u64 0), .v (.int .u64 0), .v (.int .u64 0), .v (.int .u64 0), .v (.int .u64 0), .v (.int .u64 0), .v (.int .u64 0), .v (.int .u64 0), .v (.int .u64 0), .v (.int .u64 0), .v (.int .u64 0), .v (.int .u64 0), .v (.int .u64 0), .v (.int .u64 0), .v (.int .u64 0), .v (.int .u64 0), .v (.int .u64 0), .v (.int .u64 0), .v (.int .u64 0), .v (.int .u64 0), .v (.int .u64 0), .v (.int .u64 0)]⟩
  | 49 => ⟨.ar 32 47 1, 32, .arr 1 [.v (.int .u64 0), .v (.int .u64 0), .v (.int .u64 0), .v (.int .u64 0), .v (.int .u64 0), .v (.int .u64 0), .v (.int .u64 0), .v (.int .u64 0), .v (.int .u64 0), .v (.int .u64 0), .v (.int .u64 0), .v (.int .u64 0), .v (.int .u64 0), .v (.int .u64 0), .v (.int .u64 0), .v (.int .u64 0), .v (.int .u64 0), .v (.int .u64 0), .v (.int .u64 0), .v (.int .u64 0), .v (.int .u64 0), .v (.int .u64 0), .v (.int .u64 0), .v (.int .u64 0), .v (.int .u64 0), .v (.int .u64 0), .v (.int .u64 0), .v (.int .u64 0), .v (.int .u64 0), .v (.int .u64 0), .v (.int .u64 0), .v (.int .u64 0)]⟩
  | 50 => ⟨.ar 32 3 1, 32, .arr 1 [.v (.int .i64 0), .v (.int .i64 0), .v (.int .i64 0), .v (.int .i64 0), .v (.int .i64 0), .v (.int .i64 0), .v (.int .i64 0), .v (.int .i64 0), .v (.int .i64 0), .v (.int .i64 0), .v (.int .i64 0), .v (.int .i64 0), .v (.int .i64 0), .v (.int .i64 0), .v (.int .i64 0), .v (.int .i64 0), .v (.int .i64 0), .v (.int .i64 0), .v (.int .i64 0), .v (.int .i64 0), .v (.int .i64 0), .v (.int .i64 0), .v (.int .i64 0), .v (.int .i64 0), .v (.int .i64 0), .v (.int .i64 0), .v (.int .i64 0), .v (.int .i64 0), .v (.int .i64 0), .v (.int .i64 0), .v (.int .i64 0), .v (.int .i64 0)]⟩
  | 51 => ⟨.ar 32 3 1, 32, .arr 1 [.v (.int .i64 0), .v (.int .i64 0), .v (.int .i64 0), .v (.int .i64 0), .v (.int .i64 0), .v (.int .i64 0), .v (.int .i64 0), .v (.int .i64 0), .v (.int .i64 0), .v (.int .i64 0), .v (.int .i64 0), .v (.int .i64 0), .v (.int .i64 0), .v (.int .i64 0), .v (.int .i64 0), .v (.int .i64 0), .v (.int .i64 0), .v (.int .i64 0), .v (.int .i64 0), .v (.int .i64 0), .v (.int .i64 0), .v (.int .i64 0), .v (.int .i64 0), .v (.int .i64 0), .v (.int .i64 0), .v (.int .i64 0), .v (.int .i64 0), .v (.int .i64 0), .v (.int .i64 0), .v (.int .i64 0), .v (.int .i64 0), .v (.int .i64 0)]⟩
  | 52 => ⟨.st [(3, 0), (3, 1)], 2, .st [.v (.int .i64 0), .v (.int .i64 0)]⟩
  | 53 => ⟨.st [(3, 0), (3, 1)], 2, .st [.v (.int .i64 0), .v (.int .i64 0)]⟩
  | 54 => ⟨.sc, 1, .v (.int .u64 0)⟩
  | 55 => ⟨.ar 32 54 1, 32, .arr 1 [.v (.int .u64 0), .v (.int .u64 0), .v (.int .u64 0), .v (.int .u64 0), .v (.int .u64 0), .v (.int .u64 0), .v (.int .u64 0), .v (.int .u64 0), .v (.int .u64 0), .v (.int .u64 0), .v (.int .u64 0), .v (.int .u64 0), .v (.int .u64 0), .v (.int .u64 0), .v (.int .u64 0), .v (.int .u64 0), .v (.int .u64 0), .v (.int .u64 0), .v (.int .u64 0), .v (.int .u64 0), .v (.int .u64 0), .v (.int .u64 0), .v (.int .u64 0), .v (.int .u64 0), .v (.int .u64 0), .v (.int .u64 0), .v (.int .u64 0), .v (.int .u64 0), .v (.int .u64 0), .v (.int .u64 0), .v (.int .u64 0), .v (.int .u64 0)]⟩
  | 56 => ⟨.ar 32 54 1, 32, .arr 1 [.v (.int .u64 0), .v (.int .u64 0), .v (.int .u64 0), .v (.int .u64 0), .v (.int .u64 0), .v (.int .u64 0), .v (.int .u64 0), .v (.int .u64 0), .v (.int .u64 0), .v (.int .u64 0), .v (.int .u64 0), .v (.int .u64 0), .v (.int .u64 0), .v (.int .u64 0), .v (.int .u64 0), .v (.int .u64 0), .v (.int .u64 0), .v (.int .u64 0), .v (.int .u64 0), .v (.int .u64 0), .v (.int .u64 0), .v (.int .u64 0), .v (.int .u64 0), .v (.int .u64 0), .v (.int .u64 0), .v (.int .u64 0), .v (.int .u64 0), .v (.int .u64 0), .v (.int .u64 0), .v (.int .u64 0), .v (.int .u64 0), .v (.int .u64 0)]⟩
  | 57 => ⟨.sc, 1, .v .nilFunc⟩
  | 58 => ⟨.ar 32 3 1, 32, .arr 1 [.v (.int .i64 0), .v (.int .i64 0), .v (.int .i64 0), .v (.int .i64 0), .v (.int .i64 0), .v (.int .i64 0), .v (.int .i64 0), .v (.int .i64 0), .v (.int .i64 0), .v (.int .i64 0), .v (.int .i64 0), .v (.int .i64 0), .v (.int .i64 0), .v (.int .i64 0), .v (.int .i64 0), .v (.int .i64 0), .v (.int .i64 0), .v (.int .i64 0), .v (.int .i64 0), .v (.int .i64 0), .v (.int .i64 0), .v (.int .i64 0), .v (.int .i64 0), .v (.int .i64 0), .v (.int .i64 0), .v (.int .i64 0), .v (.int .i64 0), .v (.int .i64 0), .v (.int .i64 0), .v (.int .i64 0), .v (.int .i64 0), .v (.int .i64 0)]⟩
  | 60 => ⟨.sc, 1, .v .nilFunc⟩
  | 62 => ⟨.sc, 1, .v .nilFunc⟩
  | 63 => ⟨.sc, 1, .v .nilFunc⟩
  | 64 => ⟨.sc, 1, .v .nilFunc⟩
  | 65 => ⟨.sc, 1, .v .nilFunc⟩
  | 66 => ⟨.sc, 1, .v .nilFunc⟩
  | 67 => ⟨.sc, 1, .v .nilFunc⟩
  | 68 => ⟨.sc, 1, .v .nilFunc⟩
  | 69 => ⟨.sl 3 1 8, 1, .lst .nl 1 []⟩
  | 70 => ⟨.sc, 1, .v .nilFunc⟩
  | 71 => ⟨.sc, 1, .v .nilFunc⟩
  | 72 => ⟨.sc, 1, .v .nilFunc⟩
  | 73 => ⟨.sc, 1, .v .nilFunc⟩
  | 74 => ⟨.sc, 1, .v .nilFunc⟩
  | 76 => ⟨.sc, 1, .v .nilFunc⟩
  | 77 => ⟨.sc, 1, .v .nilIface⟩
  | 78 => ⟨.sc, 1, .v .nilIface⟩
  | 80 => ⟨.sc, 1, .v .nilFunc⟩
  | 81 => ⟨.sc, 1, .v .nilFunc⟩
  | 82 => ⟨.sc, 1, .v .nilFunc⟩
  | 83 => ⟨.sc, 1, .v .nilFunc⟩
  | 84 => ⟨.sc, 1, .v .nilFunc⟩
  | 85 => ⟨.sc, 1, .v .nilFunc⟩
  | 86 => ⟨.sc, 1, .v .nilFunc⟩
  | 88 => ⟨.sc, 1, .v .nilFunc⟩
  | 89 => ⟨.sc, 1, .v .nilFunc⟩
  | 90 => ⟨.sc, 1, .v .nilFunc⟩
  | 91 => ⟨.sc, 1, .v .nilFunc⟩
  | 92 => ⟨.sc, 1, .v .nilFunc⟩
  | 93 => ⟨.sc, 1, .v .nilFunc⟩
  | 94 => ⟨.sc, 1, .v .nilFunc⟩
  | 95 => ⟨.sc, 1, .v .nilFunc⟩
  | 97 => ⟨.sc, 1, .v .nilFunc⟩
  | 98 => ⟨.sc, 1, .v .nilFunc⟩
  | 99 => ⟨.sc, 1, .v .nilFunc⟩
  | 100 => ⟨.sc, 1, .v .nilFunc⟩
  | 101 => ⟨.sc, 1, .v .nilFunc⟩
  | 102 => ⟨.sc, 1, .v .nilFunc⟩
  | 103 => ⟨.sc, 1, .v .nilFunc⟩
  | 104 => ⟨.sc, 1, .v .nilFunc⟩
  | 105 => ⟨.ar 64 4 1, 64, .arr 1 [.v (.bool false), .v (.bool false), .v (.bool false), .v (.bool false), .v (.bool false), .v (.bool false), .v (.bool false), .v (.bool false), .v (.bool false), .v (.bool false), .v (.bool false), .v (.bool false), .v (.bool false), .v (.bool false), .v (.bool false), .v (.bool false), .v (.bool false), .v (.bool false), .v (.bool false), .v (.bool false), .v (.bool false), .v (.bool false), .v (.bool false), .v (.bool false), .v (.bool false), .v (.bool false), .v (.bool false), .v (.bool false), .v (.bool false), .v (.bool false), .v (.bool false), .v (.bool false), .v (.bool false), .v (.bool false), .v (.bool false), .v (.bool false), .v (.bool false), .v (.bool false), .v (.bool false), .v (.bool false), .v (.bool false), .v (.bool false), .v (.bool false), .v (.bool false), .v (.bool false), .v (.bool false), .v (.bool false), .v (.bool false), .v (.bool false), .v (.bool false), .v (.bool false), .v (.bool false), .v (.bool false), .v (.bool false), .v (.bool false), .v (.bool false), .v (.bool false), .v (.bool false), .v (.bool false), .v (.bool false), .v (.bool false), .v (.bool false), .v (.bool false), .v (.bool false)]⟩
  | 106 => ⟨.sc, 1, .v .nilFunc⟩
  | 107 => ⟨.sc, 1, .v .nilFunc⟩
  | 108 => ⟨.sc, 1, .v .nilFunc⟩
  | 109 => ⟨.sc, 1, .v .nilFunc⟩
  | 110 => ⟨.sc, 1, .v .nilFunc⟩
  | 111 => ⟨.sc, 1, .v .nilFunc⟩
  | 112 => ⟨.sc, 1, .v .nilFunc⟩
  | 113 => ⟨.sl 69 1 24, 1, .lst .nl 1 []⟩
  | 114 => ⟨.sc, 1, .v .nilFunc⟩
  | 115 => ⟨.sc, 1, .v .nilFunc⟩
  | 116 => ⟨.sc, 1, .v .nilFunc⟩
  | 117 => ⟨.sc, 1, .v .nilFunc⟩
  | 118 => ⟨.sc, 1, .v .nilFunc⟩
  | 119 => ⟨.sc, 1, .v .nilFunc⟩
  | 120 => ⟨.sc, 1, .v (.int .i64 0)⟩
  | 122 => ⟨.sc, 1, .v .nilFunc⟩
  | 123 => ⟨.sc, 1, .v (.int .u64 0)⟩
  | 124 => ⟨.sc, 1, .v (.pointer none)⟩
  | 125 => ⟨.sc, 1, .v .nilFunc⟩
  | 126 => ⟨.sc, 1, .v .nilFunc⟩
  | 127 => ⟨.sc, 1, .v .nilFunc⟩
  | 128 => ⟨.ar 24 5 1, 24, .arr 1 [.v (.int .u8 0), .v (.int .u8 0), .v (.int .u8 0), .v (.int .u8 0), .v (.int .u8 0), .v (.int .u8 0), .v (.int .u8 0), .v (.int .u8 0), .v (.int .u8 0), .v (.int .u8 0), .v (.int .u8 0), .v (.int .u8 0), .v (.int .u8 0), .v (.int .u8 0), .v (.int .u8 0), .v (.int .u8 0), .v (.int .u8 0), .v (.int .u8 0), .v (.int .u8 0), .v (.int .u8 0), .v (.int .u8 0), .v (.int .u8 0), .v (.int .u8 0), .v (.int .u8 0)]⟩
  | 129 => ⟨.sc, 1, .v .nilFunc⟩
  | 130 => ⟨.sc, 1, .v .nilFunc⟩
  | _ => default

theorem ok1 : (Θ 1).ok Tryd.prog 1 := ok_of (v := .nilFunc) (by kernel_rfl) (by kernel_rfl) (by kernel_rfl) (by kernel_rfl) (says_sc Tryd.underlying1 (by kernel_rfl))
theorem ok2 : (Θ 2).ok Tryd.prog 2 := ok_of (v := .int .i64 0) (by kernel_rfl) (by kernel_rfl) (by kernel_rfl) (by kernel_rfl) (says_sc Tryd.underlying2 (by kernel_rfl))
theorem ok3 : (Θ 3).ok Tryd.prog 3 := ok_of (v := .int .i64 0) (by kernel_rfl) (by kernel_rfl) (by kernel_rfl) (by kernel_rfl) (says_sc Tryd.underlying3 (by kernel_rfl))
theorem ok4 : (Θ 4).ok Tryd.prog 4 := ok_of (v := .bool false) (by kernel_rfl) (by kernel_rfl) (by kernel_rfl) (by kernel_rfl) (says_sc Tryd.underlying4 (by kernel_rfl))
theorem ok5 : (Θ 5).ok Tryd.prog 5 := ok_of (v := .int .u8 0) (by kernel_rfl) (by kernel_rfl) (by kernel_rfl) (by kernel_rfl) (says_sc Tryd.underlying5 (by kernel_rfl))
theorem ok6 : (Θ 6).ok Tryd.prog 6 := ok_of (v := .int .u8 0) (by kernel_rfl) (by kernel_rfl) (by kernel_rfl) (by kernel_rfl) (says_sc Tryd.underlying6 (by kernel_rfl))
theorem ok7 : (Θ 7).ok Tryd.prog 7 := ok_of (v := .agg #[.int .i64 0, .int .i64 0, .bool false, .int .u8 0]) (by kernel_rfl) (by kernel_rfl) (by kernel_rfl) (by kernel_rfl) (says_st Tryd.underlying7 (by kernel_rfl) (by kernel_rfl))
theorem ok8 : (Θ 8).ok Tryd.prog 8 := ok_of (v := .agg #[.int .i64 0, .int .i64 0, .bool false, .int .u8 0]) (by kernel_rfl) (by kernel_rfl) (by kernel_rfl) (by kernel_rfl) (says_st Tryd.underlying8 (by kernel_rfl) (by kernel_rfl))
theorem ok9 : (Θ 9).ok Tryd.prog 9 := ok_of (v := .string ⟨#[]⟩) (by kernel_rfl) (by kernel_rfl) (by kernel_rfl) (by kernel_rfl) (says_sc Tryd.underlying9 (by kernel_rfl))
theorem ok10 : (Θ 10).ok Tryd.prog 10 := ok_of (v := .string ⟨#[]⟩) (by kernel_rfl) (by kernel_rfl) (by kernel_rfl) (by kernel_rfl) (says_sc Tryd.underlying10 (by kernel_rfl))
theorem ok11 : (Θ 11).ok Tryd.prog 11 := ok_of (v := .string ⟨#[]⟩) (by kernel_rfl) (by kernel_rfl) (by kernel_rfl) (by kernel_rfl) (says_sc Tryd.underlying11 (by kernel_rfl))
theorem ok12 : (Θ 12).ok Tryd.prog 12 := ok_of (v := .int .u64 0) (by kernel_rfl) (by kernel_rfl) (by kernel_rfl) (by kernel_rfl) (says_sc Tryd.underlying12 (by kernel_rfl))
theorem ok13 : (Θ 13).ok Tryd.prog 13 := ok_of (v := .agg #[.string ⟨#[]⟩, .int .u64 0]) (by kernel_rfl) (by kernel_rfl) (by kernel_rfl) (by kernel_rfl) (says_st Tryd.underlying13 (by kernel_rfl) (by kernel_rfl))
theorem ok14 : (Θ 14).ok Tryd.prog 14 := ok_of (v := .agg #[.string ⟨#[]⟩, .int .u64 0]) (by kernel_rfl) (by kernel_rfl) (by kernel_rfl) (by kernel_rfl) (says_st Tryd.underlying14 (by kernel_rfl) (by kernel_rfl))
theorem ok15 : (Θ 15).ok Tryd.prog 15 := ok_of (v := .pointer none) (by kernel_rfl) (by kernel_rfl) (by kernel_rfl) (by kernel_rfl) (says_sc Tryd.underlying15 (by kernel_rfl))
theorem ok16 : (Θ 16).ok Tryd.prog 16 := ok_of (v := .pointer none) (by kernel_rfl) (by kernel_rfl) (by kernel_rfl) (by kernel_rfl) (says_sc Tryd.underlying16 (by kernel_rfl))
theorem ok17 : (Θ 17).ok Tryd.prog 17 := ok_of (v := .pointer none) (by kernel_rfl) (by kernel_rfl) (by kernel_rfl) (by kernel_rfl) (says_sc Tryd.underlying17 (by kernel_rfl))
theorem ok18 : (Θ 18).ok Tryd.prog 18 := ok_of (v := .agg #[.pointer none]) (by kernel_rfl) (by kernel_rfl) (by kernel_rfl) (by kernel_rfl) (says_st Tryd.underlying18 (by kernel_rfl) (by kernel_rfl))
theorem ok19 : (Θ 19).ok Tryd.prog 19 := ok_of (v := .agg #[.pointer none]) (by kernel_rfl) (by kernel_rfl) (by kernel_rfl) (by kernel_rfl) (says_st Tryd.underlying19 (by kernel_rfl) (by kernel_rfl))
theorem ok20 : (Θ 20).ok Tryd.prog 20 := ok_of (v := .nilIface) (by kernel_rfl) (by kernel_rfl) (by kernel_rfl) (by kernel_rfl) (says_sc Tryd.underlying20 (by kernel_rfl))
theorem ok21 : (Θ 21).ok Tryd.prog 21 := ok_of (v := .int .i32 0) (by kernel_rfl) (by kernel_rfl) (by kernel_rfl) (by kernel_rfl) (says_sc Tryd.underlying21 (by kernel_rfl))
theorem ok22 : (Θ 22).ok Tryd.prog 22 := ok_of (v := .nilFunc) (by kernel_rfl) (by kernel_rfl) (by kernel_rfl) (by kernel_rfl) (says_sc Tryd.underlying22 (by kernel_rfl))
theorem ok23 : (Θ 23).ok Tryd.prog 23 := ok_of (v := .agg #[.int .i64 0, .int .i64 0]) (by kernel_rfl) (by kernel_rfl) (by kernel_rfl) (by kernel_rfl) (says_st Tryd.underlying23 (by kernel_rfl) (by kernel_rfl))
theorem ok24 : (Θ 24).ok Tryd.prog 24 := ok_of (v := .agg #[.int .i64 0, .int .i64 0]) (by kernel_rfl) (by kernel_rfl) (by kernel_rfl) (by kernel_rfl) (says_st Tryd.underlying24 (by kernel_rfl) (by kernel_rfl))
theorem ok25 : (Θ 25).ok Tryd.prog 25 := ok_of (v := .int .i64 0) (by kernel_rfl) (by kernel_rfl) (by kernel_rfl) (by kernel_rfl) (says_sc Tryd.underlying25 (by kernel_rfl))
theorem ok27 : (Θ 27).ok Tryd.prog 27 := ok_of (v := .nilFunc) (by kernel_rfl) (by kernel_rfl) (by kernel_rfl) (by kernel_rfl) (says_sc Tryd.underlying27 (by kernel_rfl))
theorem ok28 : (Θ 28).ok Tryd.prog 28 := ok_of (v := .agg #[.int .i64 0, .int .i64 0]) (by kernel_rfl) (by kernel_rfl) (by kernel_rfl) (by kernel_rfl) (says_st Tryd.underlying28 (by kernel_rfl) (by kernel_rfl))
theorem ok30 : (Θ 30).ok Tryd.prog 30 := ok_of (v := .nilFunc) (by kernel_rfl) (by kernel_rfl) (by kernel_rfl) (by kernel_rfl) (says_sc Tryd.underlying30 (by kernel_rfl))
theorem ok31 : (Θ 31).ok Tryd.prog 31 := ok_of (v := .nilFunc) (by kernel_rfl) (by kernel_rfl) (by kernel_rfl) (by kernel_rfl) (says_sc Tryd.underlying31 (by kernel_rfl))
theorem ok32 : (Θ 32).ok Tryd.prog 32 := ok_of (v := .nilFunc) (by kernel_rfl) (by kernel_rfl) (by kernel_rfl) (by kernel_rfl) (says_sc Tryd.underlying32 (by kernel_rfl))
theorem ok33 : (Θ 33).ok Tryd.prog 33 := ok_of (v := .nilFunc) (by kernel_rfl) (by kernel_rfl) (by kernel_rfl) (by kernel_rfl) (says_sc Tryd.underlying33 (by kernel_rfl))
theorem ok34 : (Θ 34).ok Tryd.prog 34 := ok_of (v := .nilFunc) (by kernel_rfl) (by kernel_rfl) (by kernel_rfl) (by kernel_rfl) (says_sc Tryd.underlying34 (by kernel_rfl))
theorem ok35 : (Θ 35).ok Tryd.prog 35 := ok_of (v := .nilFunc) (by kernel_rfl) (by kernel_rfl) (by kernel_rfl) (by kernel_rfl) (says_sc Tryd.underlying35 (by kernel_rfl))
theorem ok36 : (Θ 36).ok Tryd.prog 36 := ok_of (v := .nilFunc) (by kernel_rfl) (by kernel_rfl) (by kernel_rfl) (by kernel_rfl) (says_sc Tryd.underlying36 (by kernel_rfl))
theorem ok37 : (Θ 37).ok Tryd.prog 37 := ok_of (v := .slice none 0 0) (by kernel_rfl) (by kernel_rfl) (by kernel_rfl) (by kernel_rfl) (says_sl Tryd.underlying37 (by kernel_rfl) (by decide))
theorem ok38 : (Θ 38).ok Tryd.prog 38 := ok_of (v := .nilFunc) (by kernel_rfl) (by kernel_rfl) (by kernel_rfl) (by kernel_rfl) (says_sc Tryd.underlying38 (by kernel_rfl))
theorem ok40 : (Θ 40).ok Tryd.prog 40 := ok_of (v := .nilFunc) (by kernel_rfl) (by kernel_rfl) (by kernel_rfl) (by kernel_rfl) (says_sc Tryd.underlying40 (by kernel_rfl))
theorem ok42 : (Θ 42).ok Tryd.prog 42 := ok_of (v := .nilFunc) (by kernel_rfl) (by kernel_rfl) (by kernel_rfl) (by kernel_rfl) (says_sc Tryd.underlying42 (by kernel_rfl))
theorem ok43 : (Θ 43).ok Tryd.prog 43 := ok_of (v := .nilFunc) (by kernel_rfl) (by kernel_rfl) (by kernel_rfl) (by kernel_rfl) (says_sc Tryd.underlying43 (by kernel_rfl))
theorem ok44 : (Θ 44).ok Tryd.prog 44 := ok_of (v := .nilFunc) (by kernel_rfl) (by kernel_rfl) (by kernel_rfl) (by kernel_rfl) (says_sc Tryd.underlying44 (by kernel_rfl))
theorem ok45 : (Θ 45).ok Tryd.prog 45 := ok_of (v := .nilFunc) (by kernel_rfl) (by kernel_rfl) (by kernel_rfl) (by kernel_rfl) (says_sc Tryd.underlying45 (by kernel_rfl))
theorem ok46 : (Θ 46).ok Tryd.prog 46 := ok_of (v := .nilFunc) (by kernel_rfl) (by kernel_rfl) (by kernel_rfl) (by kernel_rfl) (says_sc Tryd.underlying46 (by kernel_rfl))
theorem ok47 : (Θ 47).ok Tryd.prog 47 := ok_of (v := .int .u64 0) (by kernel_rfl) (by kernel_rfl) (by kernel_rfl) (by kernel_rfl) (says_sc Tryd.underlying47 (by kernel_rfl))
theorem ok48 : (Θ 48).ok Tryd.prog 48 := ok_of (v := .agg #[.int .u64 0, .int .u64 0, .int .u64 0, .int .u64 0, .int .u64 0, .int .u64 0, .int .u64 0, .int .u64 0, .int .u64 0, .int .u64 0, .int .u64 0, .int .u64 0, .int .u64 0, .int .u64 0, .int .u64 0, .int .u64 0, .int .u64 0, .int .u64 0, .int .u64 0, .int .u64 0, .int .u64 0, .int .u64 0, .int .u64 0, .int .u64 0, .int .u64 0, .int .u64 0, .int .u64 0, .int .u64 0, .int .u64 0, .int .u64 0, .int .u64 0, .int .u64 0]) (by kernel_rfl) (by kernel_rfl) (by kernel_rfl) (by kernel_rfl) (says_ar Tryd.underlying48 (by kernel_rfl))
theorem ok49 : (Θ 49).ok Tryd.prog 49 := ok_of (v := .agg #[.int .u64 0, .int .u64 0, .int .u64 0, .int .u64 0, .int .u64 0, .int .u64 0, .int .u64 0, .int .u64 0, .int .u64 0, .int .u64 0, .int .u64 0, .int .u64 0, .int .u64 0, .int .u64 0, .int .u64 0, .int .u64 0, .int .u64 0, .int .u64 0, .int .u64 0, .int .u64 0, .int .u64 0, .int .u64 0, .int .u64 0, .int .u64 0, .int .u64 0, .int .u64 0, .int .u64 0, .int .u64 0, .int .u64 0, .int .u64 0, .int .u64 0, .int .u64 0]) (by kernel_rfl) (by kernel_rfl) (by kernel_rfl) (by kernel_rfl) (says_ar Tryd.underlying49 (by kernel_rfl))
theorem ok50 : (Θ 50).ok Tryd.prog 50 := ok_of (v := .agg #[.int .i64 0, .int .i64 0, .int .i64 0, .int .i64 0, .int .i64 0, .int .i64 0, .int .i64 0, .int .i64 0, .int .i64 0, .int .i64 0, .int .i64 0, .int .i64 0, .int .i64 0, .int .i64 0, .int .i64 0, .int .i64 0, .int .i64 0, .int .i64 0, .int .i64 0, .int .i64 0, .int .i64 0, .int .i64 0, .int .i64 0, .int .i64 0, .int .i64 0, .int .i64 0, .int .i64 0, .int .i64 0, .int .i64 0, .int .i64 0, .int .i64 0, .int .i64 0]) (by kernel_rfl) (by kernel_rfl) (by kernel_rfl) (by kernel_rfl) (says_ar Tryd.underlying50 (by kernel_rfl))
theorem ok51 : (Θ 51).ok Tryd.prog 51 := ok_of (v := .agg #[.int .i64 0, .int .i64 0, .int .i64 0, .int .i64 0, .int .i64 0, .int .i64 0, .int .i64 0, .int .i64 0, .int .i64 0, .int .i64 0, .int .i64 0, .int .i64 0, .int .i64 0, .int .i64 0, .int .i64 0, .int .i64 0, .int .i64 0, .int .i64 0, .int .i64 0, .int .i64 0, .int .i64 0, .int .i64 0, .int .i64 0, .int .i64 0, .int .i64 0, .int .i64 0, .int .i64 0, .int .i64 0, .int .i64 0, .int .i64 0, .int .i64 0, .int .i64 0]) (by kernel_rfl) (by kernel_rfl) (by kernel_rfl) (by kernel_rfl) (says_ar Tryd.underlying51 (by kernel_rfl))
theorem ok52 : (Θ 52).ok Tryd.prog 52 := ok_of (v := .agg #[.int .i64 0, .int .i64 0]) (by kernel_rfl) (by kernel_rfl) (by kernel_rfl) (by kernel_rfl) (says_st Tryd.underlying52 (by kernel_rfl) (by kernel_rfl))
theorem ok53 : (Θ 53).ok Tryd.prog 53 := ok_of (v := .agg #[.int .i64 0, .int .i64 0]) (by kernel_rfl) (by kernel_rfl) (by kernel_rfl) (by kernel_rfl) (says_st Tryd.underlying53 (by kernel_rfl) (by kernel_rfl))
theorem ok54 : (Θ 54).ok Tryd.prog 54 := ok_of (v := .int .u64 0) (by kernel_rfl) (by kernel_rfl) (by kernel_rfl) (by kernel_rfl) (says_sc Tryd.underlying54 (by kernel_rfl))
theorem ok55 : (Θ 55).ok Tryd.prog 55 := ok_of (v := .agg #[.int .u64 0, .int .u64 0, .int .u64 0, .int .u64 0, .int .u64 0, .int .u64 0, .int .u64 0, .int .u64 0, .int .u64 0, .int .u64 0, .int .u64 0, .int .u64 0, .int .u64 0, .int .u64 0, .int .u64 0, .int .u64 0, .int .u64 0, .int .u64 0, .int .u64 0, .int .u64 0, .int .u64 0, .int .u64 0, .int .u64 0, .int .u64 0, .int .u64 0, .int .u64 0, .int .u64 0, .int .u64 0, .int .u64 0, .int .u64 0, .int .u64 0, .int .u64 0]) (by kernel_rfl) (by kernel_rfl) (by kernel_rfl) (by kernel_rfl) (says_ar Tryd.underlying55 (by kernel_rfl))
theorem ok56 : (Θ 56).ok Tryd.prog 56 := ok_of (v := .agg #[.int .u64 0, .int .u64 0, .int .u64 0, .int .u64 0, .int .u64 0, .int .u64 0, .int .u64 0, .int .u64 0, .int .u64 0, .int .u64 0, .int .u64 0, .int .u64 0, .int .u64 0, .int .u64 0, .int .u64 0, .int .u64 0, .int .u64 0, .int .u64 0, .int .u64 0, .int .u64 0, .int .u64 0, .int .u64 0, .int .u64 0, .int .u64 0, .int .u64 0, .int .u64 0, .int .u64 0, .int .u64 0, .int .u64 0, .int .u64 0, .int .u64 0, .int .u64 0]) (by kernel_rfl) (by kernel_rfl) (by kernel_rfl) (by kernel_rfl) (says_ar Tryd.underlying56 (by kernel_rfl))
theorem ok57 : (Θ 57).ok Tryd.prog 57 := ok_of (v := .nilFunc) (by kernel_rfl) (by kernel_rfl) (by kernel_rfl) (by kernel_rfl) (says_sc Tryd.underlying57 (by kernel_rfl))
theorem ok58 : (Θ 58).ok Tryd.prog 58 := ok_of (v := .agg #[.int .i64 0, .int .i64 0, .int .i64 0, .int .i64 0, .int .i64 0, .int .i64 0, .int .i64 0, .int .i64 0, .int .i64 0, .int .i64 0, .int .i64 0, .int .i64 0, .int .i64 0, .int .i64 0, .int .i64 0, .int .i64 0, .int .i64 0, .int .i64 0, .int .i64 0, .int .i64 0, .int .i64 0, .int .i64 0, .int .i64 0, .int .i64 0, .int .i64 0, .int .i64 0, .int .i64 0, .int .i64 0, .int .i64 0, .int .i64 0, .int .i64 0, .int .i64 0]) (by kernel_rfl) (by kernel_rfl) (by kernel_rfl) (by kernel_rfl) (says_ar Tryd.underlying58 (by kernel_rfl))
theorem ok60 : (Θ 60).ok Tryd.prog 60 := ok_of (v := .nilFunc) (by kernel_rfl) (by kernel_rfl) (by kernel_rfl) (by kernel_rfl) (says_sc Tryd.underlying60 (by kernel_rfl))
theorem ok62 : (Θ 62).ok Tryd.prog 62 := ok_of (v := .nilFunc) (by kernel_rfl) (by kernel_rfl) (by kernel_rfl) (by kernel_rfl) (says_sc Tryd.underlying62 (by kernel_rfl))
theorem ok63 : (Θ 63).ok Tryd.prog 63 := ok_of (v := .nilFunc) (by kernel_rfl) (by kernel_rfl) (by kernel_rfl) (by kernel_rfl) (says_sc Tryd.underlying63 (by kernel_rfl))
theorem ok64 : (Θ 64).ok Tryd.prog 64 := ok_of (v := .nilFunc) (by kernel_rfl) (by kernel_rfl) (by kernel_rfl) (by kernel_rfl) (says_sc Tryd.underlying64 (by kernel_rfl))
theorem ok65 : (Θ 65).ok Tryd.prog 65 := ok_of (v := .nilFunc) (by kernel_rfl) (by kernel_rfl) (by kernel_rfl) (by kernel_rfl) (says_sc Tryd.underlying65 (by kernel_rfl))
theorem ok66 : (Θ 66).ok Tryd.prog 66 := ok_of (v := .nilFunc) (by kernel_rfl) (by kernel_rfl) (by kernel_rfl) (by kernel_rfl) (says_sc Tryd.underlying66 (by kernel_rfl))
theorem ok67 : (Θ 67).ok Tryd.prog 67 := ok_of (v := .nilFunc) (by kernel_rfl) (by kernel_rfl) (by kernel_rfl) (by kernel_rfl) (says_sc Tryd.underlying67 (by kernel_rfl))
theorem ok68 : (Θ 68).ok Tryd.prog 68 := ok_of (v := .nilFunc) (by kernel_rfl) (by kernel_rfl) (by kernel_rfl) (by kernel_rfl) (says_sc Tryd.underlying68 (by kernel_rfl))
theorem ok69 : (Θ 69).ok Tryd.prog 69 := ok_of (v := .slice none 0 0) (by kernel_rfl) (by kernel_rfl) (by kernel_rfl) (by kernel_rfl) (says_sl Tryd.underlying69 (by kernel_rfl) (by decide))
theorem ok70 : (Θ 70).ok Tryd.prog 70 := ok_of (v := .nilFunc) (by kernel_rfl) (by kernel_rfl) (by kernel_rfl) (by kernel_rfl) (says_sc Tryd.underlying70 (by kernel_rfl))
theorem ok71 : (Θ 71).ok Tryd.prog 71 := ok_of (v := .nilFunc) (by kernel_rfl) (by kernel_rfl) (by kernel_rfl) (by kernel_rfl) (says_sc Tryd.underlying71 (by kernel_rfl))
theorem ok72 : (Θ 72).ok Tryd.prog 72 := ok_of (v := .nilFunc) (by kernel_rfl) (by kernel_rfl) (by kernel_rfl) (by kernel_rfl) (says_sc Tryd.underlying72 (by kernel_rfl))
theorem ok73 : (Θ 73).ok Tryd.prog 73 := ok_of (v := .nilFunc) (by kernel_rfl) (by kernel_rfl) (by kernel_rfl) (by kernel_rfl) (says_sc Tryd.underlying73 (by kernel_rfl))
theorem ok74 : (Θ 74).ok Tryd.prog 74 := ok_of (v := .nilFunc) (by kernel_rfl) (by kernel_rfl) (by kernel_rfl) (by kernel_rfl) (says_sc Tryd.underlying74 (by kernel_rfl))
theorem ok76 : (Θ 76).ok Tryd.prog 76 := ok_of (v := .nilFunc) (by kernel_rfl) (by kernel_rfl) (by kernel_rfl) (by kernel_rfl) (says_sc Tryd.underlying76 (by kernel_rfl))
theorem ok77 : (Θ 77).ok Tryd.prog 77 := ok_of (v := .nilIface) (by kernel_rfl) (by kernel_rfl) (by kernel_rfl) (by kernel_rfl) (says_sc Tryd.underlying77 (by kernel_rfl))
theorem ok78 : (Θ 78).ok Tryd.prog 78 := ok_of (v := .nilIface) (by kernel_rfl) (by kernel_rfl) (by kernel_rfl) (by kernel_rfl) (says_sc Tryd.underlying78 (by kernel_rfl))
theorem ok80 : (Θ 80).ok Tryd.prog 80 := ok_of (v := .nilFunc) (by kernel_rfl) (by kernel_rfl) (by kernel_rfl) (by kernel_rfl) (says_sc Tryd.underlying80 (by kernel_rfl))
theorem ok81 : (Θ 81).ok Tryd.prog 81 := ok_of (v := .nilFunc) (by kernel_rfl) (by kernel_rfl) (by kernel_rfl) (by kernel_rfl) (says_sc Tryd.underlying81 (by kernel_rfl))
theorem ok82 : (Θ 82).ok Tryd.prog 82 := ok_of (v := .nilFunc) (by kernel_rfl) (by kernel_rfl) (by kernel_rfl) (by kernel_rfl) (says_sc Tryd.underlying82 (by kernel_rfl))
theorem ok83 : (Θ 83).ok Tryd.prog 83 := ok_of (v := .nilFunc) (by kernel_rfl) (by kernel_rfl) (by kernel_rfl) (by kernel_rfl) (says_sc Tryd.underlying83 (by kernel_rfl))
theorem ok84 : (Θ 84).ok Tryd.prog 84 := ok_of (v := .nilFunc) (by kernel_rfl) (by kernel_rfl) (by kernel_rfl) (by kernel_rfl) (says_sc Tryd.underlying84 (by kernel_rfl))
theorem ok85 : (Θ 85).ok Tryd.prog 85 := ok_of (v := .nilFunc) (by kernel_rfl) (by kernel_rfl) (by kernel_rfl) (by kernel_rfl) (says_sc Tryd.underlying85 (by kernel_rfl))
theorem ok86 : (Θ 86).ok Tryd.prog 86 := ok_of (v := .nilFunc) (by kernel_rfl) (by kernel_rfl) (by kernel_rfl) (by kernel_rfl) (says_sc Tryd.underlying86 (by kernel_rfl))
theorem ok88 : (Θ 88).ok Tryd.prog 88 := ok_of (v := .nilFunc) (by kernel_rfl) (by kernel_rfl) (by kernel_rfl) (by kernel_rfl) (says_sc Tryd.underlying88 (by kernel_rfl))
theorem ok89 : (Θ 89).ok Tryd.prog 89 := ok_of (v := .nilFunc) (by kernel_rfl) (by kernel_rfl) (by kernel_rfl) (by kernel_rfl) (says_sc Tryd.underlying89 (by kernel_rfl))
theorem ok90 : (Θ 90).ok Tryd.prog 90 := ok_of (v := .nilFunc) (by kernel_rfl) (by kernel_rfl) (by kernel_rfl) (by kernel_rfl) (says_sc Tryd.underlying90 (by kernel_rfl))
theorem ok91 : (Θ 91).ok Tryd.prog 91 := ok_of (v := .nilFunc) (by kernel_rfl) (by kernel_rfl) (by kernel_rfl) (by kernel_rfl) (says_sc Tryd.underlying91 (by kernel_rfl))
theorem ok92 : (Θ 92).ok Tryd.prog 92 := ok_of (v := .nilFunc) (by kernel_rfl) (by kernel_rfl) (by kernel_rfl) (by kernel_rfl) (says_sc Tryd.underlying92 (by kernel_rfl))
theorem ok93 : (Θ 93).ok Tryd.prog 93 := ok_of (v := .nilFunc) (by kernel_rfl) (by kernel_rfl) (by kernel_rfl) (by kernel_rfl) (says_sc Tryd.underlying93 (by kernel_rfl))
theorem ok94 : (Θ 94).ok Tryd.prog 94 := ok_of (v := .nilFunc) (by kernel_rfl) (by kernel_rfl) (by kernel_rfl) (by kernel_rfl) (says_sc Tryd.underlying94 (by kernel_rfl))
theorem ok95 : (Θ 95).ok Tryd.prog 95 := ok_of (v := .nilFunc) (by kernel_rfl) (by kernel_rfl) (by kernel_rfl) (by kernel_rfl) (says_sc Tryd.underlying95 (by kernel_rfl))
theorem ok97 : (Θ 97).ok Tryd.prog 97 := ok_of (v := .nilFunc) (by kernel_rfl) (by kernel_rfl) (by kernel_rfl) (by kernel_rfl) (says_sc Tryd.underlying97 (by kernel_rfl))
theorem ok98 : (Θ 98).ok Tryd.prog 98 := ok_of (v := .nilFunc) (by kernel_rfl) (by kernel_rfl) (by kernel_rfl) (by kernel_rfl) (says_sc Tryd.underlying98 (by kernel_rfl))
theorem ok99 : (Θ 99).ok Tryd.prog 99 := ok_of (v := .nilFunc) (by kernel_rfl) (by kernel_rfl) (by kernel_rfl) (by kernel_rfl) (says_sc Tryd.underlying99 (by kernel_rfl))
theorem ok100 : (Θ 100).ok Tryd.prog 100 := ok_of (v := .nilFunc) (by kernel_rfl) (by kernel_rfl) (by kernel_rfl) (by kernel_rfl) (says_sc Tryd.underlying100 (by kernel_rfl))
theorem ok101 : (Θ 101).ok Tryd.prog 101 := ok_of (v := .nilFunc) (by kernel_rfl) (by kernel_rfl) (by kernel_rfl) (by kernel_rfl) (says_sc Tryd.underlying101 (by kernel_rfl))
theorem ok102 : (Θ 102).ok Tryd.prog 102 := ok_of (v := .nilFunc) (by kernel_rfl) (by kernel_rfl) (by kernel_rfl) (by kernel_rfl) (says_sc Tryd.underlying102 (by kernel_rfl))
theorem ok103 : (Θ 103).ok Tryd.prog 103 := ok_of (v := .nilFunc) (by kernel_rfl) (by kernel_rfl) (by kernel_rfl) (by kernel_rfl) (says_sc Tryd.underlying103 (by kernel_rfl))
theorem ok104 : (Θ 104).ok Tryd.prog 104 := ok_of (v := .nilFunc) (by kernel_rfl) (by kernel_rfl) (by kernel_rfl) (by kernel_rfl) (says_sc Tryd.underlying104 (by kernel_rfl))
theorem ok105 : (Θ 105).ok Tryd.prog 105 := ok_of (v := .agg #[.bool false, .bool false, .bool false, .bool false, .bool false, .bool false, .bool false, .bool false, .bool false, .bool false, .bool false, .bool false, .bool false, .bool false, .bool false, .bool false, .bool false, .bool false, .bool false, .bool false, .bool false, .bool false, .bool false, .bool false, .bool false, .bool false, .bool false, .bool false, .bool false, .bool false, .bool false, .bool false, .bool false, .bool false, .bool false, .bool false, .bool false, .bool false, .bool false, .bool false, .bool false, .bool false, .bool false, .bool false, .bool false, .bool false, .bool false, .bool false, .bool false, .bool false, .bool false, .bool false, .bool false, .bool false, .bool false, .bool false, .bool false, .bool false, .bool false, .bool false, .bool false, .bool false, .bool false, .bool false]) (by kernel_rfl) (by kernel_rfl) (by kernel_rfl) (by kernel_rfl) (says_ar Tryd.underlying105 (by kernel_rfl))
theorem ok106 : (Θ 106).ok Tryd.prog 106 := ok_of (v := .nilFunc) (by kernel_rfl) (by kernel_rfl) (by kernel_rfl) (by kernel_rfl) (says_sc Tryd.underlying106 (by kernel_rfl))
theorem ok107 : (Θ 107).ok Tryd.prog 107 := ok_of (v := .nilFunc) (by kernel_rfl) (by kernel_rfl) (by kernel_rfl) (by kernel_rfl) (says_sc Tryd.underlying107 (by kernel_rfl))
theorem ok108 : (Θ 108).ok Tryd.prog 108 := ok_of (v := .nilFunc) (by kernel_rfl) (by kernel_rfl) (by kernel_rfl) (by kernel_rfl) (says_sc Tryd.underlying108 (by kernel_rfl))
theorem ok109 : (Θ 109).ok Tryd.prog 109 := ok_of (v := .nilFunc) (by kernel_rfl) (by kernel_rfl) (by kernel_rfl) (by kernel_rfl) (says_sc Tryd.underlying109 (by kernel_rfl))
theorem ok110 : (Θ 110).ok Tryd.prog 110 := ok_of (v := .nilFunc) (by kernel_rfl) (by kernel_rfl) (by kernel_rfl) (by kernel_rfl) (says_sc Tryd.underlying110 (by kernel_rfl))
theorem ok111 : (Θ 111).ok Tryd.prog 111 := ok_of (v := .nilFunc) (by kernel_rfl) (by kernel_rfl) (by kernel_rfl) (by kernel_rfl) (says_sc Tryd.underlying111 (by kernel_rfl))
theorem ok112 : (Θ 112).ok Tryd.prog 112 := ok_of (v := .nilFunc) (by kernel_rfl) (by kernel_rfl) (by kernel_rfl) (by kernel_rfl) (says_sc Tryd.underlying112 (by kernel_rfl))
theorem ok113 : (Θ 113).ok Tryd.prog 113 := ok_of (v := .slice none 0 0) (by kernel_rfl) (by kernel_rfl) (by kernel_rfl) (by kernel_rfl) (says_sl Tryd.underlying113 (by kernel_rfl) (by decide))
theorem ok114 : (Θ 114).ok Tryd.prog 114 := ok_of (v := .nilFunc) (by kernel_rfl) (by kernel_rfl) (by kernel_rfl) (by kernel_rfl) (says_sc Tryd.underlying114 (by kernel_rfl))
theorem ok115 : (Θ 115).ok Tryd.prog 115 := ok_of (v := .nilFunc) (by kernel_rfl) (by kernel_rfl) (by kernel_rfl) (by kernel_rfl) (says_sc Tryd.underlying115 (by kernel_rfl))
theorem ok116 : (Θ 116).ok Tryd.prog 116 := ok_of (v := .nilFunc) (by kernel_rfl) (by kernel_rfl) (by kernel_rfl) (by kernel_rfl) (says_sc Tryd.underlying116 (by kernel_rfl))
theorem ok117 : (Θ 117).ok Tryd.prog 117 := ok_of (v := .nilFunc) (by kernel_rfl) (by kernel_rfl) (by kernel_rfl) (by kernel_rfl) (says_sc Tryd.underlying117 (by kernel_rfl))
theorem ok118 : (Θ 118).ok Tryd.prog 118 := ok_of (v := .nilFunc) (by kernel_rfl) (by kernel_rfl) (by kernel_rfl) (by kernel_rfl) (says_sc Tryd.underlying118 (by kernel_rfl))
theorem ok119 : (Θ 119).ok Tryd.prog 119 := ok_of (v := .nilFunc) (by kernel_rfl) (by kernel_rfl) (by kernel_rfl) (by kernel_rfl) (says_sc Tryd.underlying119 (by kernel_rfl))
theorem ok120 : (Θ 120).ok Tryd.prog 120 := ok_of (v := .int .i64 0) (by kernel_rfl) (by kernel_rfl) (by kernel_rfl) (by kernel_rfl) (says_sc Tryd.underlying120 (by kernel_rfl))
theorem ok122 : (Θ 122).ok Tryd.prog 122 := ok_of (v := .nilFunc) (by kernel_rfl) (by kernel_rfl) (by kernel_rfl) (by kernel_rfl) (says_sc Tryd.underlying122 (by kernel_rfl))
theorem ok123 : (Θ 123).ok Tryd.prog 123 := ok_of (v := .int .u64 0) (by kernel_rfl) (by kernel_rfl) (by kernel_rfl) (by kernel_rfl) (says_sc Tryd.underlying123 (by kernel_rfl))
theorem ok124 : (Θ 124).ok Tryd.prog 124 := ok_of (v := .pointer none) (by kernel_rfl) (by kernel_rfl) (by kernel_rfl) (by kernel_rfl) (says_sc Tryd.underlying124 (by kernel_rfl))
theorem ok125 : (Θ 125).ok Tryd.prog 125 := ok_of (v := .nilFunc) (by kernel_rfl) (by kernel_rfl) (by kernel_rfl) (by kernel_rfl) (says_sc Tryd.underlying125 (by kernel_rfl))
theorem ok126 : (Θ 126).ok Tryd.prog 126 := ok_of (v := .nilFunc) (by kernel_rfl) (by kernel_rfl) (by kernel_rfl) (by kernel_rfl) (says_sc Tryd.underlying126 (by kernel_rfl))
theorem ok127 : (Θ 127).ok Tryd.prog 127 := ok_of (v := .nilFunc) (by kernel_rfl) (by kernel_rfl) (by kernel_rfl) (by kernel_rfl) (says_sc Tryd.underlying127 (by kernel_rfl))
theorem ok128 : (Θ 128).ok Tryd.prog 128 := ok_of (v := .agg #[.int .u8 0, .int .u8 0, .int .u8 0, .int .u8 0, .int .u8 0, .int .u8 0, .int .u8 0, .int .u8 0, .int .u8 0, .int .u8 0, .int .u8 0, .int .u8 0, .int .u8 0, .int .u8 0, .int .u8 0, .int .u8 0, .int .u8 0, .int .u8 0, .int .u8 0, .int .u8 0, .int .u8 0, .int .u8 0, .int .u8 0, .int .u8 0]) (by kernel_rfl) (by kernel_rfl) (by kernel_rfl) (by kernel_rfl) (says_ar Tryd.underlying128 (by kernel_rfl))
theorem ok129 : (Θ 129).ok Tryd.prog 129 := ok_of (v := .nilFunc) (by kernel_rfl) (by kernel_rfl) (by kernel_rfl) (by kernel_rfl) (says_sc Tryd.underlying129 (by kernel_rfl))
theorem ok130 : (Θ 130).ok Tryd.prog 130 := ok_of (v := .nilFunc) (by kernel_rfl) (by kernel_rfl) (by kernel_rfl) (by kernel_rfl) (says_sc Tryd.underlying130 (by kernel_rfl))

theorem agree : Agree Tryd.prog Θ := by
  intro T hk
  unfold Θ at hk
  split at hk
  · exact ok1
  · exact ok2
  · exact ok3
  · exact ok4
  · exact ok5
  · exact ok6
  · exact ok7
  · exact ok8
  · exact ok9
  · exact ok10
  · exact ok11
  · exact ok12
  · exact ok13
  · exact ok14
  · exact ok15
  · exact ok16
  · exact ok17
  · exact ok18
  · exact ok19
  · exact ok20
  · exact ok21
  · exact ok22
  · exact ok23
  · exact ok24
  · exact ok25
  · exact ok27
  · exact ok28
  · exact ok30
  · exact ok31
  · exact ok32
  · exact ok33
  · exact ok34
  · exact ok35
  · exact ok36
  · exact ok37
  · exact ok38
  · exact ok40
  · exact ok42
  · exact ok43
  · exact ok44
  · exact ok45
  · exact ok46
  · exact ok47
  · exact ok48
  · exact ok49
  · exact ok50
  · exact ok51
  · exact ok52
  · exact ok53
  · exact ok54
  · exact ok55
  · exact ok56
  · exact ok57
  · exact ok58
  · exact ok60
  · exact ok62
  · exact ok63
  · exact ok64
  · exact ok65
  · exact ok66
  · exact ok67
  · exact ok68
  · exact ok69
  · exact ok70
  · exact ok71
  · exact ok72
  · exact ok73
  · exact ok74
  · exact ok76
  · exact ok77
  · exact ok78
  · exact ok80
  · exact ok81
  · exact ok82
  · exact ok83
  · exact ok84
  · exact ok85
  · exact ok86
  · exact ok88
  · exact ok89
  · exact ok90
  · exact ok91
  · exact ok92
  · exact ok93
  · exact ok94
  · exact ok95
  · exact ok97
  · exact ok98
  · exact ok99
  · exact ok100
  · exact ok101
  · exact ok102
  · exact ok103
  · exact ok104
  · exact ok105
  · exact ok106
  · exact ok107
  · exact ok108
  · exact ok109
  · exact ok110
  · exact ok111
  · exact ok112
  · exact ok113
  · exact ok114
  · exact ok115
  · exact ok116
  · exact ok117
  · exact ok118
  · exact ok119
  · exact ok120
  · exact ok122
  · exact ok123
  · exact ok124
  · exact ok125
  · exact ok126
  · exact ok127
  · exact ok128
  · exact ok129
  · exact ok130
  · cases hk

theorem callAll : (List.range 131).all (fun f => decide (f < 3) || match Tryd.prog.funcs[f]? with | some fn => !(fn.name == "runtime.NumGoroutine") && !fn.body.isNone | none => false) = true := by kernel_rfl
theorem callable {f : Nat} (h : 3 ≤ f ∧ f < 131) : Callable Tryd.prog f := by
  have h1 := List.all_eq_true.1 callAll f (List.mem_range.2 h.2)
  have h0 : ¬ f < 3 := by omega
  simp only [h0, decide_false, Bool.false_or] at h1
  split at h1
  · next fn hf =>
    simp only [Bool.and_eq_true, Bool.not_eq_true'] at h1
    exact ⟨fn, hf, h1.1, h1.2⟩
  · cases h1

theorem mixed : Tryd.prog.follows .mixedOrders = true := by kernel_rfl

end Go.Proofs.YtopmpbdjnkomoaaDoor
