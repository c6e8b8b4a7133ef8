/- The program's types, as a table, and that they are so. No conditions. Printed by gentheta.py (wip). -/
import Derived.Test.YtopmpbdjnkomoaaProg
import Derived.Test.YtopmpbdjnkomoaaK31
import Derived.KernelRfl
namespace Go.Proofs.Ytopmpbdjnkomoaa
open Go.Dat

/-- No variable of the library is read. -/
instance tabs : Dat.Tables := ⟨fun _ => False, fun _ => True, fun _ _ => trivial⟩

def Θ : TypeId → TI
  | 1 => ⟨.sc, 1, .v .nilFunc⟩
  | 2 => ⟨.sc, 1, .v (.int .i64 0)⟩
  | 3 => ⟨.sc, 1, .v (.int .i64 0)⟩
  | 4 => ⟨.sc, 1, .v (.bool false)⟩
  | 5 => ⟨.sc, 1, .v (.int .u8 0)⟩
  | 6 => ⟨.sc, 1, .v (.int .u8 0)⟩
  | 7 => ⟨.st [(2, 0), (3, 1), (4, 2), (6, 3)], 4, .st [.v (.int .i64 0), .v (.int .i64 0), .v (.bool false), .v (.int .u8 0)]⟩
  | 8 => ⟨.st [(2, 0), (3, 1), (4, 2), (6, 3)], 4, .st [.v (.int .i64 0), .v (.int .i64 0), .v (.bool false), .v (.int .u8 0)]⟩
  | 9 => ⟨.sc, 1, .v (.string ⟨#[]⟩)⟩
  | 10 => ⟨.sc, 1, .v (.string ⟨#[]⟩)⟩
  | 11 => ⟨.sc, 1, .v (.string ⟨#[]⟩)⟩
  | 12 => ⟨.sc, 1, .v (.int .u64 0)⟩
  | 13 => ⟨.st [(9, 0), (12, 1)], 2, .st [.v (.string ⟨#[]⟩), .v (.int .u64 0)]⟩
  | 14 => ⟨.st [(9, 0), (12, 1)], 2, .st [.v (.string ⟨#[]⟩), .v (.int .u64 0)]⟩
  | 15 => ⟨.sc, 1, .v (.pointer none)⟩
  | 16 => ⟨.sc, 1, .v (.pointer none)⟩
  | 17 => ⟨.sc, 1, .v (.pointer none)⟩
  | 18 => ⟨.st [(17, 0)], 1, .st [.v (.pointer none)]⟩
  | 19 => ⟨.st [(17, 0)], 1, .st [.v (.pointer none)]⟩
  | 20 => ⟨.sc, 1, .v .nilIface⟩
  | 21 => ⟨.sc, 1, .v (.int .i32 0)⟩
  | 22 => ⟨.sl 60 2 16, 1, .lst .nl 2 []⟩
  | 23 => ⟨.sl 36 5 64, 1, .lst .nl 5 []⟩
  | 24 => ⟨.sc, 1, .v .nilFunc⟩
  | 25 => ⟨.sc, 1, .v .nilFunc⟩
  | 26 => ⟨.sl 56 2 16, 1, .lst .nl 2 []⟩
  | 28 => ⟨.sc, 1, .v .nilFunc⟩
  | 29 => ⟨.sc, 1, .v .nilFunc⟩
  | 30 => ⟨.sl 41 5 64, 1, .lst .nl 5 []⟩
  | 31 => ⟨.sc, 1, .v .nilFunc⟩
  | 33 => ⟨.sc, 1, .v .nilFunc⟩
  | 34 => ⟨.sl 68 4 32, 1, .lst .nl 4 []⟩
  | 35 => ⟨.st [(3, 0), (4, 1), (4, 2), (34, 3), (34, 4)], 5, .st [.v (.int .i64 0), .v (.bool false), .v (.bool false), .lst .nl 4 [], .lst .nl 4 []]⟩
  | 36 => ⟨.st [(3, 0), (4, 1), (4, 2), (34, 3), (34, 4)], 5, .st [.v (.int .i64 0), .v (.bool false), .v (.bool false), .lst .nl 4 [], .lst .nl 4 []]⟩
  | 38 => ⟨.sc, 1, .v .nilFunc⟩
  | 39 => ⟨.sl 58 4 32, 1, .lst .nl 4 []⟩
  | 40 => ⟨.st [(3, 0), (4, 1), (4, 2), (39, 3), (39, 4)], 5, .st [.v (.int .i64 0), .v (.bool false), .v (.bool false), .lst .nl 4 [], .lst .nl 4 []]⟩
  | 41 => ⟨.st [(3, 0), (4, 1), (4, 2), (39, 3), (39, 4)], 5, .st [.v (.int .i64 0), .v (.bool false), .v (.bool false), .lst .nl 4 [], .lst .nl 4 []]⟩
  | 43 => ⟨.sc, 1, .v .nilFunc⟩
  | 44 => ⟨.sc, 1, .v .nilFunc⟩
  | 45 => ⟨.sc, 1, .v .nilFunc⟩
  | 46 => ⟨.sc, 1, .v .nilFunc⟩
  | 47 => ⟨.sc, 1, .v .nilFunc⟩
  | 48 => ⟨.sc, 1, .v .nilFunc⟩
  | 49 => ⟨.sc, 1, .v .nilFunc⟩
  | 50 => ⟨.sc, 1, .v .nilFunc⟩
  | 51 => ⟨.sc, 1, .v .nilFunc⟩
  | 52 => ⟨.sc, 1, .v .nilFunc⟩
  | 53 => ⟨.sc, 1, .v .nilFunc⟩
  | 54 => ⟨.sl 5 1 1, 1, .lst .nl 1 []⟩
  | 55 => ⟨.st [(3, 0), (2, 1)], 2, .st [.v (.int .i64 0), .v (.int .i64 0)]⟩
  | 56 => ⟨.st [(3, 0), (2, 1)], 2, .st [.v (.int .i64 0), .v (.int .i64 0)]⟩
  | 57 => ⟨.st [(3, 0), (56, 1), (4, 3)], 4, .st [.v (.int .i64 0), .st [.v (.int .i64 0), .v (.int .i64 0)], .v (.bool false)]⟩
  | 58 => ⟨.st [(3, 0), (56, 1), (4, 3)], 4, .st [.v (.int .i64 0), .st [.v (.int .i64 0), .v (.int .i64 0)], .v (.bool false)]⟩
  | 59 => ⟨.sc, 1, .v .nilFunc⟩
  | 60 => ⟨.st [(3, 0), (2, 1)], 2, .st [.v (.int .i64 0), .v (.int .i64 0)]⟩
  | 61 => ⟨.sl 58 4 32, 1, .lst .nl 4 []⟩
  | 62 => ⟨.sc, 1, .v .nilFunc⟩
  | 63 => ⟨.sl 56 2 16, 1, .lst .nl 2 []⟩
  | 64 => ⟨.sc, 1, .v .nilFunc⟩
  | 65 => ⟨.sc, 1, .v .nilFunc⟩
  | 66 => ⟨.sc, 1, .v .nilFunc⟩
  | 67 => ⟨.st [(3, 0), (60, 1), (4, 3)], 4, .st [.v (.int .i64 0), .st [.v (.int .i64 0), .v (.int .i64 0)], .v (.bool false)]⟩
  | 68 => ⟨.st [(3, 0), (60, 1), (4, 3)], 4, .st [.v (.int .i64 0), .st [.v (.int .i64 0), .v (.int .i64 0)], .v (.bool false)]⟩
  | 69 => ⟨.sc, 1, .v .nilFunc⟩
  | 70 => ⟨.sc, 1, .v .nilFunc⟩
  | 71 => ⟨.sc, 1, .v .nilFunc⟩
  | 72 => ⟨.sc, 1, .v .nilFunc⟩
  | 73 => ⟨.sc, 1, .v .nilFunc⟩
  | 74 => ⟨.sc, 1, .v .nilFunc⟩
  | 75 => ⟨.sc, 1, .v .nilFunc⟩
  | 76 => ⟨.sc, 1, .v .nilFunc⟩
  | 77 => ⟨.sc, 1, .v (.int .u64 0)⟩
  | 79 => ⟨.sc, 1, .v .nilFunc⟩
  | 80 => ⟨.sc, 1, .v (.int .u32 0)⟩
  | 82 => ⟨.sc, 1, .v .nilFunc⟩
  | 83 => ⟨.sc, 1, .v (.int .u64 0)⟩
  | 85 => ⟨.sc, 1, .v .nilFunc⟩
  | 86 => ⟨.sc, 1, .v .nilFunc⟩
  | 87 => ⟨.st [(17, 0), (17, 1), (17, 2), (9, 3)], 4, .st [.v (.pointer none), .v (.pointer none), .v (.pointer none), .v (.string ⟨#[]⟩)]⟩
  | 88 => ⟨.st [(17, 0), (17, 1), (17, 2), (9, 3)], 4, .st [.v (.pointer none), .v (.pointer none), .v (.pointer none), .v (.string ⟨#[]⟩)]⟩
  | 92 => ⟨.sc, 1, .v .nilFunc⟩
  | 93 => ⟨.sc, 1, .v (.int .u8 0)⟩
  | 94 => ⟨.sc, 1, .v (.int .u8 0)⟩
  | 95 => ⟨.sc, 1, .v .nilFunc⟩
  | 96 => ⟨.sc, 1, .v (.pointer none)⟩
  | 97 => ⟨.sc, 1, .v (.int .i32 0)⟩
  | 98 => ⟨.sc, 1, .v (.int .i32 0)⟩
  | 99 => ⟨.st [(12, 0), (12, 1), (80, 2), (93, 3), (5, 4), (5, 5), (94, 6), (95, 7), (96, 8), (97, 9), (98, 10)], 11, .st [.v (.int .u64 0), .v (.int .u64 0), .v (.int .u32 0), .v (.int .u8 0), .v (.int .u8 0), .v (.int .u8 0), .v (.int .u8 0), .v .nilFunc, .v (.pointer none), .v (.int .i32 0), .v (.int .i32 0)]⟩
  | 100 => ⟨.st [(12, 0), (12, 1), (80, 2), (93, 3), (5, 4), (5, 5), (94, 6), (95, 7), (96, 8), (97, 9), (98, 10)], 11, .st [.v (.int .u64 0), .v (.int .u64 0), .v (.int .u32 0), .v (.int .u8 0), .v (.int .u8 0), .v (.int .u8 0), .v (.int .u8 0), .v .nilFunc, .v (.pointer none), .v (.int .i32 0), .v (.int .i32 0)]⟩
  | 101 => ⟨.sc, 1, .v .nilFunc⟩
  | 103 => ⟨.sc, 1, .v (.int .i64 0)⟩
  | _ => default

theorem ok1 : (Θ 1).ok Try.prog 1 := ok_of (v := .nilFunc) (by kernel_rfl) (by kernel_rfl) (by kernel_rfl) (by kernel_rfl) (says_sc Try.underlying1 (by kernel_rfl))
theorem ok2 : (Θ 2).ok Try.prog 2 := ok_of (v := .int .i64 0) (by kernel_rfl) (by kernel_rfl) (by kernel_rfl) (by kernel_rfl) (says_sc Try.underlying2 (by kernel_rfl))
theorem ok3 : (Θ 3).ok Try.prog 3 := ok_of (v := .int .i64 0) (by kernel_rfl) (by kernel_rfl) (by kernel_rfl) (by kernel_rfl) (says_sc Try.underlying3 (by kernel_rfl))
theorem ok4 : (Θ 4).ok Try.prog 4 := ok_of (v := .bool false) (by kernel_rfl) (by kernel_rfl) (by kernel_rfl) (by kernel_rfl) (says_sc Try.underlying4 (by kernel_rfl))
theorem ok5 : (Θ 5).ok Try.prog 5 := ok_of (v := .int .u8 0) (by kernel_rfl) (by kernel_rfl) (by kernel_rfl) (by kernel_rfl) (says_sc Try.underlying5 (by kernel_rfl))
theorem ok6 : (Θ 6).ok Try.prog 6 := ok_of (v := .int .u8 0) (by kernel_rfl) (by kernel_rfl) (by kernel_rfl) (by kernel_rfl) (says_sc Try.underlying6 (by kernel_rfl))
theorem ok7 : (Θ 7).ok Try.prog 7 := ok_of (v := .agg #[.int .i64 0, .int .i64 0, .bool false, .int .u8 0]) (by kernel_rfl) (by kernel_rfl) (by kernel_rfl) (by kernel_rfl) (says_st Try.underlying7 (by kernel_rfl) (by kernel_rfl))
theorem ok8 : (Θ 8).ok Try.prog 8 := ok_of (v := .agg #[.int .i64 0, .int .i64 0, .bool false, .int .u8 0]) (by kernel_rfl) (by kernel_rfl) (by kernel_rfl) (by kernel_rfl) (says_st Try.underlying8 (by kernel_rfl) (by kernel_rfl))
theorem ok9 : (Θ 9).ok Try.prog 9 := ok_of (v := .string ⟨#[]⟩) (by kernel_rfl) (by kernel_rfl) (by kernel_rfl) (by kernel_rfl) (says_sc Try.underlying9 (by kernel_rfl))
theorem ok10 : (Θ 10).ok Try.prog 10 := ok_of (v := .string ⟨#[]⟩) (by kernel_rfl) (by kernel_rfl) (by kernel_rfl) (by kernel_rfl) (says_sc Try.underlying10 (by kernel_rfl))
theorem ok11 : (Θ 11).ok Try.prog 11 := ok_of (v := .string ⟨#[]⟩) (by kernel_rfl) (by kernel_rfl) (by kernel_rfl) (by kernel_rfl) (says_sc Try.underlying11 (by kernel_rfl))
theorem ok12 : (Θ 12).ok Try.prog 12 := ok_of (v := .int .u64 0) (by kernel_rfl) (by kernel_rfl) (by kernel_rfl) (by kernel_rfl) (says_sc Try.underlying12 (by kernel_rfl))
theorem ok13 : (Θ 13).ok Try.prog 13 := ok_of (v := .agg #[.string ⟨#[]⟩, .int .u64 0]) (by kernel_rfl) (by kernel_rfl) (by kernel_rfl) (by kernel_rfl) (says_st Try.underlying13 (by kernel_rfl) (by kernel_rfl))
theorem ok14 : (Θ 14).ok Try.prog 14 := ok_of (v := .agg #[.string ⟨#[]⟩, .int .u64 0]) (by kernel_rfl) (by kernel_rfl) (by kernel_rfl) (by kernel_rfl) (says_st Try.underlying14 (by kernel_rfl) (by kernel_rfl))
theorem ok15 : (Θ 15).ok Try.prog 15 := ok_of (v := .pointer none) (by kernel_rfl) (by kernel_rfl) (by kernel_rfl) (by kernel_rfl) (says_sc Try.underlying15 (by kernel_rfl))
theorem ok16 : (Θ 16).ok Try.prog 16 := ok_of (v := .pointer none) (by kernel_rfl) (by kernel_rfl) (by kernel_rfl) (by kernel_rfl) (says_sc Try.underlying16 (by kernel_rfl))
theorem ok17 : (Θ 17).ok Try.prog 17 := ok_of (v := .pointer none) (by kernel_rfl) (by kernel_rfl) (by kernel_rfl) (by kernel_rfl) (says_sc Try.underlying17 (by kernel_rfl))
theorem ok18 : (Θ 18).ok Try.prog 18 := ok_of (v := .agg #[.pointer none]) (by kernel_rfl) (by kernel_rfl) (by kernel_rfl) (by kernel_rfl) (says_st Try.underlying18 (by kernel_rfl) (by kernel_rfl))
theorem ok19 : (Θ 19).ok Try.prog 19 := ok_of (v := .agg #[.pointer none]) (by kernel_rfl) (by kernel_rfl) (by kernel_rfl) (by kernel_rfl) (says_st Try.underlying19 (by kernel_rfl) (by kernel_rfl))
theorem ok20 : (Θ 20).ok Try.prog 20 := ok_of (v := .nilIface) (by kernel_rfl) (by kernel_rfl) (by kernel_rfl) (by kernel_rfl) (says_sc Try.underlying20 (by kernel_rfl))
theorem ok21 : (Θ 21).ok Try.prog 21 := ok_of (v := .int .i32 0) (by kernel_rfl) (by kernel_rfl) (by kernel_rfl) (by kernel_rfl) (says_sc Try.underlying21 (by kernel_rfl))
theorem ok22 : (Θ 22).ok Try.prog 22 := ok_of (v := .slice none 0 0) (by kernel_rfl) (by kernel_rfl) (by kernel_rfl) (by kernel_rfl) (says_sl Try.underlying22 (by kernel_rfl) (by decide))
theorem ok23 : (Θ 23).ok Try.prog 23 := ok_of (v := .slice none 0 0) (by kernel_rfl) (by kernel_rfl) (by kernel_rfl) (by kernel_rfl) (says_sl Try.underlying23 (by kernel_rfl) (by decide))
theorem ok24 : (Θ 24).ok Try.prog 24 := ok_of (v := .nilFunc) (by kernel_rfl) (by kernel_rfl) (by kernel_rfl) (by kernel_rfl) (says_sc Try.underlying24 (by kernel_rfl))
theorem ok25 : (Θ 25).ok Try.prog 25 := ok_of (v := .nilFunc) (by kernel_rfl) (by kernel_rfl) (by kernel_rfl) (by kernel_rfl) (says_sc Try.underlying25 (by kernel_rfl))
theorem ok26 : (Θ 26).ok Try.prog 26 := ok_of (v := .slice none 0 0) (by kernel_rfl) (by kernel_rfl) (by kernel_rfl) (by kernel_rfl) (says_sl Try.underlying26 (by kernel_rfl) (by decide))
theorem ok28 : (Θ 28).ok Try.prog 28 := ok_of (v := .nilFunc) (by kernel_rfl) (by kernel_rfl) (by kernel_rfl) (by kernel_rfl) (says_sc Try.underlying28 (by kernel_rfl))
theorem ok29 : (Θ 29).ok Try.prog 29 := ok_of (v := .nilFunc) (by kernel_rfl) (by kernel_rfl) (by kernel_rfl) (by kernel_rfl) (says_sc Try.underlying29 (by kernel_rfl))
theorem ok30 : (Θ 30).ok Try.prog 30 := ok_of (v := .slice none 0 0) (by kernel_rfl) (by kernel_rfl) (by kernel_rfl) (by kernel_rfl) (says_sl Try.underlying30 (by kernel_rfl) (by decide))
theorem ok31 : (Θ 31).ok Try.prog 31 := ok_of (v := .nilFunc) (by kernel_rfl) (by kernel_rfl) (by kernel_rfl) (by kernel_rfl) (says_sc Try.underlying31 (by kernel_rfl))
theorem ok33 : (Θ 33).ok Try.prog 33 := ok_of (v := .nilFunc) (by kernel_rfl) (by kernel_rfl) (by kernel_rfl) (by kernel_rfl) (says_sc Try.underlying33 (by kernel_rfl))
theorem ok34 : (Θ 34).ok Try.prog 34 := ok_of (v := .slice none 0 0) (by kernel_rfl) (by kernel_rfl) (by kernel_rfl) (by kernel_rfl) (says_sl Try.underlying34 (by kernel_rfl) (by decide))
theorem ok35 : (Θ 35).ok Try.prog 35 := ok_of (v := .agg #[.int .i64 0, .bool false, .bool false, .slice none 0 0, .slice none 0 0]) (by kernel_rfl) (by kernel_rfl) (by kernel_rfl) (by kernel_rfl) (says_st Try.underlying35 (by kernel_rfl) (by kernel_rfl))
theorem ok36 : (Θ 36).ok Try.prog 36 := ok_of (v := .agg #[.int .i64 0, .bool false, .bool false, .slice none 0 0, .slice none 0 0]) (by kernel_rfl) (by kernel_rfl) (by kernel_rfl) (by kernel_rfl) (says_st Try.underlying36 (by kernel_rfl) (by kernel_rfl))
theorem ok38 : (Θ 38).ok Try.prog 38 := ok_of (v := .nilFunc) (by kernel_rfl) (by kernel_rfl) (by kernel_rfl) (by kernel_rfl) (says_sc Try.underlying38 (by kernel_rfl))
theorem ok39 : (Θ 39).ok Try.prog 39 := ok_of (v := .slice none 0 0) (by kernel_rfl) (by kernel_rfl) (by kernel_rfl) (by kernel_rfl) (says_sl Try.underlying39 (by kernel_rfl) (by decide))
theorem ok40 : (Θ 40).ok Try.prog 40 := ok_of (v := .agg #[.int .i64 0, .bool false, .bool false, .slice none 0 0, .slice none 0 0]) (by kernel_rfl) (by kernel_rfl) (by kernel_rfl) (by kernel_rfl) (says_st Try.underlying40 (by kernel_rfl) (by kernel_rfl))
theorem ok41 : (Θ 41).ok Try.prog 41 := ok_of (v := .agg #[.int .i64 0, .bool false, .bool false, .slice none 0 0, .slice none 0 0]) (by kernel_rfl) (by kernel_rfl) (by kernel_rfl) (by kernel_rfl) (says_st Try.underlying41 (by kernel_rfl) (by kernel_rfl))
theorem ok43 : (Θ 43).ok Try.prog 43 := ok_of (v := .nilFunc) (by kernel_rfl) (by kernel_rfl) (by kernel_rfl) (by kernel_rfl) (says_sc Try.underlying43 (by kernel_rfl))
theorem ok44 : (Θ 44).ok Try.prog 44 := ok_of (v := .nilFunc) (by kernel_rfl) (by kernel_rfl) (by kernel_rfl) (by kernel_rfl) (says_sc Try.underlying44 (by kernel_rfl))
theorem ok45 : (Θ 45).ok Try.prog 45 := ok_of (v := .nilFunc) (by kernel_rfl) (by kernel_rfl) (by kernel_rfl) (by kernel_rfl) (says_sc Try.underlying45 (by kernel_rfl))
theorem ok46 : (Θ 46).ok Try.prog 46 := ok_of (v := .nilFunc) (by kernel_rfl) (by kernel_rfl) (by kernel_rfl) (by kernel_rfl) (says_sc Try.underlying46 (by kernel_rfl))
theorem ok47 : (Θ 47).ok Try.prog 47 := ok_of (v := .nilFunc) (by kernel_rfl) (by kernel_rfl) (by kernel_rfl) (by kernel_rfl) (says_sc Try.underlying47 (by kernel_rfl))
theorem ok48 : (Θ 48).ok Try.prog 48 := ok_of (v := .nilFunc) (by kernel_rfl) (by kernel_rfl) (by kernel_rfl) (by kernel_rfl) (says_sc Try.underlying48 (by kernel_rfl))
theorem ok49 : (Θ 49).ok Try.prog 49 := ok_of (v := .nilFunc) (by kernel_rfl) (by kernel_rfl) (by kernel_rfl) (by kernel_rfl) (says_sc Try.underlying49 (by kernel_rfl))
theorem ok50 : (Θ 50).ok Try.prog 50 := ok_of (v := .nilFunc) (by kernel_rfl) (by kernel_rfl) (by kernel_rfl) (by kernel_rfl) (says_sc Try.underlying50 (by kernel_rfl))
theorem ok51 : (Θ 51).ok Try.prog 51 := ok_of (v := .nilFunc) (by kernel_rfl) (by kernel_rfl) (by kernel_rfl) (by kernel_rfl) (says_sc Try.underlying51 (by kernel_rfl))
theorem ok52 : (Θ 52).ok Try.prog 52 := ok_of (v := .nilFunc) (by kernel_rfl) (by kernel_rfl) (by kernel_rfl) (by kernel_rfl) (says_sc Try.underlying52 (by kernel_rfl))
theorem ok53 : (Θ 53).ok Try.prog 53 := ok_of (v := .nilFunc) (by kernel_rfl) (by kernel_rfl) (by kernel_rfl) (by kernel_rfl) (says_sc Try.underlying53 (by kernel_rfl))
theorem ok54 : (Θ 54).ok Try.prog 54 := ok_of (v := .slice none 0 0) (by kernel_rfl) (by kernel_rfl) (by kernel_rfl) (by kernel_rfl) (says_sl Try.underlying54 (by kernel_rfl) (by decide))
theorem ok55 : (Θ 55).ok Try.prog 55 := ok_of (v := .agg #[.int .i64 0, .int .i64 0]) (by kernel_rfl) (by kernel_rfl) (by kernel_rfl) (by kernel_rfl) (says_st Try.underlying55 (by kernel_rfl) (by kernel_rfl))
theorem ok56 : (Θ 56).ok Try.prog 56 := ok_of (v := .agg #[.int .i64 0, .int .i64 0]) (by kernel_rfl) (by kernel_rfl) (by kernel_rfl) (by kernel_rfl) (says_st Try.underlying56 (by kernel_rfl) (by kernel_rfl))
theorem ok57 : (Θ 57).ok Try.prog 57 := ok_of (v := .agg #[.int .i64 0, .int .i64 0, .int .i64 0, .bool false]) (by kernel_rfl) (by kernel_rfl) (by kernel_rfl) (by kernel_rfl) (says_st Try.underlying57 (by kernel_rfl) (by kernel_rfl))
theorem ok58 : (Θ 58).ok Try.prog 58 := ok_of (v := .agg #[.int .i64 0, .int .i64 0, .int .i64 0, .bool false]) (by kernel_rfl) (by kernel_rfl) (by kernel_rfl) (by kernel_rfl) (says_st Try.underlying58 (by kernel_rfl) (by kernel_rfl))
theorem ok59 : (Θ 59).ok Try.prog 59 := ok_of (v := .nilFunc) (by kernel_rfl) (by kernel_rfl) (by kernel_rfl) (by kernel_rfl) (says_sc Try.underlying59 (by kernel_rfl))
theorem ok60 : (Θ 60).ok Try.prog 60 := ok_of (v := .agg #[.int .i64 0, .int .i64 0]) (by kernel_rfl) (by kernel_rfl) (by kernel_rfl) (by kernel_rfl) (says_st Try.underlying60 (by kernel_rfl) (by kernel_rfl))
theorem ok61 : (Θ 61).ok Try.prog 61 := ok_of (v := .slice none 0 0) (by kernel_rfl) (by kernel_rfl) (by kernel_rfl) (by kernel_rfl) (says_sl Try.underlying61 (by kernel_rfl) (by decide))
theorem ok62 : (Θ 62).ok Try.prog 62 := ok_of (v := .nilFunc) (by kernel_rfl) (by kernel_rfl) (by kernel_rfl) (by kernel_rfl) (says_sc Try.underlying62 (by kernel_rfl))
theorem ok63 : (Θ 63).ok Try.prog 63 := ok_of (v := .slice none 0 0) (by kernel_rfl) (by kernel_rfl) (by kernel_rfl) (by kernel_rfl) (says_sl Try.underlying63 (by kernel_rfl) (by decide))
theorem ok64 : (Θ 64).ok Try.prog 64 := ok_of (v := .nilFunc) (by kernel_rfl) (by kernel_rfl) (by kernel_rfl) (by kernel_rfl) (says_sc Try.underlying64 (by kernel_rfl))
theorem ok65 : (Θ 65).ok Try.prog 65 := ok_of (v := .nilFunc) (by kernel_rfl) (by kernel_rfl) (by kernel_rfl) (by kernel_rfl) (says_sc Try.underlying65 (by kernel_rfl))
theorem ok66 : (Θ 66).ok Try.prog 66 := ok_of (v := .nilFunc) (by kernel_rfl) (by kernel_rfl) (by kernel_rfl) (by kernel_rfl) (says_sc Try.underlying66 (by kernel_rfl))
theorem ok67 : (Θ 67).ok Try.prog 67 := ok_of (v := .agg #[.int .i64 0, .int .i64 0, .int .i64 0, .bool false]) (by kernel_rfl) (by kernel_rfl) (by kernel_rfl) (by kernel_rfl) (says_st Try.underlying67 (by kernel_rfl) (by kernel_rfl))
theorem ok68 : (Θ 68).ok Try.prog 68 := ok_of (v := .agg #[.int .i64 0, .int .i64 0, .int .i64 0, .bool false]) (by kernel_rfl) (by kernel_rfl) (by kernel_rfl) (by kernel_rfl) (says_st Try.underlying68 (by kernel_rfl) (by kernel_rfl))
theorem ok69 : (Θ 69).ok Try.prog 69 := ok_of (v := .nilFunc) (by kernel_rfl) (by kernel_rfl) (by kernel_rfl) (by kernel_rfl) (says_sc Try.underlying69 (by kernel_rfl))
theorem ok70 : (Θ 70).ok Try.prog 70 := ok_of (v := .nilFunc) (by kernel_rfl) (by kernel_rfl) (by kernel_rfl) (by kernel_rfl) (says_sc Try.underlying70 (by kernel_rfl))
theorem ok71 : (Θ 71).ok Try.prog 71 := ok_of (v := .nilFunc) (by kernel_rfl) (by kernel_rfl) (by kernel_rfl) (by kernel_rfl) (says_sc Try.underlying71 (by kernel_rfl))
theorem ok72 : (Θ 72).ok Try.prog 72 := ok_of (v := .nilFunc) (by kernel_rfl) (by kernel_rfl) (by kernel_rfl) (by kernel_rfl) (says_sc Try.underlying72 (by kernel_rfl))
theorem ok73 : (Θ 73).ok Try.prog 73 := ok_of (v := .nilFunc) (by kernel_rfl) (by kernel_rfl) (by kernel_rfl) (by kernel_rfl) (says_sc Try.underlying73 (by kernel_rfl))
theorem ok74 : (Θ 74).ok Try.prog 74 := ok_of (v := .nilFunc) (by kernel_rfl) (by kernel_rfl) (by kernel_rfl) (by kernel_rfl) (says_sc Try.underlying74 (by kernel_rfl))
theorem ok75 : (Θ 75).ok Try.prog 75 := ok_of (v := .nilFunc) (by kernel_rfl) (by kernel_rfl) (by kernel_rfl) (by kernel_rfl) (says_sc Try.underlying75 (by kernel_rfl))
theorem ok76 : (Θ 76).ok Try.prog 76 := ok_of (v := .nilFunc) (by kernel_rfl) (by kernel_rfl) (by kernel_rfl) (by kernel_rfl) (says_sc Try.underlying76 (by kernel_rfl))
theorem ok77 : (Θ 77).ok Try.prog 77 := ok_of (v := .int .u64 0) (by kernel_rfl) (by kernel_rfl) (by kernel_rfl) (by kernel_rfl) (says_sc Try.underlying77 (by kernel_rfl))
theorem ok79 : (Θ 79).ok Try.prog 79 := ok_of (v := .nilFunc) (by kernel_rfl) (by kernel_rfl) (by kernel_rfl) (by kernel_rfl) (says_sc Try.underlying79 (by kernel_rfl))
theorem ok80 : (Θ 80).ok Try.prog 80 := ok_of (v := .int .u32 0) (by kernel_rfl) (by kernel_rfl) (by kernel_rfl) (by kernel_rfl) (says_sc Try.underlying80 (by kernel_rfl))
theorem ok82 : (Θ 82).ok Try.prog 82 := ok_of (v := .nilFunc) (by kernel_rfl) (by kernel_rfl) (by kernel_rfl) (by kernel_rfl) (says_sc Try.underlying82 (by kernel_rfl))
theorem ok83 : (Θ 83).ok Try.prog 83 := ok_of (v := .int .u64 0) (by kernel_rfl) (by kernel_rfl) (by kernel_rfl) (by kernel_rfl) (says_sc Try.underlying83 (by kernel_rfl))
theorem ok85 : (Θ 85).ok Try.prog 85 := ok_of (v := .nilFunc) (by kernel_rfl) (by kernel_rfl) (by kernel_rfl) (by kernel_rfl) (says_sc Try.underlying85 (by kernel_rfl))
theorem ok86 : (Θ 86).ok Try.prog 86 := ok_of (v := .nilFunc) (by kernel_rfl) (by kernel_rfl) (by kernel_rfl) (by kernel_rfl) (says_sc Try.underlying86 (by kernel_rfl))
theorem ok87 : (Θ 87).ok Try.prog 87 := ok_of (v := .agg #[.pointer none, .pointer none, .pointer none, .string ⟨#[]⟩]) (by kernel_rfl) (by kernel_rfl) (by kernel_rfl) (by kernel_rfl) (says_st Try.underlying87 (by kernel_rfl) (by kernel_rfl))
theorem ok88 : (Θ 88).ok Try.prog 88 := ok_of (v := .agg #[.pointer none, .pointer none, .pointer none, .string ⟨#[]⟩]) (by kernel_rfl) (by kernel_rfl) (by kernel_rfl) (by kernel_rfl) (says_st Try.underlying88 (by kernel_rfl) (by kernel_rfl))
theorem ok92 : (Θ 92).ok Try.prog 92 := ok_of (v := .nilFunc) (by kernel_rfl) (by kernel_rfl) (by kernel_rfl) (by kernel_rfl) (says_sc Try.underlying92 (by kernel_rfl))
theorem ok93 : (Θ 93).ok Try.prog 93 := ok_of (v := .int .u8 0) (by kernel_rfl) (by kernel_rfl) (by kernel_rfl) (by kernel_rfl) (says_sc Try.underlying93 (by kernel_rfl))
theorem ok94 : (Θ 94).ok Try.prog 94 := ok_of (v := .int .u8 0) (by kernel_rfl) (by kernel_rfl) (by kernel_rfl) (by kernel_rfl) (says_sc Try.underlying94 (by kernel_rfl))
theorem ok95 : (Θ 95).ok Try.prog 95 := ok_of (v := .nilFunc) (by kernel_rfl) (by kernel_rfl) (by kernel_rfl) (by kernel_rfl) (says_sc Try.underlying95 (by kernel_rfl))
theorem ok96 : (Θ 96).ok Try.prog 96 := ok_of (v := .pointer none) (by kernel_rfl) (by kernel_rfl) (by kernel_rfl) (by kernel_rfl) (says_sc Try.underlying96 (by kernel_rfl))
theorem ok97 : (Θ 97).ok Try.prog 97 := ok_of (v := .int .i32 0) (by kernel_rfl) (by kernel_rfl) (by kernel_rfl) (by kernel_rfl) (says_sc Try.underlying97 (by kernel_rfl))
theorem ok98 : (Θ 98).ok Try.prog 98 := ok_of (v := .int .i32 0) (by kernel_rfl) (by kernel_rfl) (by kernel_rfl) (by kernel_rfl) (says_sc Try.underlying98 (by kernel_rfl))
theorem ok99 : (Θ 99).ok Try.prog 99 := ok_of (v := .agg #[.int .u64 0, .int .u64 0, .int .u32 0, .int .u8 0, .int .u8 0, .int .u8 0, .int .u8 0, .nilFunc, .pointer none, .int .i32 0, .int .i32 0]) (by kernel_rfl) (by kernel_rfl) (by kernel_rfl) (by kernel_rfl) (says_st Try.underlying99 (by kernel_rfl) (by kernel_rfl))
theorem ok100 : (Θ 100).ok Try.prog 100 := ok_of (v := .agg #[.int .u64 0, .int .u64 0, .int .u32 0, .int .u8 0, .int .u8 0, .int .u8 0, .int .u8 0, .nilFunc, .pointer none, .int .i32 0, .int .i32 0]) (by kernel_rfl) (by kernel_rfl) (by kernel_rfl) (by kernel_rfl) (says_st Try.underlying100 (by kernel_rfl) (by kernel_rfl))
theorem ok101 : (Θ 101).ok Try.prog 101 := ok_of (v := .nilFunc) (by kernel_rfl) (by kernel_rfl) (by kernel_rfl) (by kernel_rfl) (says_sc Try.underlying101 (by kernel_rfl))
theorem ok103 : (Θ 103).ok Try.prog 103 := ok_of (v := .int .i64 0) (by kernel_rfl) (by kernel_rfl) (by kernel_rfl) (by kernel_rfl) (says_sc Try.underlying103 (by kernel_rfl))

theorem agree : Agree Try.prog Θ := by
  intro T hk
  unfold Θ at hk
  split at hk
  · exact ok1
  · exact ok2
  · exact ok3
  · exact ok4
  · exact ok5
  · exact ok6
  · exact ok7
  · exact ok8
  · exact ok9
  · exact ok10
  · exact ok11
  · exact ok12
  · exact ok13
  · exact ok14
  · exact ok15
  · exact ok16
  · exact ok17
  · exact ok18
  · exact ok19
  · exact ok20
  · exact ok21
  · exact ok22
  · exact ok23
  · exact ok24
  · exact ok25
  · exact ok26
  · exact ok28
  · exact ok29
  · exact ok30
  · exact ok31
  · exact ok33
  · exact ok34
  · exact ok35
  · exact ok36
  · exact ok38
  · exact ok39
  · exact ok40
  · exact ok41
  · exact ok43
  · exact ok44
  · exact ok45
  · exact ok46
  · exact ok47
  · exact ok48
  · exact ok49
  · exact ok50
  · exact ok51
  · exact ok52
  · exact ok53
  · exact ok54
  · exact ok55
  · exact ok56
  · exact ok57
  · exact ok58
  · exact ok59
  · exact ok60
  · exact ok61
  · exact ok62
  · exact ok63
  · exact ok64
  · exact ok65
  · exact ok66
  · exact ok67
  · exact ok68
  · exact ok69
  · exact ok70
  · exact ok71
  · exact ok72
  · exact ok73
  · exact ok74
  · exact ok75
  · exact ok76
  · exact ok77
  · exact ok79
  · exact ok80
  · exact ok82
  · exact ok83
  · exact ok85
  · exact ok86
  · exact ok87
  · exact ok88
  · exact ok92
  · exact ok93
  · exact ok94
  · exact ok95
  · exact ok96
  · exact ok97
  · exact ok98
  · exact ok99
  · exact ok100
  · exact ok101
  · exact ok103
  · cases hk

theorem callAll : (List.range 41).all (fun f => decide (f < 3) || match Try.prog.funcs[f]? with | some fn => !(fn.name == "runtime.NumGoroutine") && !fn.body.isNone | none => false) = true := by kernel_rfl
theorem callable {f : Nat} (h : 3 ≤ f ∧ f < 41) : Callable Try.prog f := by
  have h1 := List.all_eq_true.1 callAll f (List.mem_range.2 h.2)
  have h0 : ¬ f < 3 := by omega
  simp only [h0, decide_false, Bool.false_or] at h1
  split at h1
  · next fn hf =>
    simp only [Bool.and_eq_true, Bool.not_eq_true'] at h1
    exact ⟨fn, hf, h1.1, h1.2⟩
  · cases h1

theorem mixed : Try.prog.follows .mixedOrders = true := by kernel_rfl

end Go.Proofs.Ytopmpbdjnkomoaa
