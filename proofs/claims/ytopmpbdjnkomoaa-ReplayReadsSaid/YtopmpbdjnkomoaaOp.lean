/- What the arguments of replay's laws read as. No conditions. -/
import Derived.Test.YtopmpbdjnkomoaaR1
import Derived.Test.YtopmpbdjnkomoaaR3
import Derived.Test.YtopmpbdjnkomoaaK28
namespace Go.Proofs.Ytopmpbdjnkomoaa
open Go Go.Dat

theorem p3 : Opens Try.prog 3 (fun n : Int => D.v (.int .i64 n)) := Opens.int u3
theorem p2 : Opens Try.prog 2 (fun n : Int => D.v (.int .i64 n)) := Opens.int u2
theorem p4 : Opens Try.prog 4 (fun n : Bool => D.v (.bool n)) := Opens.bool u4
theorem p3r : Opens Try.prog 3 (fun n : {n : Int // IntKind.i64.min ≤ n ∧ n ≤ IntKind.i64.max} => D.v (.int .i64 n.1)) := Opens.intR u3
theorem p5r : Opens Try.prog 5 (fun n : {n : Int // IntKind.u8.min ≤ n ∧ n ≤ IntKind.u8.max} => D.v (.int .u8 n.1)) := Opens.intR Try.underlying5
theorem pV : Opens Try.prog 60 V.e := by
  refine Opens.as (Opens.struct (F := (Try.prog.fieldsOf 60).toList) (tot := 2) (by kernel_rfl) (by kernel_rfl) (OpFs.cons (c := 1) p3 ⟨by kernel_rfl, by kernel_rfl⟩ (OpFs.cons (c := 1) p2 ⟨by kernel_rfl, by kernel_rfl⟩ OpFs.nil))) fun x => ⟨⟨x.1, x.2.1⟩, rfl⟩
theorem pSt : Opens Try.prog 68 St.e := by
  refine Opens.as (Opens.struct (F := (Try.prog.fieldsOf 68).toList) (tot := 4) (by kernel_rfl) (by kernel_rfl) (OpFs.cons (c := 1) p3 ⟨by kernel_rfl, by kernel_rfl⟩ (OpFs.cons (c := 2) pV ⟨by kernel_rfl, by kernel_rfl⟩ (OpFs.cons (c := 1) p4 ⟨by kernel_rfl, by kernel_rfl⟩ OpFs.nil)))) fun x => ⟨⟨x.1, x.2.1, x.2.2.1⟩, rfl⟩
theorem pSts : Opens Try.prog 34 (fun l : List St => D.lst .any 4 (l.map St.e)) := Opens.slice (e := 68) (by kernel_rfl) pSt (by kernel_rfl) (by decide)
theorem pEn : Opens Try.prog 36 En.e := by
  refine Opens.as (Opens.struct (F := (Try.prog.fieldsOf 36).toList) (tot := 5) (by kernel_rfl) (by kernel_rfl) (OpFs.cons (c := 1) p3 ⟨by kernel_rfl, by kernel_rfl⟩ (OpFs.cons (c := 1) p4 ⟨by kernel_rfl, by kernel_rfl⟩ (OpFs.cons (c := 1) p4 ⟨by kernel_rfl, by kernel_rfl⟩
    (OpFs.cons (c := 1) pSts ⟨by kernel_rfl, by kernel_rfl⟩ (OpFs.cons (c := 1) pSts ⟨by kernel_rfl, by kernel_rfl⟩ OpFs.nil)))))) fun x => ⟨⟨x.1, x.2.1, x.2.2.1, x.2.2.2.1, x.2.2.2.2.1, .any, .any⟩, rfl⟩
theorem pVs : Opens Try.prog 22 (fun l : {l : List V // l.length ≤ 9223372036854775807} => D.lst .any 2 (l.1.map V.e)) := Opens.sliceB (e := 60) (by kernel_rfl) pV (by kernel_rfl) (by decide)
theorem pEns : Opens Try.prog 23 (fun l : {l : List En // l.length ≤ 9223372036854775807} => D.lst .any 5 (l.1.map En.e)) := Opens.sliceB (e := 36) (by kernel_rfl) pEn (by kernel_rfl) (by decide)
theorem pBs : Opens Try.prog 54 (fun l : {l : List {n : Int // IntKind.u8.min ≤ n ∧ n ≤ IntKind.u8.max} // l.length ≤ 9223372036854775807} => D.lst .any 1 (l.1.map fun n => .v (.int .u8 n.1))) := Opens.sliceB (e := 5) (by kernel_rfl) p5r (by kernel_rfl) (by decide)
end Go.Proofs.Ytopmpbdjnkomoaa
