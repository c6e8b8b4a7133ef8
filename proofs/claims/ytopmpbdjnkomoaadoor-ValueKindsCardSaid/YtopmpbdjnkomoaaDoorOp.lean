/- What the arguments of value's laws read as. No conditions. -/
import Derived.Test.YtopmpbdjnkomoaaDoorV1
import Derived.Test.YtopmpbdjnkomoaaDoorK28
namespace Go.Proofs.YtopmpbdjnkomoaaDoor
open Go Go.Dat

theorem pIr : Opens Tryd.prog 3 (fun n : {n : Int // IntKind.i64.min ≤ n ∧ n ≤ IntKind.i64.max} => D.v (.int .i64 n.1)) := Opens.intR Tryd.underlying3
theorem pJr : Opens Tryd.prog 2 (fun n : {n : Int // IntKind.i64.min ≤ n ∧ n ≤ IntKind.i64.max} => D.v (.int .i64 n.1)) := Opens.intR Tryd.underlying2
theorem okI {n : Int} (h : IntKind.i64.min ≤ n ∧ n ≤ IntKind.i64.max) : i64ok n := by
  have h1 : IntKind.i64.min = -9223372036854775808 := by decide
  have h2 : IntKind.i64.max = 9223372036854775807 := by decide
  rw [h1, h2] at h
  exact h
theorem pStr : Opens Tryd.prog 9 (fun s : {s : ByteArray // s.size ≤ 9223372036854775807} => D.v (.string s.1)) := Opens.string Tryd.underlying9
set_option maxRecDepth 100000 in
theorem pV : Opens Tryd.prog 24 (fun v : {v : V // v.ok} => v.1.e) := by
  refine Opens.as (Opens.struct (F := (Tryd.prog.fieldsOf 24).toList) (tot := 2) (by kernel_rfl) (by kernel_rfl) (OpFs.cons (c := 1) pIr ⟨by kernel_rfl, by kernel_rfl⟩ (OpFs.cons (c := 1) pJr ⟨by kernel_rfl, by kernel_rfl⟩ OpFs.nil))) fun x => ⟨⟨⟨x.1.1, x.2.1.1⟩, okI x.1.2, okI x.2.1.2⟩, rfl⟩
set_option maxRecDepth 100000 in
theorem pW : Opens Tryd.prog 28 (fun v : {v : V // v.ok} => v.1.e) := by
  refine Opens.as (Opens.struct (F := (Tryd.prog.fieldsOf 28).toList) (tot := 2) (by kernel_rfl) (by kernel_rfl) (OpFs.cons (c := 1) pIr ⟨by kernel_rfl, by kernel_rfl⟩ (OpFs.cons (c := 1) pJr ⟨by kernel_rfl, by kernel_rfl⟩ OpFs.nil))) fun x => ⟨⟨⟨x.1.1, x.2.1.1⟩, okI x.1.2, okI x.2.1.2⟩, rfl⟩
end Go.Proofs.YtopmpbdjnkomoaaDoor
