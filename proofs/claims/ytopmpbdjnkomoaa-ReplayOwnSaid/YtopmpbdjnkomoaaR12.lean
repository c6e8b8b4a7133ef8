/- The row of ReplayOwn. No conditions. -/
import Derived.Test.YtopmpbdjnkomoaaR11
import Derived.Test.YtopmpbdjnkomoaaK27
import Derived.Test.YtopmpbdjnkomoaaRows
import Derived.WalkKit
import Derived.ProofKit
import Derived.OpenShut
import Derived.ChangeOld
namespace Go.Proofs.Ytopmpbdjnkomoaa
open Go Go.Dat

theorem o3 : Opens Try.prog 3 (fun n : Int => D.v (.int .i64 n)) := Opens.int u3
theorem o2 : Opens Try.prog 2 (fun n : Int => D.v (.int .i64 n)) := Opens.int u2
theorem o4 : Opens Try.prog 4 (fun n : Bool => D.v (.bool n)) := Opens.bool u4

theorem oV : Opens Try.prog 60 V.e := by
  refine Opens.as (Opens.struct (F := (Try.prog.fieldsOf 60).toList) (tot := 2) (by kernel_rfl) (by kernel_rfl) (OpFs.cons (c := 1) o3 ⟨by kernel_rfl, by kernel_rfl⟩ (OpFs.cons (c := 1) o2 ⟨by kernel_rfl, by kernel_rfl⟩ OpFs.nil))) fun x => ⟨⟨x.1, x.2.1⟩, rfl⟩
theorem oSt : Opens Try.prog 68 St.e := by
  refine Opens.as (Opens.struct (F := (Try.prog.fieldsOf 68).toList) (tot := 4) (by kernel_rfl) (by kernel_rfl) (OpFs.cons (c := 1) o3 ⟨by kernel_rfl, by kernel_rfl⟩ (OpFs.cons (c := 2) oV ⟨by kernel_rfl, by kernel_rfl⟩ (OpFs.cons (c := 1) o4 ⟨by kernel_rfl, by kernel_rfl⟩ OpFs.nil)))) fun x => ⟨⟨x.1, x.2.1, x.2.2.1⟩, rfl⟩
theorem oSts : Opens Try.prog 34 (fun l : List St => D.lst .any 4 (l.map St.e)) := Opens.slice (e := 68) (by kernel_rfl) oSt (by kernel_rfl) (by decide)
theorem oEn : Opens Try.prog 36 En.e := by
  refine Opens.as (Opens.struct (F := (Try.prog.fieldsOf 36).toList) (tot := 5) (by kernel_rfl) (by kernel_rfl) (OpFs.cons (c := 1) o3 ⟨by kernel_rfl, by kernel_rfl⟩ (OpFs.cons (c := 1) o4 ⟨by kernel_rfl, by kernel_rfl⟩ (OpFs.cons (c := 1) o4 ⟨by kernel_rfl, by kernel_rfl⟩
    (OpFs.cons (c := 1) oSts ⟨by kernel_rfl, by kernel_rfl⟩ (OpFs.cons (c := 1) oSts ⟨by kernel_rfl, by kernel_rfl⟩ OpFs.nil)))))) fun x => ⟨⟨x.1, x.2.1, x.2.2.1, x.2.2.2.1, x.2.2.2.2.1, .any, .any⟩, rfl⟩
theorem oVs : Opens Try.prog 22 (fun l : List V => D.lst .any 2 (l.map V.e)) := Opens.slice (e := 60) (by kernel_rfl) oV (by kernel_rfl) (by decide)
theorem oEns : Opens Try.prog 23 (fun l : List En => D.lst .any 5 (l.map En.e)) := Opens.slice (e := 36) (by kernel_rfl) oEn (by kernel_rfl) (by decide)

open Go.ChangeShapes Go.WideShapes Go.ChangeAt Go.RowKit

theorem own : ownKnob Try.prog.godebug = none := by kernel_rfl
theorem laidOut : laidOutB Try.prog = true := by kernel_rfl

/-- What an argument of a slice's type is. -/
theorem Opens.arg {T : TypeId} {α : Type} {f : α → D} {H : Type} {enc : TypeId × Value → H} {w : World} {v : Value} {d : DataW H} {ps : List MemPlace} (h : Opens Try.prog T f) (ht : DataW.Trod enc Try.prog w 0 (fun _ => true) true T v d ps) (hv : v.cells.toList = [v]) :
    ∃ a, Rp (fun b => b < w.heap.size) w (f a) [v] := by
  obtain ⟨fuel, hf⟩ := ht
  obtain ⟨a, ha⟩ := h hf
  exact ⟨a, by rw [hv] at ha; exact ha⟩

set_option maxRecDepth 100000 in
theorem lifted (os : Os) (started : os.Started) (H : Type) (enc : TypeId × Value → H) :
    ReturnsInHanded {} Try.checked os 4 .any (Rows.replayOwnSpec.pre6 enc Try.prog Try.f4 Rows.replayOwnRow.domain false) (Rows.replayOwnSpec.post enc Try.prog Try.f4 false true false false) := by
  refine returnsInHanded_of_change (C := Try.checked) own started (by kernel_rfl) Try.func4
    (ChangeSpec.witness6 (enc := enc) (C := Try.checked) false ⟨#[], #[.slice none 0 0, .slice none 0 0], []⟩ 8 (by kernel_rfl) (by kernel_rfl) (by kernel_rfl) (by kernel_rfl)) ?_
  intro W base args ds gs before hval0 hW hcnd _
  have hval : ∀ (j : Nat) t v, Try.f4.params[j]? = some t → args[j]? = some v → Value.okWide Try.prog W .any base t v := hval0
  have hW' := hW
  obtain ⟨p, q, hA0, hV, rfl, hfz, hnd⟩ := hW
  have hA : DataW.TrodAll enc Try.prog W 0 (fun _ => true) true Try.f4.params.toList args.toList ds p := hA0
  rw [Try.params4] at hA hval
  obtain ⟨v0, vs0, d0, ds0, p0, q0, hargs, rfl, rfl, h0, r0⟩ := trodAll_cons hA
  obtain ⟨v1, vs1, d1, ds1, p1, q1, rfl, rfl, rfl, h1, r1⟩ := trodAll_cons r0
  obtain ⟨rfl, rfl, rfl⟩ := trodAll_nil r1
  obtain rfl : args = #[v0, v1] := by cases args; simp_all
  obtain ⟨rfl, rfl⟩ := trodVars_none hV
  obtain ⟨a0, len0, cap0, rfl⟩ := okWide_slice Try.underlying22 (hval 0 22 v0 rfl rfl)
  obtain ⟨a1, len1, cap1, rfl⟩ := okWide_slice Try.underlying23 (hval 1 23 v1 rfl rfl)
  have k0 := h0
  have k1 := h1
  have lt0 : ∀ x ∈ p0, x.block < W.heap.size := by obtain ⟨m, hm⟩ := k0; exact DataW.trod_lt m _ _ _ hm
  have lt1 : ∀ x ∈ p1, x.block < W.heap.size := by obtain ⟨m, hm⟩ := k1; exact DataW.trod_lt m _ _ _ hm
  obtain ⟨now, e0⟩ := Opens.arg oVs h0 rfl
  obtain ⟨l, e1⟩ := Opens.arg oEns h1 rfl
  have hl : l.length ≤ 9223372036854775807 := by
    have e2 := e1
    simp only [Rp] at e2
    obtain ⟨_, _, _, q1, q2, _⟩ := e2
    simp only [List.cons.injEq, Value.slice.injEq, and_true] at q1
    obtain ⟨rfl, rfl, rfl⟩ := q1
    have q3 : len1 = l.length := by simpa [Hdr] using q2.1
    obtain ⟨fuel, hf⟩ := k1
    rcases Go.Deep.open_slice Try.underlying23 hf with ⟨hcs, _⟩ | ⟨_, _, _, _, _, _, _, hcs, _, hle, hcap, _⟩
    · simp [Value.cells] at hcs
      omega
    · simp [Value.cells] at hcs
      unfold maxLen at hcap
      omega
  have hrpv : Rpv (fun b => b < W.heap.size) W [.lst .any 2 (now.map V.e), .lst .any 5 (l.map En.e)] [.slice a0 len0 cap0, .slice a1 len1 cap1] := by
    simp only [Rpv]
    exact ⟨_, _, _, rfl, e0, rfl, _, _, _, rfl, e1, rfl, rfl⟩
  clear hA0 hval0
  refine ((c4 now l hl).walk ⟨fun _ h => h.elim, trivial⟩ hrpv).mono fun e W' ⟨he, bel⟩ => ?_
  subst he
  exact ⟨_, rfl, _, _, _, [], _, [], hW', trodAll_mk1 (shut_bool Try.underlying4 _), (trodAll_cons_mk (Below.trod laidOut (by kernel_rfl) (of_decide_eq_true (by kernel_rfl)) k0 bel lt0) (trodAll_cons_mk (Below.trod laidOut (by kernel_rfl) (of_decide_eq_true (by kernel_rfl)) k1 bel lt1) trodAll_mk0)), rfl, bel.frame _, fun h => by cases h⟩

theorem over : Rows.replayOwnRow.holds Try.pinned (OpenSpec.ofChange Rows.replayOwnSpec) :=
  OpenClaim.holds_of_wide 4 Try.f4 rfl rfl rfl rfl rfl rfl rfl ⟨rfl, rfl, rfl, rfl, rfl⟩ rfl rfl rfl rfl rfl (by kernel_rfl) Try.func4 (by kernel_rfl)
    (of_decide_eq_true (by kernel_rfl)) (by unfold Func.isWrapper; first | (rw [if_pos (by decide +kernel)]; kernel_rfl) | (rw [if_neg (by decide +kernel)]; exact ⟨rfl, rfl⟩))
    (fun os started H enc _ => lifted os started H enc)

theorem proved : Rows.ReplayOwnSaid := over
end Go.Proofs.Ytopmpbdjnkomoaa
