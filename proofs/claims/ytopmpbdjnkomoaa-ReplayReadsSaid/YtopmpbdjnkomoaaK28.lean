/- What is read at a call's start, with ranges and lengths; arguments. No conditions. -/
import Derived.Test.YtopmpbdjnkomoaaK27
import Derived.OpenShut
import Derived.WideShapes
import Derived.ChangeShapes
import Derived.ChangeMaps5
import Derived.RowKit
namespace Go.Dat

variable [Tables]
open Go.Deep

variable {P : Program} {Θ : TypeId → TI}

omit [Tables] in
theorem Opens.intR {T : TypeId} {k : IntKind} (ht : P.underlying T = some (.int k)) : Opens P T (fun n : {n : Int // k.min ≤ n ∧ n ≤ k.max} => D.v (.int k n.1)) := by
  intro H enc w spare held fuel cs x h
  obtain ⟨n, rfl, _, hw⟩ := DataW.trod_int ht h
  simp only [Lit.wf, Bool.and_eq_true, decide_eq_true_eq] at hw
  exact ⟨⟨n, hw⟩, by simp [Rp, Value.oneCell']⟩

omit [Tables] in
theorem Opens.string {T : TypeId} (ht : P.underlying T = some .string) : Opens P T (fun s : {s : ByteArray // s.size ≤ 9223372036854775807} => D.v (.string s.1)) := by
  intro H enc w spare held fuel cs x h
  obtain ⟨s, rfl, _, hs⟩ := DataW.trod_string ht h
  exact ⟨⟨s, by unfold maxLen at hs; omega⟩, by simp [Rp, Value.oneCell']⟩

omit [Tables] in
theorem Opens.sliceB {T e es : Nat} {α : Type} {f : α → D} (ht : P.underlying T = some (.slice e)) (he : Opens P e f) (hc : P.cellsOf e = es) (hs : 0 < es) :
    Opens P T (fun l : {l : List α // l.length ≤ 9223372036854775807} => D.lst .any es (l.1.map f)) := by
  intro H enc w spare held fuel cs x h
  obtain ⟨l, hl⟩ := Opens.slice ht he hc hs h
  refine ⟨⟨l, ?_⟩, hl⟩
  have e2 := hl
  simp only [Rp] at e2
  obtain ⟨a, len, cap, q1, q2, _⟩ := e2
  have q3 : len = l.length := by simpa [Hdr] using q2.1
  rcases open_slice ht h with ⟨hcs, _⟩ | ⟨_, _, _, _, _, _, _, hcs, _, hle, hcap, _⟩
  · rw [q1] at hcs
    simp at hcs
    omega
  · rw [q1] at hcs
    simp at hcs
    unfold maxLen at hcap
    omega

omit [Tables] in
theorem Opens.arr {T e es n : Nat} {α : Type} {f : α → D} (ht : P.underlying T = some (.array n e)) (he : Opens P e f) (hc : P.cellsOf e = es) (hT : P.cellsOf T = n * es) :
    Opens P T (fun l : {l : List α // l.length = n} => D.arr es (l.1.map f)) := by
  intro H enc w spare held fuel cs x h
  obtain ⟨xs, m, _, _, hl, hlen, hf⟩ := DataW.trod_array ht h
  rw [hT] at hl
  have key : ∀ k, k ≤ n → ∃ l : List α, l.length = k ∧ Rpa (fun b => b < w.heap.size) w es (l.map f) (cs.drop ((n - k) * es)) := by
    intro k
    induction k with
    | zero => exact fun _ => ⟨[], rfl, by simp only [List.map_nil, Rpa]; exact List.drop_eq_nil_of_le (by simp [hl])⟩
    | succ k ih =>
      intro hk
      obtain ⟨l, g1, g2⟩ := ih (by omega)
      have hi : n - (k + 1) < n := by omega
      obtain ⟨y, hy⟩ : ∃ y, xs[n - (k + 1)]? = some y := ⟨xs[n - (k + 1)]'(by rw [hlen]; exact hi), by simp⟩
      have h1 := hf (n - (k + 1)) hi
      rw [hy, hc] at h1
      obtain ⟨a, ha⟩ := he h1
      refine ⟨a :: l, by simp [g1], ?_⟩
      simp only [List.map_cons, Rpa]
      have hoff : (n - k) * es = (n - (k + 1)) * es + es := by
        have : n - k = (n - (k + 1)) + 1 := by omega
        rw [this, Nat.succ_mul]
      have hle : (n - (k + 1)) * es + es ≤ n * es := by
        rw [← hoff]; exact Nat.mul_le_mul_right _ (by omega)
      refine ⟨_, _, ?_, ?_, ha, g2⟩
      · rw [hoff, ← List.drop_drop, List.take_append_drop]
      · simp [hl]; omega
  obtain ⟨l, g1, g2⟩ := key n (Nat.le_refl _)
  exact ⟨⟨l, g1⟩, by simp only [Rp]; simpa using g2⟩

/-! ### Arguments -/

open Go.WideShapes Go.ChangeShapes Go.RowKit

section
variable {H : Type} {enc : TypeId × Value → H} {w : World} {v : Value} {d : DataW H} {ps : List MemPlace} {base : Nat} {T : TypeId} {α : Type} {f : α → D}

omit [Tables] in
theorem Opens.cell (h : Opens P T f) (hf : ∀ a, (f a).isAgg = false) (hv : v.cells.toList = [v]) (ht : DataW.Trod enc P w 0 (fun _ => true) true T v d ps) : ∃ a, RD (fun b => b < w.heap.size) w (f a) v := by
  obtain ⟨fuel, ht⟩ := ht
  obtain ⟨a, ha⟩ := h ht
  refine ⟨a, _, ha, ?_⟩
  rw [hv]
  exact VC.ofOne (hf a)

omit [Tables] in
theorem Opens.agg {cs : Array Value} (h : Opens P T f) (hf : ∀ a, (f a).isAgg = true) (hv : v = .agg cs) (ht : DataW.Trod enc P w 0 (fun _ => true) true T v d ps) : ∃ a, RD (fun b => b < w.heap.size) w (f a) v := by
  obtain ⟨fuel, ht⟩ := ht
  obtain ⟨a, ha⟩ := h ht
  subst hv
  refine ⟨a, _, ha, ?_⟩
  have := VC.ofAgg (cs := (Value.agg cs).cells.toList) (hf a)
  simpa [Value.cells] using this

omit [Tables] in
theorem Opens.argI {k : IntKind} (h : Opens P T f) (hf : ∀ a, (f a).isAgg = false) (hu : P.underlying T = some (.int k)) (hv : Value.okWide P w .any base T v) (ht : DataW.Trod enc P w 0 (fun _ => true) true T v d ps) : ∃ a, RD (fun b => b < w.heap.size) w (f a) v := by
  obtain ⟨n, rfl⟩ := okWide_int hu hv
  exact h.cell hf rfl ht
omit [Tables] in
theorem Opens.argStr (h : Opens P T f) (hf : ∀ a, (f a).isAgg = false) (hu : P.underlying T = some .string) (hv : Value.okWide P w .any base T v) (ht : DataW.Trod enc P w 0 (fun _ => true) true T v d ps) : ∃ a, RD (fun b => b < w.heap.size) w (f a) v := by
  obtain ⟨n, rfl⟩ := okWide_string hu hv
  exact h.cell hf rfl ht
omit [Tables] in
theorem Opens.argSl {e : TypeId} (h : Opens P T f) (hf : ∀ a, (f a).isAgg = false) (hu : P.underlying T = some (.slice e)) (hv : Value.okWide P w .any base T v) (ht : DataW.Trod enc P w 0 (fun _ => true) true T v d ps) : ∃ a, RD (fun b => b < w.heap.size) w (f a) v := by
  obtain ⟨a, l, c, rfl⟩ := okWide_slice hu hv
  exact h.cell hf rfl ht
omit [Tables] in
theorem Opens.argSt {F : Array Field} (h : Opens P T f) (hf : ∀ a, (f a).isAgg = true) (hu : P.underlying T = some (.struct F)) (hv : Value.okWide P w .any base T v) (ht : DataW.Trod enc P w 0 (fun _ => true) true T v d ps) : ∃ a, RD (fun b => b < w.heap.size) w (f a) v := by
  obtain ⟨cs, rfl, _⟩ := okWide_struct hu hv
  exact h.agg hf rfl ht
omit [Tables] in
theorem Opens.argAr {n : Nat} {e : TypeId} (h : Opens P T f) (hf : ∀ a, (f a).isAgg = true) (hu : P.underlying T = some (.array n e)) (hv : Value.okWide P w .any base T v) (ht : DataW.Trod enc P w 0 (fun _ => true) true T v d ps) : ∃ a, RD (fun b => b < w.heap.size) w (f a) v := by
  simp only [Value.okWide, hu] at hv
  obtain ⟨cs, rfl, _⟩ := hv
  exact h.agg hf rfl ht
omit [Tables] in
theorem Rpv.ofNil {S : Nat → Prop} : Rpv S w [] [] := by simp [Rpv]
omit [Tables] in
theorem Rpv.ofCons {S : Nat → Prop} {x : D} {xs : List D} {us : List Value} (h : RD S w x v) (k : Rpv S w xs us) : Rpv S w (x :: xs) (v :: us) := by
  obtain ⟨cs, h1, h2⟩ := h
  simp only [Rpv]
  exact ⟨v, us, cs, rfl, h1, h2, k⟩
end

end Go.Dat
