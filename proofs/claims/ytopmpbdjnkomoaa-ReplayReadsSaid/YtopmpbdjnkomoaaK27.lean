/- What is read of the memory at a call's start is such data. No conditions. -/
import Derived.Test.YtopmpbdjnkomoaaK26
import Derived.Deep.Slices
import Derived.Below
namespace Go.Dat

variable [Tables]
open Go.Deep

variable {P : Program} {Θ : TypeId → TI}

/-- Whatever reads as a type's value is such a datum. -/
def Opens (P : Program) (T : TypeId) {α : Type} (f : α → D) : Prop :=
  ∀ {H : Type} {enc : TypeId × Value → H} {w : World} {spare : Nat → Bool} {held : Bool} {fuel : Nat} {cs : List Value} {x : DataW H × List MemPlace}, DataW.trod enc P w 0 spare held fuel T cs = some x → ∃ a : α, Rp (fun b => b < w.heap.size) w (f a) cs

omit [Tables] in
theorem Opens.int {T : TypeId} {k : IntKind} (ht : P.underlying T = some (.int k)) : Opens P T (fun n : Int => D.v (.int k n)) := by
  intro H enc w spare held fuel cs x h
  obtain ⟨n, rfl, _⟩ := DataW.trod_int ht h
  exact ⟨n, by simp [Rp, Value.oneCell']⟩

omit [Tables] in
theorem Opens.bool {T : TypeId} (ht : P.underlying T = some .bool) : Opens P T (fun n : Bool => D.v (.bool n)) := by
  intro H enc w spare held fuel cs x h
  obtain ⟨n, rfl, _⟩ := DataW.trod_bool ht h
  exact ⟨n, by simp [Rp, Value.oneCell']⟩

omit [Tables] in
theorem cell_lt {w : World} {a : Addr} {v : Value} (h : w.cell? a = some v) : a.block < w.heap.size := by
  unfold World.cell? at h
  refine Classical.byContradiction fun hn => ?_
  have : w.heap[a.block]? = none := Array.getElem?_eq_none (by omega)
  rw [this] at h
  simp at h

omit [Tables] in
theorem Opens.slice {T e es : Nat} {α : Type} {f : α → D} (ht : P.underlying T = some (.slice e)) (he : Opens P e f) (hc : P.cellsOf e = es) (hs : 0 < es) : Opens P T (fun l : List α => D.lst .any es (l.map f)) := by
  intro H enc w spare held fuel cs x h
  rcases open_slice ht h with ⟨rfl, _⟩ | ⟨a, len, cap, m, n, D', Pl, rfl, _, hl, _, hm, _, hel⟩
  · exact ⟨[], by simp only [Rp]; exact ⟨none, 0, 0, rfl, by simp [Hdr], by simp⟩⟩
  have hlm : len ≤ m := by rw [hm]; split <;> omega
  rw [hc] at hel
  have hspot : 0 < len → a.spot = none := fun h0 => by
    obtain ⟨cs', q1, _⟩ := hel 0 (by omega)
    have q3 := World.cells?_some q1
    have hc0 := q3.2.2 0 hs
    obtain ⟨v, hv⟩ : ∃ v, cs'[0]? = some v := ⟨cs'[0]'(by rw [q3.2.1]; exact hs), by simp⟩
    rw [hv, Nat.zero_mul] at hc0
    simpa [Addr.add] using World.cell?_spot hc0
  have hadd : a.spot = none → ∀ i j, ((a.add i).add j) = ⟨a.block, a.off + i + j, none⟩ := by
    intro hns i j
    obtain ⟨ab, ao, asp⟩ := a
    simp only at hns
    subst hns
    rw [Go.Deep.add_add]
    unfold Addr.add
    split
    · next h0 =>
      have h1 : i = 0 := by omega
      have h2 : j = 0 := by omega
      subst h1 h2
      rfl
    · simp [Nat.add_assoc]
  have key : ∀ k, k ≤ len → ∃ l : List α, l.length = k ∧ Rpx (fun b => b < w.heap.size) w es ⟨a.block, a.off + (len - k) * es, none⟩ (l.map f) := by
    intro k
    induction k with
    | zero => exact fun _ => ⟨[], rfl, by simp [Rpx]⟩
    | succ k ih =>
      intro hk
      obtain ⟨l, g1, g2⟩ := ih (by omega)
      obtain ⟨cs', q1, q2⟩ := hel (len - (k + 1)) (by omega)
      obtain ⟨y, hy⟩ := he q2
      have q3 := World.cells?_some q1
      have hns := hspot (by omega)
      have hcell : ∀ j v, cs'[j]? = some v → w.cell? ⟨a.block, a.off + (len - (k + 1)) * es + j, none⟩ = some v := fun j v hj => by
        have hlt : j < es := by rw [← q3.2.1]; exact (List.getElem?_eq_some_iff.1 hj).1
        have := q3.2.2 j hlt
        rw [hadd hns, hj] at this
        exact this
      refine ⟨y :: l, by simp [g1], ?_⟩
      simp only [List.map_cons, Rpx]
      refine ⟨cs', q3.2.1, trivial, ?_, Mem.ofAt hcell, hy, ?_⟩
      · have hv : cs'[0]? = some (cs'[0]'(by rw [q3.2.1]; exact hs)) := by simp
        exact cell_lt (a := ⟨a.block, _, none⟩) (hcell 0 _ hv)
      · have hoff : a.off + (len - (k + 1)) * es + es = a.off + (len - k) * es := by
          have : len - k = (len - (k + 1)) + 1 := by omega
          rw [this, Nat.succ_mul]; omega
        rw [hoff]
        exact g2
  obtain ⟨l, g1, g2⟩ := key len (Nat.le_refl _)
  refine ⟨l, ?_⟩
  simp only [Rp]
  refine ⟨some a, len, cap, rfl, ⟨by simp [g1], by simp [g1]; omega, by simp⟩, fun ad had => ?_⟩
  cases had
  by_cases h0 : len = 0
  · have : l = [] := List.eq_nil_of_length_eq_zero (by omega)
    subst this
    simp [Rpx]
  · have hns := hspot (by omega)
    obtain ⟨ab, ao, asp⟩ := a
    simp only at hns
    subst hns
    simpa using g2

/-- Structs, field by field. -/
def OpFs (P : Program) (o : Nat) (F : List Field) (tot : Nat) {γ : Type} (g : γ → List D) : Prop :=
  ∀ {H : Type} {enc : TypeId × Value → H} {w : World} {spare : Nat → Bool} {held : Bool} {n : Nat} {cs : List Value}, cs.length = tot →
    (∀ f ∈ F, ∃ x, DataW.trod enc P w 0 spare held n f.type ((cs.drop f.offset).take (P.cellsOf f.type)) = some x) → ∃ a : γ, Rps (fun b => b < w.heap.size) w (g a) (cs.drop o)

omit [Tables] in
theorem OpFs.nil {tot : Nat} : OpFs P tot [] tot (fun _ : Unit => []) := by
  intro H enc w spare held n cs hl _
  exact ⟨(), by simp only [Rps]; exact List.drop_eq_nil_of_le (by omega)⟩

omit [Tables] in
theorem OpFs.cons {o c tot : Nat} {f : Field} {F : List Field} {α γ : Type} {a : α → D} {g : γ → List D} (h : Opens P f.type a) (hc : f.offset = o ∧ P.cellsOf f.type = c) (hF : OpFs P (o + c) F tot g) :
    OpFs P o (f :: F) tot (fun x : α × γ => a x.1 :: g x.2) := by
  intro H enc w spare held n cs hl hf
  obtain ⟨x, hx⟩ := hf f (by simp)
  obtain ⟨y, hy⟩ := h hx
  obtain ⟨z, hz⟩ := hF hl (fun f' hf' => hf f' (by simp [hf']))
  rw [hc.1, hc.2] at hy
  refine ⟨(y, z), ?_⟩
  simp only [Rps]
  refine ⟨_, _, ?_, hy, hz⟩
  rw [← List.drop_drop, List.take_append_drop]

omit [Tables] in
theorem Opens.struct {T tot : Nat} {F : List Field} {γ : Type} {g : γ → List D} (ht : P.underlying T = some (.struct F.toArray)) (hc : P.cellsOf T = tot) (h : OpFs P 0 F tot g) : Opens P T (fun x : γ => D.st (g x)) := by
  intro H enc w spare held fuel cs x hx
  obtain ⟨xs, n, _, _, hl, hlen, hf⟩ := DataW.trod_struct ht hx
  obtain ⟨a, ha⟩ := h (enc := enc) (w := w) (spare := spare) (held := held) (n := n) (cs := cs) (by rw [hl, hc]) (fun f hm => by
    obtain ⟨i, hi, hfi⟩ := List.getElem_of_mem hm
    have h1 := hf i f (by simp [hi, hfi])
    have h2 : i < xs.length := by rw [hlen]; simpa using hi
    exact ⟨xs[i], by rw [h1]; simp [h2]⟩)
  exact ⟨a, by simp only [Rp]; simpa using ha⟩

omit [Tables] in
theorem Opens.as {T : Nat} {α β : Type} {f : α → D} {g : β → D} (h : Opens P T f) (k : ∀ a, ∃ b, f a = g b) : Opens P T g := by
  intro H enc w spare held fuel cs x hx
  obtain ⟨a, ha⟩ := h hx
  obtain ⟨b, hb⟩ := k a
  exact ⟨b, hb ▸ ha⟩

/-- A contract, told as the walk of a row wants it. -/
theorem DFun.walk {f : FuncId} {args : List D} {w : World} {vals : List Value} (h : DFun P f args (.v (.bool true))) (hT : TabS (fun b => b < w.heap.size) w) (hv : Rpv (fun b => b < w.heap.size) w args vals) :
    Calls P f vals.toArray w fun e w' => e = .returned (.bool true) ∧ Go.RowKit.Below w.heap.size w w' := by
  refine (h (fun b => b < w.heap.size) w vals (fun _ hb => hb) hT hv).mono ?_
  rintro e w' ⟨v, ρ', rfl, g, hr⟩
  have := ((RV.plain (x := .v (.bool true)) rfl).1 hr).v
  subst this
  exact ⟨rfl, g.os, g.tape, g.output, g.size, fun k hk => (g.old k hk).2⟩

end Go.Dat
