/- Frames when what is there is changed: what is kept, what is forgotten. No conditions. -/
import Derived.Test.YtopmpbdjnkomoaaK8
namespace Go.Dat

variable [Tables]

variable {P : Program} {Θ : TypeId → TI} {n : Nat} {ρ ρ' ρ'' : Nat → Tag} {w w' w'' : World} {tmps tmps' : Array Value} {E E' : Nat → Slot} {t : Nat} {u : Value}

/-- What a step leaves: all that is shared, and all that is nobody's here. -/
structure Fr (ρ : Nat → Tag) (w : World) (ρ' : Nat → Tag) (w' : World) : Prop where
  shd : ∀ b, ρ b = .sh → ρ' b = .sh
  oth : ∀ b, b < w.heap.size → ρ b = .other → ρ' b = .other
  old : ∀ b, b < w.heap.size → (ρ b = .sh ∨ ρ b = .other) → w'.heap[b]? = w.heap[b]?
  os : w'.os = w.os
  tape : w'.tape = w.tape
  output : w'.output = w.output
  size : w.heap.size ≤ w'.heap.size

omit [Tables] in
theorem Fr.refl (ρ : Nat → Tag) (w : World) : Fr ρ w ρ w := ⟨fun _ h => h, fun _ _ h => h, fun _ _ _ => rfl, rfl, rfl, rfl, Nat.le_refl _⟩

omit [Tables] in
theorem Fr.trans (h : Fr ρ w ρ' w') (k : Fr ρ' w' ρ'' w'') : Fr ρ w ρ'' w'' := by
  refine ⟨fun b hb => k.shd b (h.shd b hb), fun b hl hb => k.oth b (Nat.lt_of_lt_of_le hl h.size) (h.oth b hl hb), fun b hl hb => ?_, k.os.trans h.os, k.tape.trans h.tape, k.output.trans h.output, Nat.le_trans h.size k.size⟩
  rw [k.old b (Nat.lt_of_lt_of_le hl h.size) (hb.imp (h.shd b) (h.oth b hl)), h.old b hl hb]

omit [Tables] in
theorem Grow.fr (g : Grow ρ w ρ' w') : Fr ρ w ρ' w' :=
  ⟨fun b hb => by rw [g.keep b (by simp [hb]), hb], fun b hl hb => by rw [(g.old b hl).1, hb], fun b hl _ => (g.old b hl).2, g.os, g.tape, g.output, g.size⟩

/-- The slot that a slot refers to. -/
def refers : Slot → Option Nat
  | .ref s _ => some s
  | .view s _ => some s
  | .elt s _ _ _ => some s
  | .sub s _ _ _ => some s
  | _ => none

def isWk : Slot → Bool
  | .wk _ => true
  | _ => false

theorem RS.keep {k : Nat} {s : Slot} (hI : Inv n ρ w tmps E) (h : RS ρ w tmps E k u s) (hs : ∀ b, ρ b = .sh → ρ' b = .sh ∧ w'.heap[b]? = w.heap[b]?)
    (ho : ∀ b r, ρ b = .sl k r → ρ' b = .sl k r ∧ w'.heap[b]? = w.heap[b]?) (hb : ∀ b, ρ b = .bx k → ρ' b = .bx k ∧ w'.heap[b]? = w.heap[b]?)
    (hr : ∀ s', refers s = some s' → E' s' = E s' ∧ tmps'.getD s' undef = tmps.getD s' undef ∧ ∀ b, ρ b = .bx s' → w'.heap[b]? = w.heap[b]?)
    (hk : isWk s = false ∨ ((∀ b, b < w.heap.size → w'.heap[b]? = w.heap[b]?) ∧ w.heap.size ≤ w'.heap.size)) : RS ρ' w' tmps' E' k u s := by
  have own : ∀ {s' p nl e es xs v}, refers s = some s' → OwnAt w tmps E s' p nl e es xs v → OwnAt w' tmps' E' s' p nl e es xs v := by
    intro s' p nl e es xs v h1 h2
    obtain ⟨g1, g2, g3⟩ := hr s' h1
    rcases h2.same hI g3 with ⟨q1, q2, q3⟩ | ⟨x, b, q1, q2, q3, q4, q5⟩
    · exact .inl ⟨by rw [g1, q1], q2, by rw [g2, q3]⟩
    · exact .inr ⟨x, b, by rw [g1, q1], q2, q3, by rw [g2, q4], q5⟩
  cases s with
  | un => trivial
  | no => exact h
  | d x => exact RV.mono hs ho h
  | box x =>
    obtain ⟨b, cs, h1, h2, ⟨e, h3⟩, h4⟩ := h
    exact ⟨b, cs, h1, (hb b h2).1, ⟨e, by rw [(hb b h2).2, h3]⟩, RB.mono hs x (fun b r hb => by simpa using ho b r (by simpa using hb)) h4⟩
  | ref s p =>
    obtain ⟨x, b, h1, h2, h3, h4⟩ := h
    obtain ⟨g1, g2, _⟩ := hr s rfl
    exact ⟨x, b, by rw [g1, h1], h2, by rw [g2, h3], h4⟩
  | view s p =>
    obtain ⟨nl, e, es, xs, h1⟩ := h
    exact ⟨nl, e, es, xs, own rfl h1⟩
  | elt s p i q =>
    obtain ⟨nl, e, es, xs, g, l, c, h1, h2⟩ := h
    exact ⟨nl, e, es, xs, g, l, c, own rfl h1, h2⟩
  | sub s p i j =>
    obtain ⟨nl, e, es, xs, g, l, c, h1, h2⟩ := h
    exact ⟨nl, e, es, xs, g, l, c, own rfl h1, h2⟩
  | wk x =>
    rcases hk with hk | ⟨h1, h2⟩
    · cases hk
    · exact WV.mono h1 h2 h

/-- Some slots are forgotten, and none is kept that refers to one of these. -/
def Less (E' E : Nat → Slot) : Prop := ∀ u, E' u = .un ∨ (E' u = E u ∧ ∀ s, refers (E u) = some s → E' s = E s)

theorem Inv.less (hI : Inv n ρ w tmps E) (h : Less E' E) : Inv n ρ w tmps E' := by
  refine ⟨hI.size, hI.lt, hI.tab, fun k => ?_⟩
  rcases h k with h1 | ⟨h1, h2⟩
  · rw [h1]; trivial
  · rw [h1]
    exact (hI.slot k).keep hI (fun b hb => ⟨hb, rfl⟩) (fun b r hb => ⟨hb, rfl⟩) (fun b hb => ⟨hb, rfl⟩) (fun s' hs' => ⟨h2 s' hs', rfl, fun _ _ => rfl⟩) (.inr ⟨fun _ _ => rfl, Nat.le_refl _⟩)

/-- Slots of which f is true are forgotten; so is what may lie anywhere. -/
def kill (f : Slot → Bool) (E : Nat → Slot) : Nat → Slot := fun u => if f (E u) || isWk (E u) then .un else E u

omit [Tables] in
theorem kill_nwk {f : Slot → Bool} {E : Nat → Slot} {u : Nat} : isWk (kill f E u) = false := by
  unfold kill
  split
  · rfl
  · next h => simp only [Bool.or_eq_true, not_or, Bool.not_eq_true] at h; exact h.2

omit [Tables] in
theorem isWk_owner {s : Slot} (h : owner s = true) : isWk s = false := by cases s <;> first | rfl | cases h

theorem kill_less {f : Slot → Bool} (hf : ∀ s, f s = true → owner s = false) (hI : Inv n ρ w tmps E) : Less (kill f E) E := by
  intro u
  unfold kill
  by_cases h0 : isWk (E u) = true
  · exact .inl (by simp [h0])
  by_cases h : f (E u) = true
  · exact .inl (by simp [h])
  · refine .inr ⟨by simp [h, h0], fun s hs => ?_⟩
    have ho : owner (E s) = true := by
      have := hI.slot u
      cases hE : E u with
      | ref s' p =>
        rw [hE] at this hs
        obtain ⟨x, b, h1, _⟩ := this
        simp only [refers, Option.some.injEq] at hs
        subst hs
        simp [h1, owner]
      | view s' p =>
        rw [hE] at this hs
        obtain ⟨nl, e, es, xs, h1⟩ := this
        simp only [refers, Option.some.injEq] at hs
        subst hs
        rcases h1 with ⟨h1, _⟩ | ⟨x, b, h1, _⟩ <;> simp [h1, owner]
      | elt s' p i q =>
        rw [hE] at this hs
        obtain ⟨nl, e, es, xs, g, l, c, h1, _⟩ := this
        simp only [refers, Option.some.injEq] at hs
        subst hs
        rcases h1 with ⟨h1, _⟩ | ⟨x, b, h1, _⟩ <;> simp [h1, owner]
      | sub s' p i q =>
        rw [hE] at this hs
        obtain ⟨nl, e, es, xs, g, l, c, h1, _⟩ := this
        simp only [refers, Option.some.injEq] at hs
        subst hs
        rcases h1 with ⟨h1, _⟩ | ⟨x, b, h1, _⟩ <;> simp [h1, owner]
      | _ => rw [hE] at hs; simp [refers] at hs
    have hn : ¬ f (E s) = true := fun h => by rw [hf _ h] at ho; cases ho
    simp [hn, isWk_owner ho]

def refersTo (t : Nat) (s : Slot) : Bool := refers s == some t

omit [Tables] in
theorem refersTo_owner {t : Nat} (s : Slot) (h : refersTo t s = true) : owner s = false := by
  cases s <;> simp_all [refersTo, refers, owner]

/-- Forgetting all that refers to a slot. -/
def free (t : Nat) (E : Nat → Slot) : Nat → Slot := kill (refersTo t) E

omit [Tables] in
theorem free_ne {t k : Nat} : refers (free t E k) ≠ some t := by
  unfold free kill
  split
  · simp [refers]
  · next h =>
    simp only [Bool.or_eq_true, not_or] at h
    simpa [refersTo] using h.1

omit [Tables] in
theorem free_refers {t k s : Nat} (h : refers (free t E k) = some s) : refers (E k) = some s := by
  unfold free kill at h
  split at h
  · simp [refers] at h
  · exact h

omit [Tables] in
theorem free_owner {t k : Nat} (h : owner (E k) = true) : free t E k = E k := by
  unfold free kill
  have : refersTo t (E k) = false := by cases hE : E k <;> simp_all [refersTo, refers, owner]
  simp [this, isWk_owner h]

theorem Inv.free (hI : Inv n ρ w tmps E) (t : Nat) : Inv n ρ w tmps (free t E) := hI.less (kill_less (fun s h => refersTo_owner s h) hI)

/-! ### Places in data -/

omit [Tables] in
theorem getD_set_eq {ds : List D} {i : Nat} {y : D} (h : i < ds.length) : (ds.set i y).getD i un = y := by
  simp [h]

omit [Tables] in
theorem getD_set_ne {ds : List D} {i j : Nat} {y : D} (h : i ≠ j) : (ds.set i y).getD j un = ds.getD j un := by
  simp [List.getElem?_set_ne h]

omit [Tables] in
/-- A place that does not lie below p stays, if what is put there is as large. -/
theorem D.set_keep {y : D} : ∀ (p : List Nat) (d : D) (q : List Nat), d.okp p → y.size = (d.get p).size → ¬ p <+: q → d.okp q →
    (d.set p y).okp q ∧ (d.set p y).off q = d.off q ∧ (¬ q <+: p → (d.set p y).get q = d.get q)
  | [], d, q, _, _, hn, _ => absurd (List.nil_prefix) hn
  | i :: p, .st ds, [], _, _, _, _ => by simp [D.okp, D.off, D.set]
  | i :: p, .arr es ds, [], _, _, _, _ => by simp [D.okp, D.off, D.set]
  | i :: p, .st ds, j :: q, hp, hs, hn, hq => by
    simp only [D.okp] at hp hq
    simp only [D.get] at hs
    have hsz : ∀ (k : Nat), sizes ((ds.set i ((ds.getD i un).set p y)).take k) = sizes (ds.take k) := by
      have he := D.set_size p (ds.getD i un) hp.2 hs
      exact fun k => sizes_set ds i k hp.1 he
    by_cases hij : i = j
    · subst hij
      obtain ⟨h1, h2, h3⟩ := D.set_keep p (ds.getD i un) q hp.2 hs (fun h => hn (by simpa using h)) hq.2
      simp only [D.set, D.okp, D.off, D.get, getD_set_eq hp.1, List.length_set]
      exact ⟨⟨hp.1, h1⟩, by rw [hsz, h2], fun hk => h3 (fun h => hk (by simpa using h))⟩
    · simp only [D.set, D.okp, D.off, D.get, getD_set_ne hij, List.length_set]
      exact ⟨hq, by rw [hsz], fun _ => trivial⟩
  | i :: p, .arr es ds, j :: q, hp, hs, hn, hq => by
    simp only [D.okp] at hp hq
    simp only [D.get] at hs
    by_cases hij : i = j
    · subst hij
      obtain ⟨h1, h2, h3⟩ := D.set_keep p (ds.getD i un) q hp.2 hs (fun h => hn (by simpa using h)) hq.2
      simp only [D.set, D.okp, D.off, D.get, getD_set_eq hp.1, List.length_set]
      exact ⟨⟨hp.1, h1⟩, by rw [h2], fun hk => h3 (fun h => hk (by simpa using h))⟩
    · simp only [D.set, D.okp, D.off, D.get, getD_set_ne hij, List.length_set]
      exact ⟨hq, trivial, fun _ => trivial⟩
  | _ :: _, .v _, _, hp, _, _, _ => by simp [D.okp] at hp
  | _ :: _, .lst _ _ _, _, hp, _, _, _ => by simp [D.okp] at hp
  | _ :: _, .own _ _ _ _, _, hp, _, _, _ => by simp [D.okp] at hp
  | _ :: _, .fn _ _ _, _, hp, _, _, _ => by simp [D.okp] at hp
  | _ :: _, .pt _, _, hp, _, _, _ => by simp [D.okp] at hp
  | _ :: _, .dead _, _, hp, _, _, _ => by simp [D.okp] at hp
  | _ :: _, .tup _, _, hp, _, _, _ => by simp [D.okp] at hp
where
  sizes_set : ∀ (ds : List D) (i k : Nat) {z : D}, i < ds.length → z.size = (ds.getD i un).size → sizes ((ds.set i z).take k) = sizes (ds.take k)
    | [], _, _, _, h, _ => by simp at h
    | d :: ds, 0, k, z, _, h => by cases k <;> simp_all [sizes]
    | d :: ds, i + 1, k, z, hi, h => by
      cases k with
      | zero => simp [sizes]
      | succ k => simp only [List.set_cons_succ, List.take_succ_cons, sizes]; rw [sizes_set ds i k (by simpa using hi) (by simpa using h)]
  D.set_size {y : D} : ∀ (p : List Nat) (d : D), d.okp p → y.size = (d.get p).size → (d.set p y).size = d.size
    | [], d, _, h => by simpa [D.set, D.get] using h
    | i :: p, .st ds, hp, h => by
      simp only [D.okp] at hp
      simp only [D.get] at h
      have he := D.set_size p (ds.getD i un) hp.2 h
      have := sizes_set ds i (ds.length) hp.1 he
      simp only [D.set, D.size]
      rw [List.take_of_length_le (by simp), List.take_of_length_le (by simp)] at this
      exact this
    | i :: p, .arr es ds, _, _ => by simp [D.set, D.size]
    | _ :: _, .v _, hp, _ => by simp [D.okp] at hp
    | _ :: _, .lst _ _ _, hp, _ => by simp [D.okp] at hp
    | _ :: _, .own _ _ _ _, hp, _ => by simp [D.okp] at hp
    | _ :: _, .fn _ _ _, hp, _ => by simp [D.okp] at hp
    | _ :: _, .pt _, hp, _ => by simp [D.okp] at hp
    | _ :: _, .dead _, hp, _ => by simp [D.okp] at hp
    | _ :: _, .tup _, hp, _ => by simp [D.okp] at hp

end Go.Dat
