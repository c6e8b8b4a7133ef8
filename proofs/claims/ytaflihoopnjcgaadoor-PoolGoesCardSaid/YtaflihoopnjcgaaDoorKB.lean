/- Texts K9, K10, K11, K12, K13, K14, K15, K16, K17, K18, K19, K20 in one file. No conditions. -/
import Derived.Test.YtaflihoopnjcgaaDoorKA

namespace Go.Dat

variable [Tables]

variable {P : Program} {Θ : TypeId → TI} {n : Nat} {ρ ρ' ρ'' : Nat → Tag} {w w' w'' : World} {tmps tmps' : Array Value} {E E' : Nat → Slot} {t : Nat} {u : Value}

/-- What a step leaves: all that is shared, and all that is nobody's here. -/
structure Fr (ρ : Nat → Tag) (w : World) (ρ' : Nat → Tag) (w' : World) : Prop where
  shd : ∀ b, ρ b = .sh → ρ' b = .sh
  oth : ∀ b, b < w.heap.size → ρ b = .other → ρ' b = .other
  old : ∀ b, b < w.heap.size → (ρ b = .sh ∨ ρ b = .other) → w'.heap[b]? = w.heap[b]?
  os : w'.os = w.os
  tape : w'.tape = w.tape
  output : w'.output = w.output
  size : w.heap.size ≤ w'.heap.size

omit [Tables] in
theorem Fr.refl (ρ : Nat → Tag) (w : World) : Fr ρ w ρ w := ⟨fun _ h => h, fun _ _ h => h, fun _ _ _ => rfl, rfl, rfl, rfl, Nat.le_refl _⟩

omit [Tables] in
theorem Fr.trans (h : Fr ρ w ρ' w') (k : Fr ρ' w' ρ'' w'') : Fr ρ w ρ'' w'' := by
  refine ⟨fun b hb => k.shd b (h.shd b hb), fun b hl hb => k.oth b (Nat.lt_of_lt_of_le hl h.size) (h.oth b hl hb), fun b hl hb => ?_, k.os.trans h.os, k.tape.trans h.tape, k.output.trans h.output, Nat.le_trans h.size k.size⟩
  rw [k.old b (Nat.lt_of_lt_of_le hl h.size) (hb.imp (h.shd b) (h.oth b hl)), h.old b hl hb]

omit [Tables] in
theorem Grow.fr (g : Grow ρ w ρ' w') : Fr ρ w ρ' w' :=
  ⟨fun b hb => by rw [g.keep b (by simp [hb]), hb], fun b hl hb => by rw [(g.old b hl).1, hb], fun b hl _ => (g.old b hl).2, g.os, g.tape, g.output, g.size⟩

/-- The slot that a slot refers to. -/
def refers : Slot → Option Nat
  | .ref s _ => some s
  | .view s _ => some s
  | .elt s _ _ _ => some s
  | .sub s _ _ _ => some s
  | .mq s => some s
  | _ => none

def isWk : Slot → Bool
  | .wk _ => true
  | _ => false

theorem RS.keep {k : Nat} {s : Slot} (hI : Inv n ρ w tmps E) (h : RS ρ w tmps E k u s) (hs : ∀ b, ρ b = .sh → ρ' b = .sh ∧ w'.heap[b]? = w.heap[b]?)
    (ho : ∀ b r, ρ b = .sl k r → ρ' b = .sl k r ∧ w'.heap[b]? = w.heap[b]?) (hb : ∀ b, ρ b = .bx k → ρ' b = .bx k ∧ w'.heap[b]? = w.heap[b]?)
    (hr : ∀ s', refers s = some s' → E' s' = E s' ∧ tmps'.getD s' undef = tmps.getD s' undef ∧ ∀ b, ρ b = .bx s' → w'.heap[b]? = w.heap[b]?)
    (hk : isWk s = false ∨ ((∀ b, b < w.heap.size → w'.heap[b]? = w.heap[b]?) ∧ w.heap.size ≤ w'.heap.size)) : RS ρ' w' tmps' E' k u s := by
  have own : ∀ {s' p nl e es xs v}, refers s = some s' → OwnAt w tmps E s' p nl e es xs v → OwnAt w' tmps' E' s' p nl e es xs v := by
    intro s' p nl e es xs v h1 h2
    obtain ⟨g1, g2, g3⟩ := hr s' h1
    rcases h2.same hI g3 with ⟨q1, q2, q3⟩ | ⟨x, b, q1, q2, q3, q4, q5⟩
    · exact .inl ⟨by rw [g1, q1], q2, by rw [g2, q3]⟩
    · exact .inr ⟨x, b, by rw [g1, q1], q2, q3, by rw [g2, q4], q5⟩
  cases s with
  | un => trivial
  | no => exact h
  | d x => exact RV.mono hs ho h
  | box x =>
    obtain ⟨b, cs, h1, h2, ⟨e, h3⟩, h4⟩ := h
    exact ⟨b, cs, h1, (hb b h2).1, ⟨e, by rw [(hb b h2).2, h3]⟩, RB.mono hs x (fun b r hb => by simpa using ho b r (by simpa using hb)) h4⟩
  | ref s p =>
    obtain ⟨x, b, h1, h2, h3, h4⟩ := h
    obtain ⟨g1, g2, _⟩ := hr s rfl
    exact ⟨x, b, by rw [g1, h1], h2, by rw [g2, h3], h4⟩
  | view s p =>
    obtain ⟨nl, e, es, xs, h1⟩ := h
    exact ⟨nl, e, es, xs, own rfl h1⟩
  | elt s p i q =>
    obtain ⟨nl, e, es, xs, g, l, c, h1, h2⟩ := h
    exact ⟨nl, e, es, xs, g, l, c, own rfl h1, h2⟩
  | sub s p i j =>
    obtain ⟨nl, e, es, xs, g, l, c, h1, h2⟩ := h
    exact ⟨nl, e, es, xs, g, l, c, own rfl h1, h2⟩
  | wk x =>
    rcases hk with hk | ⟨h1, h2⟩
    · cases hk
    · exact WV.mono h1 h2 h
  | mp kk m =>
    obtain ⟨b, h1, h2, e, c, h3, h4⟩ := h
    exact ⟨b, h1, (hb b h2).1, e, c, by rw [(hb b h2).2, h3], h4⟩
  | mq s =>
    obtain ⟨kk, m, h1, h2⟩ := h
    obtain ⟨g1, g2, _⟩ := hr s rfl
    exact ⟨kk, m, by rw [g1, h1], by rw [g2]; exact h2⟩

/-- Some slots are forgotten, and none is kept that refers to one of these. -/
def Less (E' E : Nat → Slot) : Prop := ∀ u, E' u = .un ∨ (E' u = E u ∧ ∀ s, refers (E u) = some s → E' s = E s)

theorem Inv.less (hI : Inv n ρ w tmps E) (h : Less E' E) : Inv n ρ w tmps E' := by
  refine ⟨hI.size, hI.lt, hI.tab, fun k => ?_⟩
  rcases h k with h1 | ⟨h1, h2⟩
  · rw [h1]; trivial
  · rw [h1]
    exact (hI.slot k).keep hI (fun b hb => ⟨hb, rfl⟩) (fun b r hb => ⟨hb, rfl⟩) (fun b hb => ⟨hb, rfl⟩) (fun s' hs' => ⟨h2 s' hs', rfl, fun _ _ => rfl⟩) (.inr ⟨fun _ _ => rfl, Nat.le_refl _⟩)

/-- Slots of which f is true are forgotten; so is what may lie anywhere. -/
def kill (f : Slot → Bool) (E : Nat → Slot) : Nat → Slot := fun u => if f (E u) || isWk (E u) then .un else E u

omit [Tables] in
theorem kill_nwk {f : Slot → Bool} {E : Nat → Slot} {u : Nat} : isWk (kill f E u) = false := by
  unfold kill
  split
  · rfl
  · next h => simp only [Bool.or_eq_true, not_or, Bool.not_eq_true] at h; exact h.2

omit [Tables] in
theorem isWk_owner {s : Slot} (h : owner s = true) : isWk s = false := by cases s <;> first | rfl | cases h

theorem kill_less {f : Slot → Bool} (hf : ∀ s, f s = true → owner s = false) (hI : Inv n ρ w tmps E) : Less (kill f E) E := by
  intro u
  unfold kill
  by_cases h0 : isWk (E u) = true
  · exact .inl (by simp [h0])
  by_cases h : f (E u) = true
  · exact .inl (by simp [h])
  · refine .inr ⟨by simp [h, h0], fun s hs => ?_⟩
    have ho : owner (E s) = true := by
      have := hI.slot u
      cases hE : E u with
      | ref s' p =>
        rw [hE] at this hs
        obtain ⟨x, b, h1, _⟩ := this
        simp only [refers, Option.some.injEq] at hs
        subst hs
        simp [h1, owner]
      | view s' p =>
        rw [hE] at this hs
        obtain ⟨nl, e, es, xs, h1⟩ := this
        simp only [refers, Option.some.injEq] at hs
        subst hs
        rcases h1 with ⟨h1, _⟩ | ⟨x, b, h1, _⟩ <;> simp [h1, owner]
      | elt s' p i q =>
        rw [hE] at this hs
        obtain ⟨nl, e, es, xs, g, l, c, h1, _⟩ := this
        simp only [refers, Option.some.injEq] at hs
        subst hs
        rcases h1 with ⟨h1, _⟩ | ⟨x, b, h1, _⟩ <;> simp [h1, owner]
      | sub s' p i q =>
        rw [hE] at this hs
        obtain ⟨nl, e, es, xs, g, l, c, h1, _⟩ := this
        simp only [refers, Option.some.injEq] at hs
        subst hs
        rcases h1 with ⟨h1, _⟩ | ⟨x, b, h1, _⟩ <;> simp [h1, owner]
      | mq s' =>
        rw [hE] at this hs
        obtain ⟨_, m, h1, _⟩ := this
        simp only [refers, Option.some.injEq] at hs
        subst hs
        simp [h1, owner]
      | _ => rw [hE] at hs; simp [refers] at hs
    have hn : ¬ f (E s) = true := fun h => by rw [hf _ h] at ho; cases ho
    simp [hn, isWk_owner ho]

def refersTo (t : Nat) (s : Slot) : Bool := refers s == some t

omit [Tables] in
theorem refersTo_owner {t : Nat} (s : Slot) (h : refersTo t s = true) : owner s = false := by
  cases s <;> simp_all [refersTo, refers, owner]

/-- Forgetting all that refers to a slot. -/
def free (t : Nat) (E : Nat → Slot) : Nat → Slot := kill (refersTo t) E

omit [Tables] in
theorem free_ne {t k : Nat} : refers (free t E k) ≠ some t := by
  unfold free kill
  split
  · simp [refers]
  · next h =>
    simp only [Bool.or_eq_true, not_or] at h
    simpa [refersTo] using h.1

omit [Tables] in
theorem free_refers {t k s : Nat} (h : refers (free t E k) = some s) : refers (E k) = some s := by
  unfold free kill at h
  split at h
  · simp [refers] at h
  · exact h

omit [Tables] in
theorem free_owner {t k : Nat} (h : owner (E k) = true) : free t E k = E k := by
  unfold free kill
  have : refersTo t (E k) = false := by cases hE : E k <;> simp_all [refersTo, refers, owner]
  simp [this, isWk_owner h]

theorem Inv.free (hI : Inv n ρ w tmps E) (t : Nat) : Inv n ρ w tmps (free t E) := hI.less (kill_less (fun s h => refersTo_owner s h) hI)

/-! ### Places in data -/

omit [Tables] in
theorem getD_set_eq {ds : List D} {i : Nat} {y : D} (h : i < ds.length) : (ds.set i y).getD i un = y := by
  simp [h]

omit [Tables] in
theorem getD_set_ne {ds : List D} {i j : Nat} {y : D} (h : i ≠ j) : (ds.set i y).getD j un = ds.getD j un := by
  simp [List.getElem?_set_ne h]

omit [Tables] in
/-- A place that does not lie below p stays, if what is put there is as large. -/
theorem D.set_keep {y : D} : ∀ (p : List Nat) (d : D) (q : List Nat), d.okp p → y.size = (d.get p).size → ¬ p <+: q → d.okp q →
    (d.set p y).okp q ∧ (d.set p y).off q = d.off q ∧ (¬ q <+: p → (d.set p y).get q = d.get q)
  | [], d, q, _, _, hn, _ => absurd (List.nil_prefix) hn
  | i :: p, .st ds, [], _, _, _, _ => by simp [D.okp, D.off, D.set]
  | i :: p, .arr es ds, [], _, _, _, _ => by simp [D.okp, D.off, D.set]
  | i :: p, .st ds, j :: q, hp, hs, hn, hq => by
    simp only [D.okp] at hp hq
    simp only [D.get] at hs
    have hsz : ∀ (k : Nat), sizes ((ds.set i ((ds.getD i un).set p y)).take k) = sizes (ds.take k) := by
      have he := D.set_size p (ds.getD i un) hp.2 hs
      exact fun k => sizes_set ds i k hp.1 he
    by_cases hij : i = j
    · subst hij
      obtain ⟨h1, h2, h3⟩ := D.set_keep p (ds.getD i un) q hp.2 hs (fun h => hn (by simpa using h)) hq.2
      simp only [D.set, D.okp, D.off, D.get, getD_set_eq hp.1, List.length_set]
      exact ⟨⟨hp.1, h1⟩, by rw [hsz, h2], fun hk => h3 (fun h => hk (by simpa using h))⟩
    · simp only [D.set, D.okp, D.off, D.get, getD_set_ne hij, List.length_set]
      exact ⟨hq, by rw [hsz], fun _ => trivial⟩
  | i :: p, .arr es ds, j :: q, hp, hs, hn, hq => by
    simp only [D.okp] at hp hq
    simp only [D.get] at hs
    by_cases hij : i = j
    · subst hij
      obtain ⟨h1, h2, h3⟩ := D.set_keep p (ds.getD i un) q hp.2 hs (fun h => hn (by simpa using h)) hq.2
      simp only [D.set, D.okp, D.off, D.get, getD_set_eq hp.1, List.length_set]
      exact ⟨⟨hp.1, h1⟩, by rw [h2], fun hk => h3 (fun h => hk (by simpa using h))⟩
    · simp only [D.set, D.okp, D.off, D.get, getD_set_ne hij, List.length_set]
      exact ⟨hq, trivial, fun _ => trivial⟩
  | _ :: _, .v _, _, hp, _, _, _ => by simp [D.okp] at hp
  | _ :: _, .lst _ _ _, _, hp, _, _, _ => by simp [D.okp] at hp
  | _ :: _, .own _ _ _ _, _, hp, _, _, _ => by simp [D.okp] at hp
  | _ :: _, .fn _ _ _, _, hp, _, _, _ => by simp [D.okp] at hp
  | _ :: _, .pt _, _, hp, _, _, _ => by simp [D.okp] at hp
  | _ :: _, .dead _, _, hp, _, _, _ => by simp [D.okp] at hp
  | _ :: _, .tup _, _, hp, _, _, _ => by simp [D.okp] at hp
where
  sizes_set : ∀ (ds : List D) (i k : Nat) {z : D}, i < ds.length → z.size = (ds.getD i un).size → sizes ((ds.set i z).take k) = sizes (ds.take k)
    | [], _, _, _, h, _ => by simp at h
    | d :: ds, 0, k, z, _, h => by cases k <;> simp_all [sizes]
    | d :: ds, i + 1, k, z, hi, h => by
      cases k with
      | zero => simp [sizes]
      | succ k => simp only [List.set_cons_succ, List.take_succ_cons, sizes]; rw [sizes_set ds i k (by simpa using hi) (by simpa using h)]
  D.set_size {y : D} : ∀ (p : List Nat) (d : D), d.okp p → y.size = (d.get p).size → (d.set p y).size = d.size
    | [], d, _, h => by simpa [D.set, D.get] using h
    | i :: p, .st ds, hp, h => by
      simp only [D.okp] at hp
      simp only [D.get] at h
      have he := D.set_size p (ds.getD i un) hp.2 h
      have := sizes_set ds i (ds.length) hp.1 he
      simp only [D.set, D.size]
      rw [List.take_of_length_le (by simp), List.take_of_length_le (by simp)] at this
      exact this
    | i :: p, .arr es ds, _, _ => by simp [D.set, D.size]
    | _ :: _, .v _, hp, _ => by simp [D.okp] at hp
    | _ :: _, .lst _ _ _, hp, _ => by simp [D.okp] at hp
    | _ :: _, .own _ _ _ _, hp, _ => by simp [D.okp] at hp
    | _ :: _, .fn _ _ _, hp, _ => by simp [D.okp] at hp
    | _ :: _, .pt _, hp, _ => by simp [D.okp] at hp
    | _ :: _, .dead _, hp, _ => by simp [D.okp] at hp
    | _ :: _, .tup _, hp, _ => by simp [D.okp] at hp

end Go.Dat

namespace Go.Dat

variable [Tables]

variable {P : Program} {Θ : TypeId → TI} {n : Nat} {ρ ρ' ρ'' : Nat → Tag} {w w' w'' : World} {tmps tmps' : Array Value} {E E' : Nat → Slot} {t : Nat} {u : Value}

omit [Tables] in
theorem D.set_at {y : D} : ∀ (p : List Nat) (d : D), d.okp p → (d.set p y).okp p ∧ (d.set p y).off p = d.off p ∧ (d.set p y).get p = y
  | [], d, _ => by simp [D.okp, D.off, D.get, D.set]
  | i :: p, .st ds, h => by
    simp only [D.okp] at h
    obtain ⟨h1, h2, h3⟩ := D.set_at p (ds.getD i un) h.2
    simp only [D.set, D.okp, D.off, D.get, getD_set_eq h.1, List.length_set]
    refine ⟨⟨h.1, h1⟩, ?_, h3⟩
    rw [h2, List.take_set]
    congr 2
    exact List.set_eq_of_length_le (by simp; exact Nat.min_le_left _ _)
  | i :: p, .arr es ds, h => by
    simp only [D.okp] at h
    obtain ⟨h1, h2, h3⟩ := D.set_at p (ds.getD i un) h.2
    simp only [D.set, D.okp, D.off, D.get, getD_set_eq h.1, List.length_set]
    exact ⟨⟨h.1, h1⟩, by rw [h2], h3⟩
  | _ :: _, .v _, hp => by simp [D.okp] at hp
  | _ :: _, .lst _ _ _, hp => by simp [D.okp] at hp
  | _ :: _, .own _ _ _ _, hp => by simp [D.okp] at hp
  | _ :: _, .fn _ _ _, hp => by simp [D.okp] at hp
  | _ :: _, .pt _, hp => by simp [D.okp] at hp
  | _ :: _, .dead _, hp => by simp [D.okp] at hp
  | _ :: _, .tup _, hp => by simp [D.okp] at hp

/-- Places strictly below p in the box of slot s. -/
def below (s : Nat) (p : List Nat) : Slot → Bool
  | .ref s' q => s' == s && p.isPrefixOf q && !(p == q)
  | .view s' q => s' == s && p.isPrefixOf q
  | .elt s' q _ _ => s' == s && p.isPrefixOf q
  | .sub s' q _ _ => s' == s && p.isPrefixOf q
  | _ => false

omit [Tables] in
theorem below_owner {s p} (x : Slot) (h : below s p x = true) : owner x = false := by cases x <;> simp_all [below, owner]

/-- Places strictly below q in element i of the own slice in slot s. -/
def belowE (s i : Nat) (q : List Nat) : Slot → Bool
  | .elt s' _ i' q' => s' == s && i' == i && q.isPrefixOf q' && !(q == q')
  | _ => false

omit [Tables] in
theorem belowE_owner {s i q} (x : Slot) (h : belowE s i q x = true) : owner x = false := by cases x <;> simp_all [belowE, owner]

/-- A step that was proved by itself. -/
def RawOp (P : Program) (n : Nat) (E : Nat → Slot) (o : Oper) (E' : Nat → Slot) : Prop :=
  ∀ ρ w (a : Act) (Q : Exit → Act → World → Prop), Inv n ρ w a.tmps E → o.wp P a w (fun a' w' => a'.defers = a.defers ∧ ∃ ρ', Fr ρ w ρ' w' ∧ Inv n ρ' w' a'.tmps E') Q

/-- Scalars that are not what the step yields stay. -/
def Keeps (E : Nat → Slot) (o : Oper) (E1 : Nat → Slot) : Prop := ∀ d x, E d = .d (.v x) → o.dst ≠ some d → E1 d = .d (.v x)

inductive OpStep (P : Program) (Θ : TypeId → TI) (n : Nat) (E : Nat → Slot) : Oper → (Nat → Slot) → Prop
  | ev {o d s} : o.dst = some d → d < n → owner (E d) = false → Ev P Θ E o s → OpStep P Θ n E o (upd E d s)
  | asg {o d k nl e es xs} : o.dst = some d → d < n → o.op = .assign (.tmp k) → k ≠ d → E k = .d (.own nl e es xs) →
      OpStep P Θ n E o (upd (upd (free d (free k E)) k (.view d [])) d (.d (.own nl e es xs)))
  | app {o d k x s T nl e es xs ys b} : o.dst = some d → d < n → owner (E d) = false → d ≠ s → o.op = .call { callee := .builtin .append, args := #[.tmp k, x], argTypes := #[T, T] } →
      E s = .d (.own nl e es xs) → (k = s ∨ E k = .view s []) → Src E x es ys → (Θ T).td = .sl e es b → (xs.length + ys.length) * b ≤ 140737488355328 → xs.length + ys.length ≤ maxLen →
      OpStep P Θ n E o (upd (upd (free s E) s .un) d (.d (.own (nl && ys.isEmpty) e es (xs ++ ys))))
  | sto {o T k x s p X y} : o.dst = none → o.op = .store T (.tmp k) x → Adr E k s p X → OpD E x y → (Θ T).fits y = true → y.size = (X.get p).size → (X.get p).noOwn = true →
      OpStep P Θ n E o (upd (kill (below s p) E) s (.box (X.set p y)))
  | elt {o T k x s i q nl e es xs y} : o.dst = none → o.op = .store T (.tmp k) x → E k = .elt s [] i q → E s = .d (.own nl e es xs) → OpD E x y → (Θ T).fits y = true → y.size = ((xs.getD i un).get q).size →
      OpStep P Θ n E o (upd (kill (belowE s i q) E) s (.d (.own nl e es (xs.set i ((xs.getD i un).set q y)))))
  | ext {o d k i ds nl e es xs} : o.dst = some d → d < n → owner (E d) = false → d ≠ k → o.op = .extract (.tmp k) i → E k = .d (.tup ds) → i < ds.length → ds.getD i un = .own nl e es xs →
      OpStep P Θ n E o (upd (upd E k (.d (.tup (ds.set i (.dead false))))) d (.d (.own nl e es xs)))
  | raw {o E1} : RawOp P n E o E1 → Keeps E o E1 → OpStep P Θ n E o E1

/-- What follows upon a step. -/
def After (n : Nat) (ρ : Nat → Tag) (w : World) (a : Act) (E' : Nat → Slot) (a' : Act) (w' : World) : Prop :=
  a'.defers = a.defers ∧ ∃ ρ', Fr ρ w ρ' w' ∧ Inv n ρ' w' a'.tmps E'

section
variable {a : Act} {o : Oper} {Q : Exit → Act → World → Prop}

omit [Tables] in
theorem put_some {d : Nat} {v : Value} (h : o.dst = some d) : a.put o.dst v = { a with tmps := a.tmps.setIfInBounds d v } := by rw [h]; rfl

omit [Tables] in
theorem put_none {v : Value} (h : o.dst = none) : a.put o.dst v = a := by rw [h]; rfl

theorem step_ev {d : Nat} {s : Slot} (hΘ : Agree P Θ) (hI : Inv n ρ w a.tmps E) (hd : o.dst = some d) (hn : d < n) (ho : owner (E d) = false) (h : Ev P Θ E o s) :
    o.wp P a w (After n ρ w a (upd E d s)) Q := by
  refine Ev.sound (t := d) hΘ hI h Q _ fun v ρ' w' g hs => ?_
  rw [put_some hd]
  exact ⟨rfl, ρ', g.fr, (hI.grow g).put hn ho hs⟩

omit [Tables] in
theorem oper_val {v : Value} {w' : World} {K : Act → World → Prop} (h : (execOp a.eval o).run P w = .ok (.value v) w') (hK : K (a.put o.dst v) w') : o.wp P a w K Q := by
  unfold Oper.wp; rw [h]; exact hK

omit [Tables] in
theorem oper_skip {w' : World} {K : Act → World → Prop} (h : (execOp a.eval o).run P w = .ok .skip w') (hK : K (a.put o.dst undef) w') : o.wp P a w K Q := by
  unfold Oper.wp; rw [h]; exact hK

/-- Tags, when what was k's is d's, and what was d's is nobody's. -/
def retag (ρ : Nat → Tag) (k d : Nat) (b : Nat) : Tag :=
  match ρ b with
  | .sl s p => if s = k then (if p = [] then .sl d [] else .other) else if s = d then .other else .sl s p
  | .bx s => if s = d ∨ s = k then .other else .bx s
  | x => x

omit [Tables] in
theorem RV.ofOwn {nl e es xs} {v : Value} (h : ROwn ρ w (.sl t []) nl e es xs v) : RV ρ w t (.own nl e es xs) v :=
  ⟨[v], by simp only [RB]; exact ⟨v, rfl, h⟩, rfl⟩

theorem step_asg {d k nl e es xs} (hI : Inv n ρ w a.tmps E) (hd : o.dst = some d) (hn : d < n) (ho : o.op = .assign (.tmp k)) (hk : k ≠ d) (hE : E k = .d (.own nl e es xs)) :
    o.wp P a w (After n ρ w a (upd (upd (free d (free k E)) k (.view d [])) d (.d (.own nl e es xs)))) Q := by
  refine oper_val (v := a.eval (.tmp k)) (w' := w) (by simp [execOp, ho]) ?_
  rw [put_some hd]
  have hI1 := (hI.free k).free d
  have hd' : d < a.tmps.size := by rw [hI.size]; exact hn
  have hown := hI.slot k
  rw [hE] at hown
  have hrt : ∀ b x, retag ρ k d b = x → x ≠ .other → ρ b ≠ .other := by
    intro b x h hx h2
    simp [retag, h2] at h
    exact hx h.symm
  refine ⟨rfl, retag ρ k d, ⟨fun b hb => by simp [retag, hb], fun b _ hb => by simp [retag, hb], fun _ _ _ => rfl, rfl, rfl, rfl, Nat.le_refl _⟩, ?_⟩
  refine ⟨by simp [hI.size], fun b hb => hI.lt b (hrt b _ rfl hb), hI.tab.mono (fun b hb => ⟨by simp only [sh] at hb; simp [sh, retag, hb], rfl⟩), fun u => ?_⟩
  rw [getD_put _ _ _ _ hd']
  by_cases h1 : d = u
  · subst h1
    simp only [if_true, upd]
    exact RV.ofOwn ((RV.own hown).mono (fun b hb => ⟨by simp [retag, hb], rfl⟩) (fun b hb => ⟨by simp [retag, hb], rfl⟩))
  · by_cases h2 : k = u
    · subst h2
      simp only [upd, hk.symm, if_false, if_true]
      refine ⟨nl, e, es, xs, .inl ⟨by simp [upd], rfl, ?_⟩⟩
      rw [getD_put _ _ _ _ hd', if_pos rfl]
      rfl
    · simp only [upd, h1, h2, if_false]
      refine (hI1.slot u).keep hI1 (fun b hb => ⟨by simp [retag, hb], rfl⟩) (fun b r hb => ⟨?_, rfl⟩) (fun b hb => ⟨?_, rfl⟩) (fun s' hs' => ?_) (.inl kill_nwk)
      · have e1 : u ≠ k := fun h => h2 h.symm
        have e2 : u ≠ d := fun h => h1 h.symm
        simp [retag, hb, e1, e2]
      · have e1 : u ≠ k := fun h => h2 h.symm
        have e2 : u ≠ d := fun h => h1 h.symm
        simp [retag, hb, e1, e2]
      · have hd1 : s' ≠ d := by rintro rfl; exact free_ne hs'
        have hk1 : s' ≠ k := by rintro rfl; exact free_ne (free_refers hs')
        refine ⟨by simp [upd, hd1.symm, hk1.symm], ?_, fun _ _ => rfl⟩
        rw [getD_put _ _ _ _ hd', if_neg (fun h => hd1 h.symm)]


omit [Tables] in
theorem append_run {T ty e es b : Nat} {tg : Tag} {nl : Bool} {xs ys : List D} {v : Value} {ad : Option Addr} {c : Nat} {news : List Value} (h : TD.says P T (.sl e es b)) (hown : ROwn ρ w tg nl e es xs v)
    (hl : news.length = ys.length * es) (hr : Rpa (sh ρ) w es ys news) (hs : ys = [] ∨ ∃ b o, ad = some ⟨b, o, none⟩ ∧ Mem w b o news)
    (hb : (xs.length + ys.length) * b ≤ 140737488355328) (hm : xs.length + ys.length ≤ maxLen) :
    ∃ v' w' cells, (Builtin.append_ #[T, T] ty #[v, .slice ad ys.length c]).run P w = .ok v' w' ∧ w'.ownsRow 0 e es v' (xs.length + ys.length) (cells ++ news) ∧ Rpa (sh ρ) w es xs cells ∧ w.grownBy w' v.ownBlock ∧
      ((nl && ys.isEmpty) = true ↔ v' = .slice none 0 0) ∧ (∀ g, v'.ownBlock = some g → v.ownBlock = some g ∨ w.heap.size ≤ g) ∧ (∀ g, v'.ownBlock = some g → g < w'.heap.size) := by
  obtain ⟨hu, i, z, i1, i2, i3, i4, i5, i6⟩ := h
  obtain ⟨cells, ho, h2, h3, _⟩ := hown
  have hlt : ∀ {w'' : World} {v'' : Value} {m : Nat} {l : List Value}, w''.ownsRow 0 e es v'' m l → ∀ g, v''.ownBlock = some g → g < w''.heap.size := fun hh g hg => (World.ownsRow.lt hh g hg).2
  by_cases hy : ys = []
  · subst hy
    have hn : news = [] := List.eq_nil_of_length_eq_zero (by simpa using hl)
    subst hn
    refine ⟨v, w, cells, ?_, by simpa using ho, h2, ⟨rfl, rfl, rfl, Nat.le_refl _, fun _ _ _ => rfl⟩, by simpa using h3, fun g hg => .inl hg, hlt ho⟩
    rcases ho.2 with ⟨rfl, hx⟩ | ⟨g, cap, cur, rfl, _, hg, hc1, _⟩
    · cases ad <;> simp [Builtin.append_, run_underlying hu, sizeOf, typeInfo, i1, Builtin.lenOf, Builtin.firstCells, loadCells, loadCellsFrom]
    · cases ad <;> simp [Builtin.append_, run_underlying hu, sizeOf, typeInfo, i1, Builtin.lenOf, Builtin.firstCells, loadCells, loadCellsFrom, hc1, storeCells]
  · obtain ⟨b', o', rfl, hmem⟩ := hs.resolve_left hy
    have hys : 0 < ys.length := by cases ys <;> simp_all
    have hne : ys.isEmpty = false := by cases ys <;> simp_all
    have h1 : ∀ u ∈ news, u.oneCell' = true := Rp.one.row ys hr
    rcases ho.2 with ⟨rfl, hx⟩ | ⟨g, cap, cur, rfl, hbg, hg, hnc, hcm, hcs, htake⟩
    · obtain ⟨v', w', r1, r2, r3, r4⟩ := run_append_own (P := P) w w.heap.size T ty e i z es b hu i1 i4 i2 i3 i5 i6 (.slice none 0 0) xs.length cells ⟨ho.1, .inl ⟨rfl, hx⟩⟩ ⟨b', o', none⟩ ys.length c news hl (Mem.at hmem) h1 hm hb (Nat.le_refl _)
      have r5 : w'.ownsRow 0 e es v' (xs.length + ys.length) (cells ++ news) := by
        obtain ⟨q1, q2⟩ := r2
        refine ⟨q1, q2.imp id ?_⟩
        rintro ⟨g, cap, cur, q3, _, q4⟩
        exact ⟨g, cap, cur, q3, Nat.zero_le _, q4⟩
      refine ⟨v', w', cells, r1, r5, h2, r3, ?_, fun g hg => .inr (World.ownsRow.lt r2 g hg).1, hlt r5⟩
      rw [r4]
      simp [hne, Nat.ne_of_gt hys]
    · have hnl : nl = false := by
        cases nl
        · rfl
        · have := h3.1 rfl; simp at this
      by_cases hroom : xs.length + ys.length ≤ cap
      · have hfit : xs.length * i.size + news.length ≤ cur.size := by rw [hl, hcs, i2, ← Nat.add_mul]; exact Nat.mul_le_mul_right _ hroom
        have hrr := run_append_room (P := P) w T ty e i hu i1 g xs.length cap cur hg ⟨b', o', none⟩ ys.length c news (by rw [i2]; exact hl) (Mem.at hmem) h1 hroom hfit
        rw [i2] at hrr
        have hcl : (cells ++ news).length = (xs.length + ys.length) * es := by rw [List.length_append, ho.1, hl, Nat.add_mul]
        refine ⟨_, _, cells, hrr, ⟨hcl, .inr ⟨g, cap, _, rfl, hbg, setRow_heap w g cur _ e _ hg, hroom, hcm, ?_, ?_⟩⟩, h2, ⟨rfl, rfl, rfl, by simp, fun k _ hk => setRow_other w g k _ (fun e => hk (by simp [Value.ownBlock, e]))⟩, ?_, fun g' hg' => .inl hg', ?_⟩
        · rw [i2] at hfit
          simp only [List.size_toArray, List.length_append, List.length_take, List.length_drop, Array.length_toList]
          omega
        · simp only [htake]
          rw [← hcl, List.take_left]
        · simp [hnl]
        · intro g' hg'
          simp only [Value.ownBlock, Option.some.injEq] at hg'
          subst hg'
          rw [size_setRow]
          exact (Array.getElem?_eq_some_iff.1 hg).1
      · have holds : ∀ j u, cells[j]? = some u → w.cell? ((⟨g, 0, none⟩ : Addr).add j) = some u := ho.cells (g := g) rfl
        have hrr := run_append_grow (P := P) w T ty e i z hu i1 i4 ⟨g, 0, none⟩ xs.length cap cells (by rw [i2]; exact ho.1) holds ⟨b', o', none⟩ ys.length c news (by rw [i2]; exact hl) (Mem.at hmem) (by omega) (by unfold maxLen at hm; omega) (growslice_fits (by omega) (by rw [i3]; exact hb))
        have hge := grownCap_ge w (xs.length + ys.length) cap e
        have hcm' := grownCap_le_maxLen w (xs.length + ys.length) cap e hm
        have hcl : (cells ++ news).length = (xs.length + ys.length) * es := by rw [List.length_append, ho.1, hl, Nat.add_mul]
        refine ⟨_, _, cells, hrr, ⟨hcl, .inr ⟨w.heap.size, _, _, rfl, Nat.zero_le _, heap_alloc_new w.drew _, hge, hcm', ?_, ?_⟩⟩, h2, ⟨rfl, rfl, rfl, by simp, fun k hk _ => heap_alloc_old w.drew _ k hk⟩, by simp [hnl], ?_, ?_⟩
        · simp only [Array.size_append, List.size_toArray, size_zeroCells, i5, ho.1, hl, ← Nat.add_mul]
          congr 1
          omega
        · simp only [Array.toList_append, List.append_assoc]
          rw [← List.append_assoc, ← hcl]
          exact List.take_left
        · intro g' hg'
          simp only [Value.ownBlock, Option.some.injEq] at hg'
          exact .inr (by omega)
        · intro g' hg'
          simp only [Value.ownBlock, Option.some.injEq] at hg'
          subst hg'
          simp

end
end Go.Dat

namespace Go.Dat

variable [Tables]

variable {P : Program} {Θ : TypeId → TI} {n : Nat} {ρ ρ' ρ'' : Nat → Tag} {w w' w'' : World} {tmps tmps' : Array Value} {E E' : Nat → Slot} {t : Nat} {u : Value}

omit [Tables] in
theorem Rpa.app {S : Nat → Prop} {es : Nat} : ∀ {xs ys : List D} {us vs : List Value}, Rpa S w es xs us → Rpa S w es ys vs → Rpa S w es (xs ++ ys) (us ++ vs)
  | [], _, _, _, h, k => by simp only [Rpa] at h; subst h; simpa using k
  | x :: xs, ys, us, vs, h, k => by
    simp only [Rpa] at h
    obtain ⟨c, y, rfl, h1, h2, h3⟩ := h
    simp only [List.cons_append, Rpa]
    exact ⟨c, y ++ vs, by simp, h1, h2, Rpa.app h3 k⟩

omit [Tables] in
theorem sizes_take_succ : ∀ (ds : List D) (i : Nat), i < ds.length → sizes (ds.take (i + 1)) = sizes (ds.take i) + (ds.getD i un).size
  | [], _, h => by simp at h
  | d :: ds, 0, _ => by simp [sizes]
  | d :: ds, i + 1, h => by
    have := sizes_take_succ ds i (by simpa using h)
    simp only [List.take_succ_cons, sizes, this]
    simp [Nat.add_assoc]

omit [Tables] in
theorem sizes_take_le : ∀ (ds : List D) (i j : Nat), i ≤ j → sizes (ds.take i) ≤ sizes (ds.take j)
  | [], _, _, _ => by simp
  | d :: ds, 0, j, _ => by simp [sizes]
  | d :: ds, i + 1, 0, h => by omega
  | d :: ds, i + 1, j + 1, h => by
    have := sizes_take_le ds i j (by omega)
    simp only [List.take_succ_cons, sizes]
    omega

omit [Tables] in
theorem RB.bound {p : List Nat} {d : D} {q : List Nat} {vs : List Value} (h : RB ρ w t q d vs) (hp : d.okp p) : d.off p + (d.get p).size ≤ d.size := by
  obtain ⟨a, m, b, e, h1, h2, _⟩ := RB.lens p d h hp
  have l1 := RB.len d h
  have l2 := RB.len _ h2
  rw [e] at l1
  simp only [List.length_append] at l1
  omega

omit [Tables] in
theorem RB.disj {p : List Nat} : ∀ (q : List Nat) (d : D) {r : List Nat} {vs : List Value}, RB ρ w t r d vs → d.okp p → d.okp q → ¬ p <+: q → ¬ q <+: p →
    d.off q + (d.get q).size ≤ d.off p ∨ d.off p + (d.get p).size ≤ d.off q := by
  induction p with
  | nil => intro q d r vs _ _ _ h; exact absurd List.nil_prefix h
  | cons i p ih =>
    intro q d r vs h hp hq h1 h2
    cases q with
    | nil => exact absurd List.nil_prefix h2
    | cons j q =>
      cases d with
      | st ds =>
        simp only [D.okp] at hp hq
        simp only [RB] at h
        simp only [D.off, D.get]
        obtain ⟨_, _, _, _, _, hi, _⟩ := RBs.lens i ds h hp.1
        obtain ⟨_, _, _, _, _, hj, _⟩ := RBs.lens j ds h hq.1
        have bi := hi.bound hp.2
        have bj := hj.bound hq.2
        by_cases e : i = j
        · subst e
          have := ih q (ds.getD i un) hi hp.2 hq.2 (fun h => h1 (by simpa using h)) (fun h => h2 (by simpa using h))
          omega
        · rcases Nat.lt_or_gt_of_ne e with e | e
          · have k1 := sizes_take_succ ds i hp.1
            have k2 := sizes_take_le ds (i + 1) j (by omega)
            omega
          · have k1 := sizes_take_succ ds j hq.1
            have k2 := sizes_take_le ds (j + 1) i (by omega)
            omega
      | arr es ds =>
        simp only [D.okp] at hp hq
        simp only [RB] at h
        simp only [D.off, D.get]
        obtain ⟨_, _, _, _, _, li, hi, _⟩ := RBa.lens i ds h hp.1
        obtain ⟨_, _, _, _, _, lj, hj, _⟩ := RBa.lens j ds h hq.1
        have bi := hi.bound hp.2
        have bj := hj.bound hq.2
        rw [← RB.len _ hi, li] at bi
        rw [← RB.len _ hj, lj] at bj
        by_cases e : i = j
        · subst e
          have := ih q (ds.getD i un) hi hp.2 hq.2 (fun h => h1 (by simpa using h)) (fun h => h2 (by simpa using h))
          omega
        · rcases Nat.lt_or_gt_of_ne e with e | e
          · have k2 : es * (i + 1) ≤ es * j := Nat.mul_le_mul_left _ e
            rw [Nat.mul_add, Nat.mul_one] at k2
            omega
          · have k2 : es * (j + 1) ≤ es * i := Nat.mul_le_mul_left _ e
            rw [Nat.mul_add, Nat.mul_one] at k2
            omega
      | _ => simp [D.okp] at hp

omit [Tables] in
theorem getElem?_mid {a m m' b : List Value} {j : Nat} (hl : m'.length = m.length) (h : j + 1 ≤ a.length ∨ a.length + m.length ≤ j) : (a ++ m' ++ b)[j]? = (a ++ m ++ b)[j]? := by
  rcases h with h | h
  · rw [List.append_assoc, List.append_assoc, List.getElem?_append_left (by omega), List.getElem?_append_left (by omega)]
  · rw [List.getElem?_append_right (by simp; omega), List.getElem?_append_right (by simp; omega)]
    simp [hl]

section
variable {a : Act} {o : Oper} {Q : Exit → Act → World → Prop}

theorem step_app {d k s T nl e es xs ys b} {x : Operand} (hΘ : Agree P Θ) (hI : Inv n ρ w a.tmps E) (hd : o.dst = some d) (hn : d < n) (hod : owner (E d) = false) (hds : d ≠ s)
    (ho : o.op = .call { callee := .builtin .append, args := #[.tmp k, x], argTypes := #[T, T] }) (hE : E s = .d (.own nl e es xs)) (hk : k = s ∨ E k = .view s []) (hx : Src E x es ys)
    (ht : (Θ T).td = .sl e es b) (hb : (xs.length + ys.length) * b ≤ 140737488355328) (hm : xs.length + ys.length ≤ maxLen) :
    o.wp P a w (After n ρ w a (upd (upd (free s E) s .un) d (.d (.own (nl && ys.isEmpty) e es (xs ++ ys))))) Q := by
  have hkv : a.eval (.tmp k) = a.tmps.getD s undef := by
    rcases hk with rfl | hk
    · rfl
    · have := hI.slot k
      rw [hk] at this
      obtain ⟨nl', e', es', xs', h1⟩ := this
      rcases h1 with ⟨_, _, h1⟩ | ⟨x, b, h1, _⟩
      · exact h1
      · rw [hE] at h1; cases h1
  have hown : ROwn ρ w (.sl s []) nl e es xs (a.tmps.getD s undef) := by
    have := hI.slot s
    rw [hE] at this
    exact RV.own this
  obtain ⟨ad, c, news, x1, x2, x3, x4⟩ := hx.sound hI
  obtain ⟨v', w', cells, r1, r2, r3, r4, r5, r6, r7⟩ := append_run (P := P) (ty := o.type) (hΘ.says ht) hown x2 x3 x4 (c := c) hb hm
  refine oper_val (v := v') (w' := w') (by simp only [execOp, ho, resolve, invoke, builtin, Sem.run_bind, Sem.run_pure, Result.andThen_ok, List.map_toArray, List.map_cons, List.map_nil, hkv, x1, r1]) ?_
  rw [put_some hd]
  have hd' : d < a.tmps.size := by rw [hI.size]; exact hn
  have hvb : ∀ g, (a.tmps.getD s undef).ownBlock = some g → ρ g = .sl s [] := by
    obtain ⟨_, _, _, _, h⟩ := hown
    exact h
  let ρ' : Nat → Tag := fun g => if v'.ownBlock = some g then .sl d [] else if ρ g = .sl s [] then .other else ρ g
  have hnew : ∀ g, v'.ownBlock = some g → ρ g = .sl s [] ∨ ρ g = .other := by
    intro g hg
    rcases r6 g hg with h | h
    · exact .inl (hvb g h)
    · refine .inr (Classical.byContradiction fun hne => ?_)
      have := hI.lt g hne
      omega
  have hkeep : ∀ g, ρ g ≠ .other → ρ g ≠ .sl s [] → ρ' g = ρ g := by
    intro g h1 h2
    have h3 : v'.ownBlock ≠ some g := fun h => by rcases hnew g h with h | h <;> contradiction
    simp [ρ', h3, h2]
  have hsame : ∀ g, g < w.heap.size → ρ g ≠ .sl s [] → w'.heap[g]? = w.heap[g]? := by
    intro g h1 h2
    refine r4.block g h1 fun h => ?_
    exact h2 (hvb g h.symm)
  have hsh : ∀ g, ρ g = .sh → ρ' g = .sh ∧ w'.heap[g]? = w.heap[g]? := fun g hg =>
    ⟨by rw [hkeep g (by simp [hg]) (by simp [hg]), hg], hsame g (hI.lt g (by simp [hg])) (by simp [hg])⟩
  refine ⟨rfl, ρ', ⟨fun g hg => (hsh g hg).1, fun g hl hg => ?_, fun g hl hg => hsame g hl (by rcases hg with h | h <;> simp [h]), r4.os, r4.tape, r4.output, r4.size⟩, ?_⟩
  · have h3 : v'.ownBlock ≠ some g := fun h => by
      rcases r6 g h with h | h
      · rw [hvb g h] at hg; cases hg
      · omega
    simp [ρ', h3, hg]
  · have hI1 := hI.free s
    refine ⟨by simp [hI.size], fun g hg => ?_, hI.tab.mono hsh, fun u => ?_⟩
    · simp only [ρ'] at hg
      split at hg
      · next h => exact r7 g h
      · split at hg
        · exact absurd rfl hg
        · exact Nat.lt_of_lt_of_le (hI.lt g hg) r4.size
    · rw [getD_put _ _ _ _ hd']
      by_cases h1 : d = u
      · subst h1
        simp only [if_true, upd]
        refine RV.ofOwn ⟨cells ++ news, by rw [List.length_append]; exact r2, ?_, r5, fun g hg => by simp [ρ', hg]⟩
        exact Rpa.mono (fun g hg => hsh g hg) _ (Rpa.app r3 x3)
      · by_cases h2 : s = u
        · subst h2
          simp only [upd, h1, if_false, if_true]
          trivial
        · simp only [upd, h1, h2, if_false]
          have e2 : u ≠ s := fun h => h2 h.symm
          have hs2 : ∀ g r, ρ g = .sl u r → ρ' g = .sl u r ∧ w'.heap[g]? = w.heap[g]? := fun g r hg =>
            ⟨by rw [hkeep g (by simp [hg]) (by simp [hg, e2]), hg], hsame g (hI.lt g (by simp [hg])) (by simp [hg, e2])⟩
          have hb2 : ∀ k g, ρ g = .bx k → ρ' g = .bx k ∧ w'.heap[g]? = w.heap[g]? := fun k g hg =>
            ⟨by rw [hkeep g (by simp [hg]) (by simp [hg]), hg], hsame g (hI.lt g (by simp [hg])) (by simp [hg])⟩
          refine (hI1.slot u).keep hI1 hsh hs2 (hb2 u) (fun s' hs' => ?_) (.inl kill_nwk)
          have hs1 : s' ≠ s := by rintro rfl; exact free_ne hs'
          have hd1 : s' ≠ d := by
            rintro rfl
            have := hI1.slot u
            have hown' : owner (E s') = true := by
              rcases kill_less (E := E) (f := refersTo s) (fun s h => refersTo_owner s h) hI u with h | ⟨h, _⟩
              · unfold free at hs'; rw [h] at hs'; simp [refers] at hs'
              · have h5 := hI.slot u
                unfold free at hs'
                rw [h] at hs'
                cases hE' : E u with
                | ref s2 p => rw [hE'] at h5 hs'; simp only [refers, Option.some.injEq] at hs'; subst hs'; obtain ⟨x, b, h1, _⟩ := h5; simp [h1, owner]
                | view s2 p => rw [hE'] at h5 hs'; simp only [refers, Option.some.injEq] at hs'; subst hs'; obtain ⟨_, _, _, _, h1⟩ := h5; rcases h1 with ⟨h1, _⟩ | ⟨x, b, h1, _⟩ <;> simp [h1, owner]
                | elt s2 p i q => rw [hE'] at h5 hs'; simp only [refers, Option.some.injEq] at hs'; subst hs'; obtain ⟨_, _, _, _, _, _, _, h1, _⟩ := h5; rcases h1 with ⟨h1, _⟩ | ⟨x, b, h1, _⟩ <;> simp [h1, owner]
                | sub s2 p i q => rw [hE'] at h5 hs'; simp only [refers, Option.some.injEq] at hs'; subst hs'; obtain ⟨_, _, _, _, _, _, _, h1, _⟩ := h5; rcases h1 with ⟨h1, _⟩ | ⟨x, b, h1, _⟩ <;> simp [h1, owner]
                | mq s2 => rw [hE'] at h5 hs'; simp only [refers, Option.some.injEq] at hs'; subst hs'; obtain ⟨_, _, h1, _⟩ := h5; simp [h1, owner]
                | _ => rw [hE'] at hs'; simp [refers] at hs'
            rw [hod] at hown'; cases hown'
          refine ⟨by simp [upd, hs1.symm, hd1.symm], by rw [getD_put _ _ _ _ hd', if_neg hd1.symm], fun g hg => (hb2 s' g hg).2⟩

end
end Go.Dat

namespace Go.Dat

variable [Tables]

variable {P : Program} {Θ : TypeId → TI} {n : Nat} {ρ ρ' ρ'' : Nat → Tag} {w w' w'' : World} {tmps tmps' : Array Value} {E E' : Nat → Slot} {t : Nat} {u : Value}

theorem Inv.refOwner (hI : Inv n ρ w tmps E) {u s : Nat} (h : refers (E u) = some s) : owner (E s) = true := by
  have h5 := hI.slot u
  cases hE' : E u with
  | ref s2 p => rw [hE'] at h5 h; simp only [refers, Option.some.injEq] at h; subst h; obtain ⟨x, b, h1, _⟩ := h5; simp [h1, owner]
  | view s2 p => rw [hE'] at h5 h; simp only [refers, Option.some.injEq] at h; subst h; obtain ⟨_, _, _, _, h1⟩ := h5; rcases h1 with ⟨h1, _⟩ | ⟨x, b, h1, _⟩ <;> simp [h1, owner]
  | elt s2 p i q => rw [hE'] at h5 h; simp only [refers, Option.some.injEq] at h; subst h; obtain ⟨_, _, _, _, _, _, _, h1, _⟩ := h5; rcases h1 with ⟨h1, _⟩ | ⟨x, b, h1, _⟩ <;> simp [h1, owner]
  | sub s2 p i q => rw [hE'] at h5 h; simp only [refers, Option.some.injEq] at h; subst h; obtain ⟨_, _, _, _, _, _, _, h1, _⟩ := h5; rcases h1 with ⟨h1, _⟩ | ⟨x, b, h1, _⟩ <;> simp [h1, owner]
  | mq s2 => rw [hE'] at h5 h; simp only [refers, Option.some.injEq] at h; subst h; obtain ⟨_, _, h1, _⟩ := h5; simp [h1, owner]
  | _ => rw [hE'] at h; simp [refers] at h

omit [Tables] in
theorem kill_eq {f : Slot → Bool} {u : Nat} (h : kill f E u ≠ .un) : kill f E u = E u ∧ f (E u) = false := by
  unfold kill at h ⊢
  cases hf : f (E u) <;> cases hk : isWk (E u) <;> simp_all

omit [Tables] in
theorem own_okp {nl e es xs} : ∀ {r : List Nat}, (D.own nl e es xs).okp r → r = []
  | [], _ => rfl
  | _ :: _, h => by simp [D.okp] at h

section
variable {a : Act} {o : Oper} {Q : Exit → Act → World → Prop}

theorem step_stoV {T k s p X y} {x : Operand} (hΘ : Agree P Θ) (hI : Inv n ρ w a.tmps E) (hd : o.dst = none) (ho : o.op = .store T (.tmp k) x) (hk : Adr E k s p X) (hc : Rp (sh ρ) w y (a.eval x).cells.toList)
    (hf : (Θ T).fits y = true) (hsz : y.size = (X.get p).size) (hno : (X.get p).noOwn = true) :
    o.wp P a w (fun a' w' => a' = a ∧ After n ρ w a (upd (kill (below s p) E) s (.box (X.set p y))) a' w') Q := by
  obtain ⟨b, cs, g1, g2, g3, ⟨e, g4⟩, g5, g6⟩ := hk.sound hI
  obtain ⟨c1, m, c2, e1, e2, e3, e4⟩ := RB.lens p X g5 g6
  have hml := RB.len _ e3
  have hul := Rp.len y hc
  have hone := Rp.one y hc
  simp only [TI.fits, Bool.and_eq_true, beq_iff_eq] at hf
  have hsize := sizeOf_run (P := P) (w := w) (hΘ T hf.1.1)
  have hlen : (a.eval x).cells.size = (Θ T).n := by rw [← Array.length_toList, hul, hf.2]
  have hm' : (a.eval x).cells.toList.length = m.length := by rw [hul, hsz, hml]
  have hcs : cs.length = c1.length + m.length + c2.length := by rw [e1]; simp; omega
  have hst := run_storeCells_at P b (X.off p) e (a.eval x).cells.toList 0 cs.toArray w g4 (by simp only [List.size_toArray, Nat.add_zero]; omega) hone
  have hcells : (cs.toArray.toList.take (X.off p + 0) ++ (a.eval x).cells.toList ++ cs.toArray.toList.drop (X.off p + 0 + (a.eval x).cells.toList.length)) = c1 ++ (a.eval x).cells.toList ++ c2 := by
    simp only [Nat.add_zero, ← e2, hm', e1]
    simp
  rw [hcells] at hst
  generalize hW : w.setRow b (c1 ++ (a.eval x).cells.toList ++ c2).toArray = w' at hst
  have hheap : ∀ g, g ≠ b → w'.heap[g]? = w.heap[g]? := fun g hg => by rw [← hW]; exact setRow_other w b g _ hg
  have hnb : w'.heap[b]? = some (.cells (c1 ++ (a.eval x).cells.toList ++ c2).toArray e (0, 0)) := by rw [← hW]; exact setRow_heap w b _ _ e _ g4
  refine oper_skip (w' := w') ?_ ?_
  · simp only [execOp, ho, Instr.storeAt, eval_tmp, g2, Instr.sureAddr, storeVar, Sem.run_bind, Sem.run_pure, Result.andThen_ok, hsize, hlen, ne_eq, not_true_eq_false, if_false, hst]
  rw [put_none hd]
  refine ⟨rfl, ?_⟩
  have hsh : ∀ g, ρ g = .sh → ρ g = .sh ∧ w'.heap[g]? = w.heap[g]? := fun g hg => ⟨hg, hheap g (by rintro rfl; rw [g3] at hg; cases hg)⟩
  have hsl : ∀ t g r, ρ g = .sl t r → ρ g = .sl t r ∧ w'.heap[g]? = w.heap[g]? := fun t g r hg => ⟨hg, hheap g (by rintro rfl; rw [g3] at hg; cases hg)⟩
  refine ⟨rfl, ρ, ⟨fun _ h => h, fun _ _ h => h, fun g _ hg => hheap g (by rintro rfl; rw [g3] at hg; rcases hg with h | h <;> cases h), by rw [← hW]; rfl, by rw [← hW]; rfl, by rw [← hW]; rfl, by rw [← hW]; simp⟩, ?_⟩
  have hI1 := hI.less (kill_less (fun s' h => below_owner (s := s) (p := p) s' h) hI)
  refine ⟨hI.size, fun g hg => by rw [← hW]; simpa using hI.lt g hg, hI.tab.mono hsh, fun u => ?_⟩
  by_cases h1 : s = u
  · subst h1
    simp only [upd, if_true]
    refine ⟨b, c1 ++ (a.eval x).cells.toList ++ c2, g1, g3, ⟨e, hnb⟩, ?_⟩
    exact e4 ρ w' ⟨hsh, fun g r hg _ => ⟨rfl, (hsl s g r hg).2⟩⟩ y _ hm' (RB.ofRp (Rp.mono hsh y hc))
  · simp only [upd, h1, if_false]
    by_cases hun : kill (below s p) E u = .un
    · rw [hun]; trivial
    obtain ⟨k1, k2⟩ := kill_eq hun
    rw [k1]
    -- the own slices in the box of s stay
    have hbox : ∀ {q nl' e' es' xs' v}, ¬ p <+: q → OwnAt w a.tmps E s q nl' e' es' xs' v → OwnAt w' a.tmps (upd (kill (below s p) E) s (.box (X.set p y))) s q nl' e' es' xs' v := by
      intro q nl' e' es' xs' v hpq h
      rcases h with ⟨h, _⟩ | ⟨x', b', q1, q2, q3, q4, q5⟩
      · rw [hk.1] at h; cases h
      · rw [hk.1] at q1; cases q1
        rw [g1] at q4; cases q4
        have hqp : ¬ q <+: p := by
          rintro ⟨r, rfl⟩
          have := ((D.okp_app q X r).1 g6).2
          rw [q3] at this
          have hr := own_okp this
          subst hr
          exact hpq (by simp)
        obtain ⟨s1, s2, s3⟩ := D.set_keep p X q g6 hsz hpq q2
        refine .inr ⟨X.set p y, b, by simp [upd], s1, by rw [s3 hqp, q3], g1, ?_⟩
        rw [s2]
        rw [cell_of_row w' b _ _ _ _ hnb]
        rw [cell_of_row w b _ _ _ _ g4] at q5
        simp only [List.getElem?_toArray] at q5 ⊢
        rw [← q5, e1]
        have hd := RB.disj (p := p) q X g5 g6 q2 hpq hqp
        rw [q3] at hd
        simp only [D.size] at hd
        exact getElem?_mid hm' (by rw [e2, hml]; omega)
    have hE1 : ∀ s', s' ≠ s → owner (E s') = true → upd (kill (below s p) E) s (.box (X.set p y)) s' = E s' := by
      intro s' h2 h3
      have h4 : below s p (E s') = false := by cases hb : below s p (E s') <;> simp_all [below_owner (s := s) (p := p) (E s')]
      simp [upd, h2.symm, kill, h4, isWk_owner h3]
    have hslot := hI.slot u
    by_cases hr : refers (E u) = some s
    · cases hE : E u with
      | ref s' q =>
        rw [hE] at hr hslot k2
        simp only [refers, Option.some.injEq] at hr
        subst hr
        obtain ⟨x', b', q1, q2, q3, q4⟩ := hslot
        rw [hk.1] at q1; cases q1
        rw [g1] at q3; cases q3
        by_cases hpq : p = q
        · subst hpq
          obtain ⟨s1, s2, _⟩ := D.set_at (y := y) p X g6
          exact ⟨X.set p y, b, by simp [upd], s1, g1, by rw [s2]; exact q4⟩
        · have hn : ¬ p <+: q := by
            intro hpre
            simp [below, List.isPrefixOf_iff_prefix.2 hpre, hpq] at k2
          obtain ⟨s1, s2, _⟩ := D.set_keep p X q g6 hsz hn q2
          exact ⟨X.set p y, b, by simp [upd], s1, g1, by rw [s2]; exact q4⟩
      | view s' q =>
        rw [hE] at hr hslot k2
        simp only [refers, Option.some.injEq] at hr
        subst hr
        obtain ⟨nl', e', es', xs', h⟩ := hslot
        refine ⟨nl', e', es', xs', hbox (fun hpre => ?_) h⟩
        simp [below, List.isPrefixOf_iff_prefix.2 hpre] at k2
      | elt s' q i r =>
        rw [hE] at hr hslot k2
        simp only [refers, Option.some.injEq] at hr
        subst hr
        obtain ⟨nl', e', es', xs', g, l, c, h, h'⟩ := hslot
        refine ⟨nl', e', es', xs', g, l, c, hbox (fun hpre => ?_) h, h'⟩
        simp [below, List.isPrefixOf_iff_prefix.2 hpre] at k2
      | sub s' q i r =>
        rw [hE] at hr hslot k2
        simp only [refers, Option.some.injEq] at hr
        subst hr
        obtain ⟨nl', e', es', xs', g, l, c, h, h'⟩ := hslot
        refine ⟨nl', e', es', xs', g, l, c, hbox (fun hpre => ?_) h, h'⟩
        simp [below, List.isPrefixOf_iff_prefix.2 hpre] at k2
      | mq s' =>
        rw [hE] at hr hslot
        simp only [refers, Option.some.injEq] at hr
        subst hr
        obtain ⟨_, m, h, _⟩ := hslot
        rw [hk.1] at h
        cases h
      | _ => rw [hE] at hr; simp [refers] at hr
    · refine hslot.keep hI hsh (fun g r hg => hsl u g r hg) (fun g hg => ⟨hg, hheap g (by rintro rfl; rw [g3] at hg; cases hg; exact h1 rfl)⟩) (fun s' hs' => ?_) (.inl (by rw [← k1]; exact kill_nwk))
      have h2 : s' ≠ s := by rintro rfl; exact hr hs'
      exact ⟨hE1 s' h2 (hI.refOwner hs'), rfl, fun g hg => hheap g (by rintro rfl; rw [g3] at hg; cases hg; exact h2 rfl)⟩

theorem step_sto {T k s p X y} {x : Operand} (hΘ : Agree P Θ) (hI : Inv n ρ w a.tmps E) (hd : o.dst = none) (ho : o.op = .store T (.tmp k) x) (hk : Adr E k s p X) (hx : OpD E x y)
    (hf : (Θ T).fits y = true) (hsz : y.size = (X.get p).size) (hno : (X.get p).noOwn = true) :
    o.wp P a w (After n ρ w a (upd (kill (below s p) E) s (.box (X.set p y)))) Q :=
  Oper.wp_mono (fun _ _ h => h.2) (step_stoV hΘ hI hd ho hk (hx.sound hI).cells hf hsz hno)

theorem step_ext {d k i ds nl e es xs} (hI : Inv n ρ w a.tmps E) (hd : o.dst = some d) (hn : d < n) (hod : owner (E d) = false) (_hdk : d ≠ k) (ho : o.op = .extract (.tmp k) i)
    (hE : E k = .d (.tup ds)) (hi : i < ds.length) (hx : ds.getD i un = .own nl e es xs) :
    o.wp P a w (After n ρ w a (upd (upd E k (.d (.tup (ds.set i (.dead false))))) d (.d (.own nl e es xs)))) Q := by
  have h0 := hI.slot k
  rw [hE] at h0
  obtain ⟨us, h1, h2⟩ := h0
  obtain ⟨v, h3, h4⟩ := h2.nth hi
  rw [hx] at h4
  simp only [Nat.zero_add] at h4
  obtain ⟨cs, h5, h6⟩ := h4
  simp only [RB] at h5
  obtain ⟨v', rfl, h7⟩ := h5
  simp only [VC] at h6
  obtain rfl : v' = v := by simpa using h6
  refine oper_val (v := v') (w' := w) (by simp [execOp, ho, eval_tmp, h1, Instr.extract, h3]) ?_
  rw [put_some hd]
  have hd' : d < a.tmps.size := by rw [hI.size]; exact hn
  let ρ' : Nat → Tag := fun g => if ρ g = .sl k [i] then .sl d [] else ρ g
  have hk : ∀ g, ρ g ≠ .sl k [i] → ρ' g = ρ g := fun g hg => by simp [ρ', hg]
  refine ⟨rfl, ρ', ⟨fun g hg => by rw [hk g (by simp [hg]), hg], fun g _ hg => by rw [hk g (by simp [hg]), hg], fun _ _ _ => rfl, rfl, rfl, rfl, Nat.le_refl _⟩, ?_⟩
  refine ⟨by simp [hI.size], fun g hg => hI.lt g (fun h => hg (by rw [hk g (by simp [h]), h])), hI.tab.mono (fun g hg => ⟨by simp only [sh] at hg ⊢; rw [hk g (by simp [hg]), hg], rfl⟩), fun u => ?_⟩
  rw [getD_put _ _ _ _ hd']
  by_cases e1 : d = u
  · subst e1
    simp only [if_true, upd]
    exact RV.ofOwn (h7.mono (fun g hg => ⟨by rw [hk g (by simp [hg]), hg], rfl⟩) (fun g hg => ⟨by simp [ρ', hg], rfl⟩))
  · by_cases e2 : k = u
    · subst e2
      simp only [upd, e1, if_false, if_true]
      refine ⟨us, h1, ?_⟩
      have one : ∀ (x : D) (u : Value) (c : Nat), c ≠ i → RV1 ρ w k [c] x u → RV1 ρ' w k [c] x u := fun x u c hc h =>
        RV1.mono (fun g hg => ⟨by rw [hk g (by simp [hg]), hg], rfl⟩) (fun g r hg => ⟨by rw [hk g (by rw [hg]; simp [hc]), hg], rfl⟩) h
      have tail : ∀ (ds : List D) (us : List Value) (c : Nat), i < c → RVs ρ w k c ds us → RVs ρ' w k c ds us := by
        intro ds
        induction ds with
        | nil => intro us c _ h; exact h
        | cons x ds ih =>
          intro us c hc h
          obtain ⟨u, y, rfl, q1, q2⟩ := h
          exact ⟨u, y, rfl, one x u c (by omega) q1, ih y (c + 1) (by omega) q2⟩
      have key : ∀ (ds : List D) (us : List Value) (j c : Nat), RVs ρ w k c ds us → c + j = i → j < ds.length → ds.getD j un = .own nl e es xs → RVs ρ' w k c (ds.set j (.dead false)) us := by
        intro ds
        induction ds with
        | nil => intro us j c _ _ h; simp at h
        | cons x ds ih =>
          intro us j c h hj hlt hx
          obtain ⟨u, y, rfl, q1, q2⟩ := h
          cases j with
          | zero =>
            obtain ⟨cs, r1, r2⟩ := q1
            have hx' : x = .own nl e es xs := by simpa using hx
            subst hx'
            simp only [RB] at r1
            obtain ⟨v2, rfl, r3⟩ := r1
            simp only [VC] at r2
            obtain rfl : v2 = u := by simpa using r2
            refine ⟨v2, y, rfl, ⟨[v2], ?_, rfl⟩, tail ds y (c + 1) (by omega) q2⟩
            simp only [RB, Rp]
            exact ⟨v2, rfl, r3.one, by simp⟩
          | succ j => exact ⟨u, y, rfl, one x u c (by omega) q1, ih y j (c + 1) q2 (by omega) (by simpa using hlt) (by simpa using hx)⟩
      exact key ds us i 0 h2 (by omega) hi hx
    · simp only [upd, e1, e2, if_false]
      have e3 : u ≠ k := fun h => e2 h.symm
      refine (hI.slot u).keep hI (fun g hg => ⟨by rw [hk g (by simp [hg]), hg], rfl⟩) (fun g r hg => ⟨by rw [hk g (by simp [hg, e3]), hg], rfl⟩) (fun g hg => ⟨by rw [hk g (by simp [hg]), hg], rfl⟩) (fun s' hs' => ?_) (.inr ⟨fun _ _ => rfl, Nat.le_refl _⟩)
      have how := hI.refOwner hs'
      have n1 : d ≠ s' := by rintro rfl; rw [hod] at how; cases how
      have n2 : k ≠ s' := by rintro rfl; rw [hE] at how; simp [owner] at how
      exact ⟨by simp [upd, n1, n2], by rw [getD_put _ _ _ _ hd', if_neg n1], fun _ _ => rfl⟩

end
end Go.Dat

namespace Go.Dat

variable [Tables]

variable {P : Program} {Θ : TypeId → TI} {n : Nat} {ρ ρ' ρ'' : Nat → Tag} {w w' w'' : World} {tmps tmps' : Array Value} {E E' : Nat → Slot} {t : Nat} {u : Value}

omit [Tables] in
/-- A part of a shared datum is replaced by one as large. -/
theorem Rp.put {S : Nat → Prop} {p : List Nat} {d y : D} {cs ys : List Value} (h : Rp S w d cs) (hk : d.okp p) (hy : Rp S w y ys) (hs : y.size = (d.get p).size) :
    ∃ a m b, cs = a ++ m ++ b ∧ a.length = d.off p ∧ m.length = ys.length ∧ Rp S w (d.set p y) (a ++ ys ++ b) := by
  classical
  obtain ⟨a, m, b, e1, e2, e3, e4⟩ := RB.lens (ρ := tagS S) (t := 0) (q := []) p d (RB.ofRp (by rw [sh_tagS]; exact h)) hk
  have hl : ys.length = m.length := by rw [Rp.len y hy, hs, RB.len _ e3]
  have h5 := e4 (tagS S) w ⟨fun _ h => ⟨h, rfl⟩, fun _ _ _ _ => ⟨rfl, rfl⟩⟩ y ys hl (RB.ofRp (by rw [sh_tagS]; exact hy))
  refine ⟨a, m, b, e1, e2, hl.symm, ?_⟩
  have := (RB.plain (d.set p y) (set_noOwn p d (Rp.noOwn d h) (Rp.noOwn y hy))).1 h5
  rwa [sh_tagS] at this
where
  set_noOwn {y : D} : ∀ (p : List Nat) (d : D), d.noOwn = true → y.noOwn = true → (d.set p y).noOwn = true
    | [], d, _, h => by simpa [D.set] using h
    | i :: p, .st ds, h, hy => by
      simp only [D.noOwn] at h
      simp only [D.set, D.noOwn]
      exact sets ds i h (set_noOwn p _ (Rp.part.nth ds i h) hy)
    | i :: p, .arr _ ds, h, hy => by
      simp only [D.noOwn] at h
      simp only [D.set, D.noOwn]
      exact sets ds i h (set_noOwn p _ (Rp.part.nth ds i h) hy)
    | _ :: _, .v _, h, _ => by simpa [D.set] using h
    | _ :: _, .lst _ _ _, h, _ => by simpa [D.set] using h
    | _ :: _, .own _ _ _ _, h, _ => by simpa [D.set] using h
    | _ :: _, .fn _ _ _, h, _ => by simpa [D.set] using h
    | _ :: _, .pt _, h, _ => by simpa [D.set] using h
    | _ :: _, .dead _, h, _ => by simpa [D.set] using h
    | _ :: _, .tup _, h, _ => by simpa [D.set] using h
  sets : ∀ (ds : List D) (i : Nat) {z : D}, noOwns ds = true → z.noOwn = true → noOwns (ds.set i z) = true
    | [], _, _, h, _ => by simpa using h
    | d :: ds, 0, z, h, hz => by simp only [noOwns, Bool.and_eq_true] at h; simp [noOwns, hz, h.2]
    | d :: ds, i + 1, z, h, hz => by simp only [noOwns, Bool.and_eq_true] at h; simp [noOwns, h.1, sets ds i h.2 hz]

omit [Tables] in
theorem mid_splice (p m u r : List Value) : (p ++ m ++ r).take p.length ++ u ++ (p ++ m ++ r).drop (p.length + m.length) = p ++ u ++ r := by
  rw [List.append_assoc p m r, List.take_left, ← List.drop_drop, List.drop_left, List.drop_left]

section
variable {a : Act} {o : Oper} {Q : Exit → Act → World → Prop}

theorem step_elt {T k s i q nl e es xs y} {x : Operand} (hΘ : Agree P Θ) (hI : Inv n ρ w a.tmps E) (hd : o.dst = none) (ho : o.op = .store T (.tmp k) x) (hk : E k = .elt s [] i q)
    (hE : E s = .d (.own nl e es xs)) (hx : OpD E x y) (hf : (Θ T).fits y = true) (hsz : y.size = ((xs.getD i un).get q).size) :
    o.wp P a w (After n ρ w a (upd (kill (belowE s i q) E) s (.d (.own nl e es (xs.set i ((xs.getD i un).set q y)))))) Q := by
  obtain ⟨g, l, c, h1, h2, h3, h4⟩ := Elt.sound hI (show Elt E k s [] i q nl e es xs from ⟨hk, .inl hE⟩)
  obtain ⟨cells, ⟨o1, o2⟩, o3, o4, o5⟩ := h1.own hI
  have hg : ρ g = .sl s [] := o5 g rfl
  have htv : a.tmps.getD s undef = .slice (some ⟨g, 0, none⟩) l c := by
    rcases h1 with ⟨_, _, h⟩ | ⟨x', b, h, _⟩
    · exact h.symm
    · rw [hE] at h; cases h
  rcases o2 with ⟨o2, _⟩ | ⟨g', cap, cur, o2, _, p1, p2, p3, p4, p5⟩
  · cases o2
  cases o2
  obtain ⟨A, M, B, r1, r2, r3, r4, r5⟩ := Rpa.lens i xs o3 h2
  have hc := (hx.sound hI).cells
  have hul := Rp.len y hc
  have hone := Rp.one y hc
  obtain ⟨a2, m2, b2, s1, s2, s3, s4⟩ := Rp.put r4 h3 hc hsz
  simp only [TI.fits, Bool.and_eq_true, beq_iff_eq] at hf
  have hsize := sizeOf_run (P := P) (w := w) (hΘ T hf.1.1)
  have hlen : (a.eval x).cells.size = (Θ T).n := by rw [← Array.length_toList, hul, hf.2]
  generalize hR : cur.toList.drop (xs.length * es) = R
  have hle : xs.length * es ≤ cur.toList.length := by
    have := congrArg List.length p5
    rw [List.length_take, o1] at this
    omega
  have hcurl : cur.toList = (A ++ a2) ++ m2 ++ (b2 ++ B ++ R) := by
    have h := List.take_append_drop (xs.length * es) cur.toList
    rw [p5, hR, r1, s1] at h
    rw [← h]
    simp
  have hoff : es * i + (xs.getD i un).off q = (A ++ a2).length := by rw [List.length_append, r2, s2]
  generalize hU : (a.eval x).cells.toList = ucs at *
  have hst := run_storeCells_at P g (es * i + (xs.getD i un).off q) e ucs 0 cur w p1 (by
    have := congrArg List.length hcurl
    simp only [List.length_append, Array.length_toList] at this
    rw [hoff, List.length_append]
    omega) hone
  have hcells : cur.toList.take (es * i + (xs.getD i un).off q + 0) ++ ucs ++ cur.toList.drop (es * i + (xs.getD i un).off q + 0 + ucs.length) = (A ++ a2) ++ ucs ++ (b2 ++ B ++ R) := by
    rw [Nat.add_zero, hoff, ← s3, hcurl]
    exact mid_splice _ _ _ _
  rw [hcells] at hst
  generalize hW : w.setRow g ((A ++ a2) ++ ucs ++ (b2 ++ B ++ R)).toArray = w' at hst
  have hheap : ∀ b, b ≠ g → w'.heap[b]? = w.heap[b]? := fun b hb => by rw [← hW]; exact setRow_other w g b _ hb
  have hnb : w'.heap[g]? = some (.cells ((A ++ a2) ++ ucs ++ (b2 ++ B ++ R)).toArray e (0, 0)) := by rw [← hW]; exact setRow_heap w g _ _ e _ p1
  refine oper_skip (w' := w') ?_ ?_
  · have hszu : (a.eval x).cells.size = (Θ T).n := hlen
    simp only [execOp, ho, Instr.storeAt, eval_tmp, h4, Instr.sureAddr, storeVar, Sem.run_bind, Sem.run_pure, Result.andThen_ok, hsize, hszu, ne_eq, not_true_eq_false, if_false, hU, hst]
  rw [put_none hd]
  have hsh : ∀ b, ρ b = .sh → ρ b = .sh ∧ w'.heap[b]? = w.heap[b]? := fun b hb => ⟨hb, hheap b (by rintro rfl; rw [hg] at hb; cases hb)⟩
  have hbx : ∀ t b, ρ b = .bx t → ρ b = .bx t ∧ w'.heap[b]? = w.heap[b]? := fun t b hb => ⟨hb, hheap b (by rintro rfl; rw [hg] at hb; cases hb)⟩
  refine ⟨rfl, ρ, ⟨fun _ h => h, fun _ _ h => h, fun b _ hb => hheap b (by rintro rfl; rw [hg] at hb; rcases hb with h | h <;> cases h), by rw [← hW]; rfl, by rw [← hW]; rfl, by rw [← hW]; rfl, by rw [← hW]; simp⟩, ?_⟩
  have hnew : ROwn ρ w' (.sl s []) nl e es (xs.set i ((xs.getD i un).set q y)) (.slice (some ⟨g, 0, none⟩) xs.length c) := by
    refine ⟨A ++ (a2 ++ ucs ++ b2) ++ B, ⟨?_, .inr ⟨g, c, _, by simp, Nat.zero_le _, hnb, by simpa using p2, p3, ?_, ?_⟩⟩, ?_, by simpa using o4, by simpa using o5⟩
    · rw [List.length_set, ← o1, r1, s1]; simp [s3]
    · have := congrArg List.length hcurl
      simp only [List.length_append, Array.length_toList] at this
      rw [← p4, this]
      simp only [List.size_toArray, List.length_append]
      omega
    · have hl : (A ++ (a2 ++ ucs ++ b2) ++ B).length = (xs.set i ((xs.getD i un).set q y)).length * es := by rw [List.length_set, ← o1, r1, s1]; simp [s3]
      rw [← hl]
      have : (A ++ a2) ++ ucs ++ (b2 ++ B ++ R) = (A ++ (a2 ++ ucs ++ b2) ++ B) ++ R := by simp
      simp only [this]
      exact List.take_left
    · refine r5 (sh ρ) w' (fun b hb => hsh b hb) _ _ ?_ (Rp.mono (fun b hb => hsh b hb) _ s4)
      rw [← r3, s1]
      simp [s3]
  have hI1 := hI.less (kill_less (fun s' h => belowE_owner (s := s) (i := i) (q := q) s' h) hI)
  refine ⟨hI.size, fun b hb => by rw [← hW]; simpa using hI.lt b hb, hI.tab.mono hsh, fun u => ?_⟩
  by_cases h1' : s = u
  · subst h1'
    simp only [upd, if_true]
    rw [htv]
    exact RV.ofOwn hnew
  · simp only [upd, h1', if_false]
    by_cases hun : kill (belowE s i q) E u = .un
    · rw [hun]; trivial
    obtain ⟨k1, k2⟩ := kill_eq hun
    rw [k1]
    have hslot := hI.slot u
    have hown' : ∀ {p nl' e' es' xs' v}, OwnAt w a.tmps E s p nl' e' es' xs' v → p = [] ∧ nl' = nl ∧ e' = e ∧ es' = es ∧ xs' = xs ∧ v = .slice (some ⟨g, 0, none⟩) xs.length c ∧
        OwnAt w' a.tmps (upd (kill (belowE s i q) E) s (.d (.own nl e es (xs.set i ((xs.getD i un).set q y))))) s p nl e es (xs.set i ((xs.getD i un).set q y)) v := by
      intro p nl' e' es' xs' v h
      rcases h with ⟨q1, q2, q3⟩ | ⟨x', b', q1, _⟩
      · rw [hE] at q1; cases q1
        refine ⟨q2, rfl, rfl, rfl, rfl, by rw [q3, htv], .inl ⟨by simp [upd], q2, q3⟩⟩
      · rw [hE] at q1; cases q1
    by_cases hr : refers (E u) = some s
    · cases hEu : E u with
      | ref s' q' =>
        rw [hEu] at hr hslot
        simp only [refers, Option.some.injEq] at hr
        subst hr
        obtain ⟨x', b', q1, _⟩ := hslot
        rw [hE] at q1; cases q1
      | view s' q' =>
        rw [hEu] at hr hslot
        simp only [refers, Option.some.injEq] at hr
        subst hr
        obtain ⟨nl', e', es', xs', h⟩ := hslot
        exact ⟨_, _, _, _, (hown' h).2.2.2.2.2.2⟩
      | elt s' p' i' q' =>
        rw [hEu] at hr hslot k2
        simp only [refers, Option.some.injEq] at hr
        subst hr
        obtain ⟨nl', e', es', xs', g', l', c', h, t1, t2, t3⟩ := hslot
        obtain ⟨rfl, rfl, rfl, rfl, rfl, hv, hnew'⟩ := hown' h
        cases hv
        have hkey : ((xs'.set i ((xs'.getD i un).set q y)).getD i' un).okp q' ∧ ((xs'.set i ((xs'.getD i un).set q y)).getD i' un).off q' = (xs'.getD i' un).off q' := by
          by_cases hii : i = i'
          · subst hii
            rw [getD_set_eq h2]
            by_cases hqq : q = q'
            · subst hqq
              obtain ⟨z1, z2, _⟩ := D.set_at (y := y) q _ h3
              exact ⟨z1, z2⟩
            · have hn : ¬ q <+: q' := by
                intro hpre
                simp [belowE, List.isPrefixOf_iff_prefix.2 hpre, hqq] at k2
              obtain ⟨z1, z2, _⟩ := D.set_keep q _ q' h3 hsz hn t2
              exact ⟨z1, z2⟩
          · rw [getD_set_ne hii]
            exact ⟨t2, rfl⟩
        exact ⟨_, _, _, _, g, xs'.length, c, hnew', by simpa using t1, hkey.1, by rw [hkey.2]; exact t3⟩
      | sub s' p' i' j' =>
        rw [hEu] at hr hslot
        simp only [refers, Option.some.injEq] at hr
        subst hr
        obtain ⟨nl', e', es', xs', a', l', c', h, t1, t2, t3⟩ := hslot
        obtain ⟨rfl, rfl, rfl, rfl, rfl, hv, hnew'⟩ := hown' h
        cases hv
        exact ⟨_, _, _, _, _, _, c, hnew', t1, by simpa using t2, t3⟩
      | mq s' =>
        rw [hEu] at hr hslot
        simp only [refers, Option.some.injEq] at hr
        subst hr
        obtain ⟨_, m, h, _⟩ := hslot
        rw [hE] at h
        cases h
      | _ => rw [hEu] at hr; simp [refers] at hr
    · refine hslot.keep hI hsh (fun b r hb => ⟨hb, hheap b (by rintro rfl; rw [hg] at hb; cases hb; exact h1' rfl)⟩) (hbx u) (fun s' hs' => ?_) (.inl (by rw [← k1]; exact kill_nwk))
      have h2' : s' ≠ s := by rintro rfl; exact hr hs'
      have ho' := hI.refOwner hs'
      have h4' : belowE s i q (E s') = false := by
        cases hb : belowE s i q (E s') with
        | false => rfl
        | true => have := belowE_owner _ hb; rw [this] at ho'; cases ho'
      exact ⟨by simp [upd, h2'.symm, kill, h4', isWk_owner ho'], rfl, fun b hb => (hbx s' b hb).2⟩

theorem OpStep.sound {E' : Nat → Slot} (hΘ : Agree P Θ) (hI : Inv n ρ w a.tmps E) (h : OpStep P Θ n E o E') : o.wp P a w (After n ρ w a E') Q := by
  cases h with
  | ev h1 h2 h3 h4 => exact step_ev hΘ hI h1 h2 h3 h4
  | asg h1 h2 h3 h4 h5 => exact step_asg hI h1 h2 h3 h4 h5
  | app h1 h2 h3 h4 h5 h6 h7 h8 h9 h10 h11 => exact step_app hΘ hI h1 h2 h3 h4 h5 h6 h7 h8 h9 h10 h11
  | sto h1 h2 h3 h4 h5 h6 h7 => exact step_sto hΘ hI h1 h2 h3 h4 h5 h6 h7
  | elt h1 h2 h3 h4 h5 h6 h7 => exact step_elt hΘ hI h1 h2 h3 h4 h5 h6 h7
  | ext h1 h2 h3 h4 h5 h6 h7 h8 => exact step_ext hI h1 h2 h3 h4 h5 h6 h7 h8
  | raw h1 _ => exact h1 _ _ _ _ hI

end

omit [Tables] in
theorem kill_v {f : Slot → Bool} {d : Nat} {x : Value} (hf : ∀ s, f s = true → ∃ q, refers s = some q) (h : E d = .d (.v x)) : kill f E d = .d (.v x) := by
  unfold kill
  have : f (E d) = false := by
    cases hq : f (E d) with
    | false => rfl
    | true => obtain ⟨q, hq⟩ := hf _ hq; rw [h] at hq; cases hq
  rw [h] at this ⊢
  simp [this, isWk]

omit [Tables] in
theorem refersTo_some {s : Nat} (x : Slot) (h : refersTo s x = true) : ∃ q, refers x = some q := ⟨s, by simpa [refersTo] using h⟩
omit [Tables] in
theorem below_some {s : Nat} {p : List Nat} (x : Slot) (h : below s p x = true) : ∃ q, refers x = some q := by cases x <;> simp_all [below, refers]
omit [Tables] in
theorem belowE_some {s i : Nat} {p : List Nat} (x : Slot) (h : belowE s i p x = true) : ∃ q, refers x = some q := by cases x <;> simp_all [belowE, refers]

theorem OpStep.keeps {o : Oper} (h : OpStep P Θ n E o E') : Keeps E o E' := by
  intro u x hu hd
  cases h with
  | @ev d s h1 h2 h3 h4 =>
    have : d ≠ u := by rintro rfl; exact hd h1
    simp [upd, this, hu]
  | @asg d k nl e es xs h1 h2 h3 h4 h5 =>
    have h6 : d ≠ u := by rintro rfl; exact hd h1
    have h7 : k ≠ u := by rintro rfl; rw [h5] at hu; cases hu
    simp only [upd, h6, h7, if_false]
    exact kill_v refersTo_some (kill_v refersTo_some hu)
  | @app d k x' s T nl e es xs ys b h1 h2 h3 h4 h5 h6 h7 h8 h9 h10 h11 =>
    have g6 : d ≠ u := by rintro rfl; exact hd h1
    have g7 : s ≠ u := by rintro rfl; rw [h6] at hu; cases hu
    simp only [upd, g6, g7, if_false]
    exact kill_v refersTo_some hu
  | @sto T k x' s p X y h1 h2 h3 =>
    have g7 : s ≠ u := by rintro rfl; rw [h3.1] at hu; cases hu
    simp only [upd, g7, if_false]
    exact kill_v below_some hu
  | @elt T k x' s i q nl e es xs y h1 h2 h3 h4 =>
    have g7 : s ≠ u := by rintro rfl; rw [h4] at hu; cases hu
    simp only [upd, g7, if_false]
    exact kill_v belowE_some hu
  | @ext d k i ds nl e es xs h1 h2 h3 h4 h5 h6 =>
    have g6 : d ≠ u := by rintro rfl; exact hd h1
    have g7 : k ≠ u := by rintro rfl; rw [h6] at hu; cases hu
    simp only [upd, g6, g7, if_false]
    exact hu
  | raw _ h2 => exact h2 u x hu hd

end Go.Dat

namespace Go.Dat

variable [Tables]

variable {P : Program} {Θ : TypeId → TI} {n : Nat} {ρ ρ' ρ'' : Nat → Tag} {w w' w'' : World} {tmps tmps' : Array Value} {E E' E'' : Nat → Slot} {t : Nat} {u : Value}

def opTmps (o : Oper) : List Nat := o.op.operands.toList.flatMap operand

/-- E' holds what an operation looks at in E. -/
def Looks (o : Oper) (E E' : Nat → Slot) : Prop := ∀ k ∈ opTmps o, E' k = E k ∧ ∀ s, refers (E k) = some s → E' s = E s

omit [Tables] in
theorem Adr.stable {k s p x} (h : Adr E k s p x) (h1 : E' k = E k ∧ ∀ s, refers (E k) = some s → E' s = E s) : Adr E' k s p x := by
  obtain ⟨g1, g2⟩ := h
  rcases g2 with g2 | ⟨rfl, rfl⟩
  · exact ⟨by rw [h1.2 s (by rw [g2]; rfl), g1], .inl (by rw [h1.1, g2])⟩
  · exact ⟨by rw [h1.1, g1], .inr ⟨rfl, rfl⟩⟩

omit [Tables] in
theorem Vw.stable {k s p nl e es xs} (h : Vw E k s p nl e es xs) (h1 : E' k = E k ∧ ∀ s, refers (E k) = some s → E' s = E s) : Vw E' k s p nl e es xs := by
  rcases h with ⟨g1, g2⟩ | ⟨g1, rfl, rfl⟩
  · have := h1.2 s (by rw [g1]; rfl)
    exact .inl ⟨by rw [h1.1, g1], by rw [this]; exact g2⟩
  · exact .inr ⟨by rw [h1.1, g1], rfl, rfl⟩

omit [Tables] in
theorem Elt.stable {k s p i q nl e es xs} (h : Elt E k s p i q nl e es xs) (h1 : E' k = E k ∧ ∀ s, refers (E k) = some s → E' s = E s) : Elt E' k s p i q nl e es xs := by
  obtain ⟨g1, g2⟩ := h
  have := h1.2 s (by rw [g1]; rfl)
  exact ⟨by rw [h1.1, g1], by rw [this]; exact g2⟩

omit [Tables] in
theorem Src.stable {x es ys} (h : Src E x es ys) (h1 : ∀ k ∈ operand x, E' k = E k ∧ ∀ s, refers (E k) = some s → E' s = E s) : Src E' x es ys := by
  cases h with
  | lst h => exact .lst (h.stable fun k hk => (h1 k hk).1)
  | vw h => exact .vw (h.stable (h1 _ (by simp [operand])))
  | @sub k s i j nl e es xs h g => have := h1 k (by simp [operand]); exact .sub (by rw [this.1]; exact h) (by rw [this.2 s (by rw [h]; rfl)]; exact g)

omit [Tables] in
theorem BArgs.stable {os : List Operand} {xs : List D} (h : BArgs E os xs) (h1 : ∀ k ∈ os.flatMap operand, E' k = E k ∧ ∀ s, refers (E k) = some s → E' s = E s) : BArgs E' os xs := by
  induction h with
  | nil => exact .nil
  | plain h2 _ ih =>
    simp only [List.flatMap_cons, List.mem_append] at h1
    exact .plain (h2.stable fun t ht => (h1 t (.inl ht)).1) (ih fun t ht => h1 t (.inr ht))
  | own h2 h3 _ ih =>
    simp only [List.flatMap_cons, List.mem_append] at h1
    exact .own (h2.stable (h1 _ (.inl (by simp [operand])))) h3 (ih fun t ht => h1 t (.inr ht))

omit [Tables] in
theorem Bnd.stable {x d i} (h : Bnd E x d i) (h1 : ∀ y, x = some y → ∀ k ∈ operand y, E' k = E k) : Bnd E' x d i := by
  cases h with
  | no => exact .no
  | «at» h h0 => exact .at (h.stable (h1 _ rfl)) h0

omit [Tables] in
theorem WOp.stable {o : Operand} {x : D} (h : WOp E o x) (h1 : ∀ k ∈ operand o, E' k = E k ∧ ∀ s, refers (E k) = some s → E' s = E s) : WOp E' o x := by
  cases h with
  | pl h => exact .pl (h.stable fun k hk => (h1 k hk).1)
  | wk h hx => exact .wk (by rw [(h1 _ (by simp [operand])).1]; exact h) hx
  | adr h => exact .adr (h.stable (h1 _ (by simp [operand])))
  | vw h => exact .vw (h.stable (h1 _ (by simp [operand])))
  | elt h => exact .elt (h.stable (h1 _ (by simp [operand])))

omit [Tables] in
theorem WOps.stable {os : List Operand} {xs : List D} (h : WOps E os xs) (h1 : ∀ k ∈ os.flatMap operand, E' k = E k ∧ ∀ s, refers (E k) = some s → E' s = E s) : WOps E' os xs := by
  induction h with
  | nil => exact .nil
  | cons h2 _ ih =>
    simp only [List.flatMap_cons, List.mem_append] at h1
    exact .cons (h2.stable fun t ht => h1 t (.inl ht)) (ih fun t ht => h1 t (.inr ht))

theorem Ev.stable {o : Oper} {s : Slot} (h : Ev P Θ E o s) (hl : Looks o E E') : Ev P Θ E' o s := by
  have hl' := hl
  have one : ∀ {x : Operand} {d : D}, OpD E x d → x ∈ o.op.operands.toList → OpD E' x d := fun h hx =>
    h.stable fun k hk => (hl k (List.mem_flatMap.2 ⟨_, hx, hk⟩)).1
  have many : ∀ {xs : List Operand} {ds : List D}, OpDs E xs ds → (∀ x ∈ xs, x ∈ o.op.operands.toList) → OpDs E' xs ds := fun h hx =>
    h.stable fun k hk => by
      obtain ⟨x, h1, h2⟩ := List.mem_flatMap.1 hk
      exact (hl k (List.mem_flatMap.2 ⟨x, hx x h1, h2⟩)).1
  have at' : ∀ {k : Nat}, Operand.tmp k ∈ o.op.operands.toList → E' k = E k ∧ ∀ s, refers (E k) = some s → E' s = E s := fun hk => hl _ (List.mem_flatMap.2 ⟨_, hk, by simp [operand]⟩)
  cases h with
  | mv ho hx => exact .mv ho (one hx (by rcases ho with ho | ho <;> simp [ho, Op.operands]))
  | mvBox ho hs => exact .mvBox ho (by rw [(at' (by simp [ho, Op.operands])).1]; exact hs)
  | mvOwn ho hs => exact .mvOwn ho (by rw [(at' (by simp [ho, Op.operands])).1]; exact hs)
  | mvSame ho hs hsame => exact .mvSame ho (by rw [(at' (by rcases ho with ho | ho | ho <;> simp [ho, Op.operands])).1]; exact hs) hsame
  | mvTup ho hs hn => exact .mvTup ho (by rw [(at' (by simp [ho, Op.operands])).1]; exact hs) hn
  | pickT ho hc hx => exact .pickT ho (one hc (by simp [ho, Op.operands])) (one hx (by simp [ho, Op.operands]))
  | pickF ho hc hx => exact .pickF ho (one hc (by simp [ho, Op.operands])) (one hx (by simp [ho, Op.operands]))
  | alloc ho hk => exact .alloc ho hk
  | box ho hx => exact .box ho (one hx (by simp [ho, Op.operands]))
  | ldBox ho hk hf hp => exact .ldBox ho (hk.stable (at' (by simp [ho, Op.operands]))) hf hp
  | ldView ho hk hx hf => exact .ldView ho (hk.stable (at' (by simp [ho, Op.operands]))) hx hf
  | ldElt ho hk hf => exact .ldElt ho (hk.stable (at' (by simp [ho, Op.operands]))) hf
  | ldPt ho hk hf => exact .ldPt ho (by rw [(at' (by simp [ho, Op.operands])).1]; exact hk) hf
  | faBox ho hk hx hf ht hfs => exact .faBox ho (hk.stable (at' (by simp [ho, Op.operands]))) hx hf ht hfs
  | faElt ho hk hx hf ht hfs => exact .faElt ho (hk.stable (at' (by simp [ho, Op.operands]))) hx hf ht hfs
  | faPt ho hk hf ht hfs => exact .faPt ho (by rw [(at' (by simp [ho, Op.operands])).1]; exact hk) hf ht hfs
  | iaBox ho hk hx hix h0 hi ht => exact .iaBox ho (hk.stable (at' (by simp [ho, Op.operands]))) hx (one hix (by simp [ho, Op.operands])) h0 hi ht
  | iaPt ho hk hix h0 hi ht => exact .iaPt ho (by rw [(at' (by simp [ho, Op.operands])).1]; exact hk) (one hix (by simp [ho, Op.operands])) h0 hi ht
  | iaLst ho hx hix h0 hi ht => exact .iaLst ho (one hx (by simp [ho, Op.operands])) (one hix (by simp [ho, Op.operands])) h0 hi ht
  | iaView ho hk hix h0 hi ht => exact .iaView ho (hk.stable (at' (by simp [ho, Op.operands]))) (one hix (by simp [ho, Op.operands])) h0 hi ht
  | buildSlice ho hx hi ht hs hb => exact .buildSlice ho (many hx (by simp [ho, Op.operands])) hi ht hs hb
  | buildShared ho hx hi ht hs hb => exact .buildShared ho (many hx (by simp [ho, Op.operands])) hi ht hs hb
  | build ho hx ht hz hp => exact .build ho (many hx (by simp [ho, Op.operands])) ht hz hp
  | bin ho hx hy hb => exact .bin ho (one hx (by simp [ho, Op.operands])) (one hy (by simp [ho, Op.operands])) hb
  | uno ho hx hb => exact .uno ho (one hx (by simp [ho, Op.operands])) hb
  | cv ho hx hb => exact .cv ho (one hx (by simp [ho, Op.operands])) hb
  | mf ho hf hc => exact .mf ho (many hf (fun x hx => by simp [ho, Op.operands]; exact .inl (by simpa using hx))) (many hc (fun x hx => by simp [ho, Op.operands]; exact .inr (by simpa using hx)))
  | ext ho hk hi hp => exact .ext ho (by rw [(at' (by simp [ho, Op.operands])).1]; exact hk) hi hp
  | lenView ho hk ht => exact .lenView ho (hk.stable (at' (by simp [ho, Op.operands, Call.operands]))) ht
  | subView ho hk ht hl hh h1 h2 =>
    refine .subView ho (hk.stable (at' (by simp [ho, Op.operands]))) ht (hl.stable fun x hx => ?_) (hh.stable fun x hx => ?_) h1 h2
    · exact fun k hk => (hl' k (List.mem_flatMap.2 ⟨x, by simp [ho, Op.operands, hx], hk⟩)).1
    · exact fun k hk => (hl' k (List.mem_flatMap.2 ⟨x, by simp [ho, Op.operands, hx], hk⟩)).1
  | lenSub ho hk ht => exact .lenSub ho (by rw [(at' (by simp [ho, Op.operands, Call.operands])).1]; exact hk) ht
  | @iaSub T k ix s p i j nl e es xs ik m e' b ho hk hs hp hix h0 hi ht =>
    have := at' (k := k) (by simp [ho, Op.operands])
    exact .iaSub ho (by rw [this.1]; exact hk) (by rw [this.2 s (by rw [hk]; rfl)]; exact hs) hp (one hix (by simp [ho, Op.operands])) h0 hi ht
  | mk ho hl hc ht hk hz h0 hb hm => exact .mk ho (one hl (by simp [ho, Op.operands])) (one hc (by simp [ho, Op.operands])) ht hk hz h0 hb hm
  | plain hx hz => exact .plain (fun x hx' => ⟨one (hx x hx').1 (hx x hx').2, (hx x hx').2⟩) hz
  | appNil ho hs hx ht hb hm =>
    exact .appNil ho (one hs (by simp [ho, Op.operands, Call.operands])) (hx.stable fun k hk => hl k (List.mem_flatMap.2 ⟨_, by simp [ho, Op.operands, Call.operands], hk⟩)) ht hb hm
  | callB ho hf ha hc hd hr =>
    exact .callB ho (one hf (by simp [ho, Op.operands, Call.operands])) (ha.stable fun k hk => by
      obtain ⟨x, h1, h2⟩ := List.mem_flatMap.1 hk
      exact hl k (List.mem_flatMap.2 ⟨x, by simp [ho, Op.operands, Call.operands]; exact .inr (by simpa using h1), h2⟩)) hc hd hr
  | call ho hf ha hc hd =>
    exact .call ho (one hf (by simp [ho, Op.operands, Call.operands])) (many ha (fun x hx => by simp [ho, Op.operands, Call.operands]; exact .inr (by simpa using hx))) hc hd
  | wmv ho hk => exact .wmv ho (by rw [(at' (by rcases ho with ho | ho <;> simp [ho, Op.operands])).1]; exact hk)
  | wplain hx hz => exact .wplain (fun x hx' => ⟨(hx x hx').1.stable fun k hk => hl' k (List.mem_flatMap.2 ⟨_, (hx x hx').2, hk⟩), (hx x hx').2⟩) hz
  | wplainF hx hz hf => exact .wplainF (fun x hx' => ⟨(hx x hx').1.stable fun k hk => hl' k (List.mem_flatMap.2 ⟨_, (hx x hx').2, hk⟩), (hx x hx').2⟩) hz hf
  | wmf ho hf hc =>
    exact .wmf ho (hf.stable fun k hk => by
      obtain ⟨x, h1, h2⟩ := List.mem_flatMap.1 hk
      exact hl' k (List.mem_flatMap.2 ⟨x, by simp [ho, Op.operands]; exact .inl (by simpa using h1), h2⟩)) (hc.stable fun k hk => by
      obtain ⟨x, h1, h2⟩ := List.mem_flatMap.1 hk
      exact hl' k (List.mem_flatMap.2 ⟨x, by simp [ho, Op.operands]; exact .inr (by simpa using h1), h2⟩))
  | wext ho hk hi => exact .wext ho (by rw [(at' (by simp [ho, Op.operands])).1]; exact hk) hi
  | wextF ho hk hi hf => exact .wextF ho (by rw [(at' (by simp [ho, Op.operands])).1]; exact hk) hi hf
  | wcall ho hf ha hc hd hr =>
    exact .wcall ho (hf.stable fun k hk => hl' k (List.mem_flatMap.2 ⟨_, by simp [ho, Op.operands, Call.operands], hk⟩)) (ha.stable fun k hk => by
      obtain ⟨x, h1, h2⟩ := List.mem_flatMap.1 hk
      exact hl' k (List.mem_flatMap.2 ⟨x, by simp [ho, Op.operands, Call.operands]; exact .inr (by simpa using h1), h2⟩)) hc hd hr
  | mvMap ho hs => exact .mvMap ho (by rw [(at' (by rcases ho with ho | ho <;> simp [ho, Op.operands])).1]; exact hs)
  | mvMq ho hs => exact .mvMq ho (by rw [(at' (by rcases ho with ho | ho <;> simp [ho, Op.operands])).1]; exact hs)
  | makeMap ho => exact .makeMap ho
  | @lookup T q x s k m i T1 T2 d k0 ho hq hs hT hT1 hx hm hp =>
    have h1 := at' (k := q) (by simp [ho, Op.operands])
    exact .lookup ho (by rw [h1.1]; exact hq) (by rw [h1.2 _ (by rw [hq]; rfl)]; exact hs) hT hT1 (one hx (by simp [ho, Op.operands])) hm hp
  | @lookupNo T q x s k m i T1 T2 k0 ho hq hs hT hT1 hx hm hz hp =>
    have h1 := at' (k := q) (by simp [ho, Op.operands])
    exact .lookupNo ho (by rw [h1.1]; exact hq) (by rw [h1.2 _ (by rw [hq]; rfl)]; exact hs) hT hT1 (one hx (by simp [ho, Op.operands])) hm hz hp
  | @lookupOk T q x s k m i T1 T2 d k0 ho hq hs hT hT1 hx hm hp =>
    have h1 := at' (k := q) (by simp [ho, Op.operands])
    exact .lookupOk ho (by rw [h1.1]; exact hq) (by rw [h1.2 _ (by rw [hq]; rfl)]; exact hs) hT hT1 (one hx (by simp [ho, Op.operands])) hm hp
  | @lookupOkNo T q x s k m i T1 T2 k0 ho hq hs hT hT1 hx hm hz hp =>
    have h1 := at' (k := q) (by simp [ho, Op.operands])
    exact .lookupOkNo ho (by rw [h1.1]; exact hq) (by rw [h1.2 _ (by rw [hq]; rfl)]; exact hs) hT hT1 (one hx (by simp [ho, Op.operands])) hm hz hp
  | wcallW ho hf ha hc hd hr =>
    exact .wcallW ho (hf.stable fun k hk => hl' k (List.mem_flatMap.2 ⟨_, by simp [ho, Op.operands, Call.operands], hk⟩)) (ha.stable fun k hk => by
      obtain ⟨x, h1, h2⟩ := List.mem_flatMap.1 hk
      exact hl' k (List.mem_flatMap.2 ⟨x, by simp [ho, Op.operands, Call.operands]; exact .inr (by simpa using h1), h2⟩)) hc hd hr

/-- What is referred to is an owner. -/
def WF (E : Nat → Slot) : Prop := ∀ u s, refers (E u) = some s → owner (E s) = true

theorem Inv.wf (hI : Inv n ρ w tmps E) : WF E := fun _ _ h => hI.refOwner h

omit [Tables] in
theorem Adr.own {k s p x} (h : Adr E k s p x) : owner (E s) = true := by rw [h.1]; rfl

theorem Ev.wf {o : Oper} {s : Slot} (h : Ev P Θ E o s) (hw : WF E) {s' : Nat} (hr : refers s = some s') : owner (E s') = true := by
  cases h with
  | mvBox ho hs => simp only [refers, Option.some.injEq] at hr; subst hr; rw [hs]; rfl
  | mvOwn ho hs => simp only [refers, Option.some.injEq] at hr; subst hr; rw [hs]; rfl
  | @mvSame k _ ho hs hsame => exact hw k s' (by rw [hs]; exact hr)
  | mvMap ho hs => simp only [refers, Option.some.injEq] at hr; subst hr; rw [hs]; rfl
  | @mvMq k s ho hs => exact hw k s' (by rw [hs]; exact hr)
  | ldView ho hk => simp only [refers, Option.some.injEq] at hr; subst hr; exact hk.own
  | faBox ho hk => simp only [refers, Option.some.injEq] at hr; subst hr; exact hk.own
  | @faElt T k f s p i q nl e es xs ds fs Tf ho hk => simp only [refers, Option.some.injEq] at hr; subst hr; exact hw k s (by rw [hk.1]; rfl)
  | iaBox ho hk => simp only [refers, Option.some.injEq] at hr; subst hr; exact hk.own
  | subView ho hk =>
    simp only [refers, Option.some.injEq] at hr
    subst hr
    rcases hk with ⟨h1, h2 | ⟨x, h2, _⟩⟩ | ⟨h1, rfl, rfl⟩
    · rw [h2]; rfl
    · rw [h2]; rfl
    · rw [h1]; rfl
  | iaSub ho hk hs => simp only [refers, Option.some.injEq] at hr; subst hr; rw [hs]; rfl
  | iaView ho hk =>
    simp only [refers, Option.some.injEq] at hr
    subst hr
    rcases hk with ⟨h1, h2 | ⟨x, h2, _⟩⟩ | ⟨h1, rfl, rfl⟩
    · rw [h2]; rfl
    · rw [h2]; rfl
    · rw [h1]; rfl
  | _ => simp [refers] at hr

/-! ### Chains of steps -/

/-- Whether an operation is carried out, as far as the frame tells. -/
def Wants (ops : Array Oper) (E : Nat → Slot) (o : Oper) (b : Bool) : Prop :=
  match o.guard with
  | none => b = true
  | some (j, want) => ∃ oj d, ops[j]? = some oj ∧ oj.dst = some d ∧ ((∃ c, E d = .d (.v (.bool c)) ∧ b = (c == want)) ∨ (E d = .no ∧ b = false))

theorem Wants.sound {ops : Array Oper} {o : Oper} {b : Bool} {a : Act} (hI : Inv n ρ w a.tmps E) (h : Wants ops E o b) : Region.wanted o (yielded ops a.tmps) = b := by
  unfold Wants at h
  unfold Region.wanted
  cases hg : o.guard with
  | none => rw [hg] at h; exact h.symm
  | some g =>
    obtain ⟨j, want⟩ := g
    rw [hg] at h
    obtain ⟨oj, d, h1, h2, h3⟩ := h
    simp only
    rcases h3 with ⟨c, h3, h4⟩ | ⟨h3, h4⟩
    · have h5 := hI.slot d
      rw [h3] at h5
      have h6 := ((RV.plain (x := .v (.bool c)) rfl).1 h5).v
      have hd : d < a.tmps.size := by
        refine Classical.byContradiction fun hn => ?_
        simp only [Array.getD_eq_getD_getElem?, Array.getElem?_eq_none (Nat.le_of_not_lt hn), Option.getD_none, undef] at h6
        cases h6
      have hget : a.tmps[d]? = some (.bool c) := by
        rw [← h6]
        simp [hd]
      simp only [yielded, h1, h2, Option.bind_some, hget, h4]
      cases c <;> cases want <;> rfl
    · have h5 := hI.slot d
      rw [h3] at h5
      have h6 : a.tmps.getD d undef = undef := h5
      have hy : yielded ops a.tmps j = none := by
        simp only [yielded, h1, h2, Option.bind_some]
        by_cases hd : d < a.tmps.size
        · have hget : a.tmps[d]? = some undef := by
            rw [← h6]
            simp [hd]
          rw [hget]
          rfl
        · rw [Array.getElem?_eq_none (Nat.le_of_not_lt hd)]
      rw [hy, h4]
      rfl

inductive Step1 (P : Program) (Θ : TypeId → TI) (n : Nat) (ops : Array Oper) (E : Nat → Slot) (o : Oper) : Bool → (Nat → Slot) → Prop
  | go {E1} : Wants ops E o true → OpStep P Θ n E o E1 → Step1 P Θ n ops E o true E1
  | quiet {d s} : Wants ops E o true → o.dst = some d → d < n → owner (E d) = false → Ev P Θ E o s → Step1 P Θ n ops E o false (upd E d s)
  | skip {d} : Wants ops E o false → o.dst = some d → d < n → owner (E d) = false → Step1 P Θ n ops E o false (upd E d .no)

/-- A scalar is moved. -/
def ScMove (E : Nat → Slot) (o : Oper) (E1 : Nat → Slot) : Prop := ∃ d k c, o.dst = some d ∧ o.op = .move (.tmp k) ∧ o.guard = none ∧ E k = .d (.v c) ∧ k ≠ d ∧ c.oneCell' = true ∧ E1 = upd E d (.d (.v c))

/-- Steps, one behind the other; loud: those that do more than yield. -/
inductive Chain (P : Program) (Θ : TypeId → TI) (n : Nat) (ops : Array Oper) (loud : List Nat) : List Nat → (Nat → Slot) → (Nat → Slot) → Prop
  | nil {E0} : Chain P Θ n ops loud [] E0 E0
  | cons {i is o b E0 E1 E2} : ops[i]? = some o → (b = true → i ∈ loud) → (ops.size + i ∈ loud → ScMove E0 o E1) → Step1 P Θ n ops E0 o b E1 → Chain P Θ n ops loud is E1 E2 → Chain P Θ n ops loud (i :: is) E0 E2

end Go.Dat

namespace Go.Dat

variable [Tables]

variable {P : Program} {Θ : TypeId → TI} {n : Nat} {ρ ρ' ρ'' : Nat → Tag} {w w' w'' : World} {tmps tmps' : Array Value} {E E' E1 E2 : Nat → Slot} {t : Nat} {u : Value}
variable {ops : Array Oper} {loud : List Nat} {Q : Exit → Act → World → Prop}

theorem After.trans {a a' a'' : Act} (h : a'.defers = a.defers ∧ Fr ρ w ρ' w') (k : After n ρ' w' a' E' a'' w'') : After n ρ w a E' a'' w'' := by
  obtain ⟨k1, ρ2, k2, k3⟩ := k
  exact ⟨k1.trans h.1, ρ2, h.2.trans k2, k3⟩

theorem Step1.wp {o : Oper} {b : Bool} {i : Nat} {a : Act} {K : Act → World → Prop} (hΘ : Agree P Θ) (hI : Inv n ρ w a.tmps E) (h : Step1 P Θ n ops E o b E') (hi : ops[i]? = some o)
    (hK : ∀ a' w', After n ρ w a E' a' w' → K a' w') : wpOp P ops Q i K a w := by
  unfold wpOp
  rw [hi]
  cases h with
  | go hw h =>
    simp only [hw.sound hI, if_true]
    exact .inl (Oper.wp_mono hK (OpStep.sound hΘ hI h))
  | quiet hw hd hn ho h =>
    simp only [hw.sound hI, if_true]
    exact .inl (Oper.wp_mono hK (step_ev hΘ hI hd hn ho h))
  | @skip d hw hd hn ho =>
    simp only [hw.sound hI, Bool.false_eq_true, if_false]
    refine hK _ _ ?_
    rw [put_some hd]
    exact ⟨rfl, ρ, Fr.refl _ _, hI.put hn ho rfl⟩

theorem Chain.wpOps {l : List Nat} (hΘ : Agree P Θ) (h : Chain P Θ n ops loud l E E') : ∀ {ρ : Nat → Tag} {w : World} {a : Act}, Inv n ρ w a.tmps E → (∀ a' w', After n ρ w a E' a' w' → Q .normal a' w') → wpOps P ops Q l a w := by
  induction h with
  | nil => exact fun hI hQ => hQ _ _ ⟨rfl, _, Fr.refl _ _, hI⟩
  | cons h1 _ _ h3 _ ih =>
    intro ρ w a hI hQ
    rw [wpOps_cons]
    refine h3.wp hΘ hI h1 fun a' w' ⟨k1, ρ', k2, k3⟩ => ih k3 fun a2 w2 h => hQ a2 w2 (After.trans ⟨k1, k2⟩ h)

def gTmps (ops : Array Oper) (o : Oper) : List Nat :=
  match o.guard with
  | none => []
  | some (j, _) => ((ops[j]?).bind (·.dst)).toList

def namesOf (ops : Array Oper) (o : Oper) : List Nat := opTmps o ++ gTmps ops o

def apartB (ops : Array Oper) (x y : Oper) : Bool :=
  match x.dst, y.dst with
  | some d, some e => d != e && !(namesOf ops y).contains d && !(namesOf ops x).contains e
  | _, _ => false

omit [Tables] in
theorem upd_ne {d k : Nat} {s : Slot} (h : d ≠ k) : upd E d s k = E k := by simp [upd, h]

omit [Tables] in
theorem upd_comm {d e : Nat} {s s' : Slot} (h : d ≠ e) : upd (upd E d s) e s' = upd (upd E e s') d s := by
  funext k
  simp only [upd]
  by_cases h1 : e = k
  · subst h1; simp [h]
  · simp [h1]

omit [Tables] in
theorem Wants.stable {o : Oper} {b : Bool} (h : Wants ops E o b) (hE : ∀ k ∈ gTmps ops o, E' k = E k) : Wants ops E' o b := by
  unfold Wants at h ⊢
  unfold gTmps at hE
  cases hg : o.guard with
  | none => rw [hg] at h; exact h
  | some g =>
    obtain ⟨j, want⟩ := g
    rw [hg] at h hE
    obtain ⟨oj, d, h1, h2, h3⟩ := h
    have := hE d (by simp [h1, h2])
    exact ⟨oj, d, h1, h2, by rw [this]; exact h3⟩

/-- A quiet step, in one form. -/
theorem Step1.cases {o : Oper} (h : Step1 P Θ n ops E o false E') : ∃ d s, o.dst = some d ∧ d < n ∧ owner (E d) = false ∧ E' = upd E d s ∧ ((Wants ops E o true ∧ Ev P Θ E o s) ∨ (Wants ops E o false ∧ s = .no)) := by
  cases h with
  | quiet hw hd hn ho h => exact ⟨_, _, hd, hn, ho, rfl, .inl ⟨hw, h⟩⟩
  | skip hw hd hn ho => exact ⟨_, _, hd, hn, ho, rfl, .inr ⟨hw, rfl⟩⟩

theorem Step1.wf {o : Oper} (h : Step1 P Θ n ops E o false E') (hw : WF E) : WF E' := by
  obtain ⟨d, s, hd, hn, ho, rfl, h2⟩ := h.cases
  intro u s' hr
  simp only [upd] at hr
  have key : owner (E s') = true → owner (upd E d s s') = true := by
    intro h
    have : d ≠ s' := by rintro rfl; rw [ho] at h; cases h
    rw [upd_ne this]; exact h
  split at hr
  · rcases h2 with ⟨_, h2⟩ | ⟨_, rfl⟩
    · exact key (h2.wf hw hr)
    · simp [refers] at hr
  · exact key (hw u s' hr)

/-- Two quiet steps apart from each other change places. -/
theorem Step1.swap {x y : Oper} (hw : WF E) (h1 : Step1 P Θ n ops E x false E1) (h2 : Step1 P Θ n ops E1 y false E2) (hap : apartB ops x y = true) :
    ∃ E3, Step1 P Θ n ops E y false E3 ∧ Step1 P Θ n ops E3 x false E2 := by
  obtain ⟨d, s, hd, hn, ho, rfl, k1⟩ := h1.cases
  obtain ⟨e, s', he, hn', ho', rfl, k2⟩ := h2.cases
  simp only [apartB, hd, he, Bool.and_eq_true, bne_iff_ne, ne_eq, Bool.not_eq_true', List.contains_eq_mem, decide_eq_false_iff_not, namesOf, List.mem_append, not_or] at hap
  obtain ⟨⟨hde, hy⟩, hx⟩ := hap
  have hoe : owner (E e) = false := by rw [upd_ne hde] at ho'; exact ho'
  -- y looks at the same things without x
  have l1 : Looks y (upd E d s) E := by
    intro k hk
    have hdk : d ≠ k := by rintro rfl; exact hy.1 hk
    refine ⟨(upd_ne hdk).symm, fun q hq => ?_⟩
    rw [upd_ne hdk] at hq
    have := hw k q hq
    have hdq : d ≠ q := by rintro rfl; rw [ho] at this; cases this
    exact (upd_ne hdq).symm
  have l2 : Looks x E (upd E e s') := by
    intro k hk
    have hek : e ≠ k := by rintro rfl; exact hx.1 hk
    refine ⟨upd_ne hek, fun q hq => ?_⟩
    have := hw k q hq
    have heq : e ≠ q := by rintro rfl; rw [hoe] at this; cases this
    exact upd_ne heq
  have g1 : ∀ b, Wants ops (upd E d s) y b → Wants ops E y b := fun b h => h.stable fun k hk => (upd_ne (by rintro rfl; exact hy.2 hk)).symm
  have g2 : ∀ b, Wants ops E x b → Wants ops (upd E e s') x b := fun b h => h.stable fun k hk => upd_ne (by rintro rfl; exact hx.2 hk)
  have hod : owner (upd E e s' d) = false := by rw [upd_ne (Ne.symm hde)]; exact ho
  refine ⟨upd E e s', ?_, ?_⟩
  · rcases k2 with ⟨q1, q2⟩ | ⟨q1, rfl⟩
    · exact .quiet (g1 _ q1) he hn' hoe (q2.stable l1)
    · exact .skip (g1 _ q1) he hn' hoe
  · rw [upd_comm hde]
    rcases k1 with ⟨q1, q2⟩ | ⟨q1, rfl⟩
    · exact .quiet (g2 _ q1) hd hn hod (q2.stable l2)
    · exact .skip (g2 _ q1) hd hn hod

omit [Tables] in
theorem Wants.none' {o : Oper} (h : o.guard = none) : Wants ops E o true := by unfold Wants; rw [h]

theorem ScMove.swap {x y : Oper} {E3 : Nat → Slot} (hsc : ScMove E x E1) (_h1 : Step1 P Θ n ops E x false E1) (h2 : Step1 P Θ n ops E1 y false E2) (h3 : Step1 P Θ n ops E y false E3) (h4 : Step1 P Θ n ops E3 x false E2) (hap : apartB ops x y = true) : ScMove E3 x E2 := by
  obtain ⟨d, k, c, hd, ho, hg, hk, hkd, h1c, hE1⟩ := hsc
  obtain ⟨e, s', he, _, _, hE2, _⟩ := h2.cases
  obtain ⟨e', s'', he', _, _, hE3, _⟩ := h3.cases
  obtain ⟨d', sd, hd', _, _, hE2', _⟩ := h4.cases
  rw [hd] at hd'; cases hd'
  rw [he] at he'; cases he'
  simp only [apartB, hd, he, Bool.and_eq_true, bne_iff_ne, ne_eq, Bool.not_eq_true', List.contains_eq_mem, decide_eq_false_iff_not, namesOf, List.mem_append, not_or] at hap
  obtain ⟨⟨hde, hy⟩, hx⟩ := hap
  have hek : e ≠ k := by rintro rfl; exact hx.1 (by simp [opTmps, ho, Op.operands, operand])
  refine ⟨d, k, c, hd, ho, hg, by rw [hE3, upd_ne hek]; exact hk, hkd, h1c, ?_⟩
  rw [hE2']
  have : upd E3 d sd d = E2 d := by rw [← hE2']
  rw [hE2, hE1, upd_ne (Ne.symm hde)] at this
  simp only [upd, if_true] at this
  rw [this]

def notSelect : Op → Bool
  | .select _ _ => false
  | _ => true

/-- As apartB, whether or not the second yields. -/
def apartB' (ops : Array Oper) (x y : Oper) : Bool := match y.dst with | some _ => apartB ops x y | none => true

def apartL (ops : Array Oper) (x y : Oper) : Bool :=
  match x.dst with
  | some d => !(namesOf ops y).contains d && y.dst != some d && !((opTmps x).any fun k => y.dst == some k) && notSelect y.op
  | none => false

theorem RawOp.apart {y : Oper} {d : Nat} {c : Value} (hn : d < n) (hod : owner (E d) = false) (h1c : c.oneCell' = true) (h : RawOp P n (upd E d (.d (.v c))) y E2) (hy : d ∉ opTmps y) (hs : notSelect y.op = true) (hd : y.dst ≠ some d) (h2 : E2 d = .d (.v c)) :
    RawOp P n E y (upd E2 d (match E d with | .d (.v z) => .d (.v z) | _ => .un)) := by
  intro ρ w a Q hI
  have hd' : d < a.tmps.size := by rw [hI.size]; exact hn
  have hI1 : Inv n ρ w (a.tmps.setIfInBounds d c) (upd E d (.d (.v c))) := hI.put hn hod (RD.ofV h1c).rv
  have key := h ρ w { a with tmps := a.tmps.setIfInBounds d c } (fun e _ w' => ∀ a'', Q e a'' w') hI1
  have hexec : execOp ({ a with tmps := a.tmps.setIfInBounds d c } : Act).eval y = execOp a.eval y := by
    refine execOp_congr y (fun cs b hop => by rw [hop] at hs; cases hs) fun x hx => ?_
    cases x with
    | tmp k =>
      show (a.tmps.setIfInBounds d c).getD k undef = a.tmps.getD k undef
      rw [getD_put _ _ _ _ hd', if_neg]
      rintro rfl
      exact hy (List.mem_flatMap.2 ⟨.tmp d, by simpa using hx, by simp [operand]⟩)
    | _ => rfl
  unfold Oper.wp at key ⊢
  rw [hexec] at key
  have fin : ∀ (v : Value) (w' : World), (({ a with tmps := a.tmps.setIfInBounds d c } : Act).put y.dst v).defers = a.defers ∧ (∃ ρ', Fr ρ w ρ' w' ∧ Inv n ρ' w' (({ a with tmps := a.tmps.setIfInBounds d c } : Act).put y.dst v).tmps E2) →
      (a.put y.dst v).defers = a.defers ∧ ∃ ρ', Fr ρ w ρ' w' ∧ Inv n ρ' w' (a.put y.dst v).tmps (upd E2 d (match E d with | .d (.v z) => .d (.v z) | _ => .un)) := by
    rintro v w' ⟨_, ρ', k1, k2⟩
    refine ⟨by cases y.dst <;> rfl, ρ', k1, ?_⟩
    have hrs : RS ρ' w' (({ a with tmps := a.tmps.setIfInBounds d c } : Act).put y.dst v).tmps E2 d (a.tmps.getD d undef) (match E d with | .d (.v z) => .d (.v z) | _ => .un) := by
      have h0 := hI.slot d
      split
      · next z hz =>
        rw [hz] at h0
        obtain ⟨cs, q1, q2⟩ := (RV.plain (x := .v z) rfl).1 h0
        simp only [Rp] at q1
        exact (RV.plain (x := .v z) rfl).2 ⟨cs, by simpa only [Rp] using q1, q2⟩
      · trivial
    have hput := k2.put hn (by rw [h2]; rfl) hrs
    have harr : (({ a with tmps := a.tmps.setIfInBounds d c } : Act).put y.dst v).tmps.setIfInBounds d (a.tmps.getD d undef) = (a.put y.dst v).tmps := by
      have hself : (a.tmps.setIfInBounds d c).setIfInBounds d (a.tmps.getD d undef) = a.tmps := by
        apply Array.ext_getElem?
        intro k
        simp only [Array.getElem?_setIfInBounds, Array.size_setIfInBounds]
        split
        · next hk => subst hk; simp [hd']
        · rfl
      cases hdst : y.dst with
      | none => exact hself
      | some e =>
        have hne : e ≠ d := by rintro rfl; exact hd hdst
        show ((a.tmps.setIfInBounds d c).setIfInBounds e v).setIfInBounds d (a.tmps.getD d undef) = a.tmps.setIfInBounds e v
        rw [Array.setIfInBounds_comm _ _ hne, hself]
    rw [harr] at hput
    exact hput
  generalize hres : (execOp a.eval y).run P w = res at key ⊢
  cases res with
  | ok nx w' =>
    cases nx with
    | value v => exact fin v w' key
    | skip => exact fin undef w' key
    | «defer» dd =>
      exfalso
      have := key.1
      cases hdst : y.dst <;> simp [hdst, Act.put] at this
    | enter f args =>
      refine Calls.mono key ?_
      intro ex w'' hh
      cases ex with
      | returned v => exact fin v w'' hh
      | panicked chain => exact hh a
      | outgrown => obtain ⟨a1, w1, hq⟩ := hh; exact ⟨a, w1, hq a⟩
    | row row args => exact Rows.mono key fun v w'' hh => fin v w'' hh
    | _ => exact key
  | halt x w' =>
    cases x with
    | panic v => exact key a
    | _ => exact key

/-- A scalar that is moved, and one that does more, change places. -/
theorem Step1.swapL {x y : Oper} (hΘ : Agree P Θ) (hsc : ScMove E x E1) (h1 : Step1 P Θ n ops E x false E1) (h2 : Step1 P Θ n ops E1 y true E2) (hap : apartL ops x y = true) :
    ∃ E3, Step1 P Θ n ops E y true E3 ∧ Step1 P Θ n ops E3 x false E2 ∧ ScMove E3 x E2 := by
  obtain ⟨d, k, c, hd, ho, hg, hk, hkd, h1c, rfl⟩ := hsc
  obtain ⟨d', s, hdd, hn, hod, _, _⟩ := h1.cases
  rw [hd] at hdd; cases hdd
  simp only [apartL, hd, Bool.and_eq_true, bne_iff_ne, ne_eq, Bool.not_eq_true', List.contains_eq_mem, decide_eq_false_iff_not, namesOf, List.mem_append, not_or, List.any_eq_false, beq_iff_eq] at hap
  obtain ⟨⟨⟨hy, hyd⟩, hx⟩, hsel⟩ := hap
  have hyk : y.dst ≠ some k := hx k (by simp [opTmps, ho, Op.operands, operand])
  cases h2 with
  | go hw hst =>
    have hkeep := hst.keeps
    have e1 : E2 d = .d (.v c) := hkeep d c (by simp [upd]) hyd
    have e2 : E2 k = .d (.v c) := hkeep k c (by rw [upd_ne (Ne.symm hkd)]; exact hk) hyk
    have hraw : RawOp P n (upd E d (.d (.v c))) y E2 := fun ρ w a Q hI => hst.sound hΘ hI
    have h3 := RawOp.apart hn hod h1c hraw hy.1 hsel hyd e1
    have hwant : Wants ops E y true := hw.stable fun j hj => (upd_ne (by rintro rfl; exact hy.2 hj)).symm
    have hown : owner (upd E2 d (match E d with | .d (.v z) => .d (.v z) | _ => .un) d) = false := by
      simp only [upd, if_true]
      split <;> rfl
    have hback : upd (upd E2 d (match E d with | .d (.v z) => .d (.v z) | _ => .un)) d (.d (.v c)) = E2 := by
      funext u
      simp only [upd]
      split
      · next hu => subst hu; exact e1.symm
      · rfl
    refine ⟨_, .go hwant (.raw h3 fun d2 z hz hy2 => ?_), ?_, d, k, c, hd, ho, hg, by rw [upd_ne (Ne.symm hkd)]; exact e2, hkd, h1c, hback.symm⟩
    · by_cases hdd : d = d2
      · subst hdd
        simp only [upd, if_true, hz]
      · rw [upd_ne hdd]
        exact hkeep d2 z (by rw [upd_ne hdd]; exact hz) hy2
    · have := Step1.quiet (P := P) (Θ := Θ) (ops := ops) (o := x) (Wants.none' hg) hd hn hown (.mv (.inl ho) (.tmp (by rw [upd_ne (Ne.symm hkd)]; exact e2) rfl))
      rw [hback] at this
      exact this

/-- One that is apart from all that stand ahead of it comes first. -/
theorem Chain.first (hΘ : Agree P Θ) {i : Nat} {B : List Nat} : ∀ (A : List Nat) {E E' : Nat → Slot}, WF E → Chain P Θ n ops loud (A ++ i :: B) E E' →
    (∀ j ∈ A, j ∉ loud ∧ ((i ∉ loud ∧ ∀ x y, ops[j]? = some x → ops[i]? = some y → apartB ops x y = true) ∨ (ops.size + j ∈ loud ∧ ∀ x y, ops[j]? = some x → ops[i]? = some y → apartL ops x y = true ∧ apartB' ops x y = true))) →
    ∃ o b E1, ops[i]? = some o ∧ (b = true → i ∈ loud) ∧ Step1 P Θ n ops E o b E1 ∧ Chain P Θ n ops loud (A ++ B) E1 E'
  | [], E, E', hw, h, _ => by
    cases h with
    | @cons _ _ o b _ E1 _ h1 h2 _ h3 h4 => exact ⟨o, b, E1, h1, h2, h3, h4⟩
  | j :: A, E, E', hw, h, hA => by
    cases h with
    | @cons _ _ x b _ E1 _ h1 h2 hsc h3 h4 =>
      have hj := hA j (by simp)
      cases b with
      | true => exact absurd (h2 rfl) hj.1
      | false =>
        obtain ⟨y, b, E2, g1, g0, g2, g3⟩ := Chain.first hΘ A (h3.wf hw) h4 (fun k hk => hA k (by simp [hk]))
        cases b with
        | false =>
          have hap : apartB ops x y = true := by
            rcases hj.2 with h | h
            · exact h.2 x y h1 g1
            · have := (h.2 x y h1 g1).2
              obtain ⟨e, s', he, _⟩ := g2.cases
              simpa [apartB', he] using this
          obtain ⟨E3, q1, q2⟩ := h3.swap hw g2 hap
          exact ⟨y, false, E3, g1, g0, q1, .cons h1 (by simp) (fun h => (hsc h).swap h3 g2 q1 q2 hap) q2 g3⟩
        | true =>
          rcases hj.2 with h | h
          · exact absurd (g0 rfl) h.1
          · obtain ⟨E3, q1, q2, q3⟩ := Step1.swapL hΘ (hsc h.1) h3 g2 (h.2 x y h1 g1).1
            exact ⟨y, true, E3, g1, g0, q1, .cons h1 (by simp) (fun _ => q3) q2 g3⟩

/-! ### Edges -/

inductive Anc (ops : Array Oper) : Nat → Nat → Prop
  | edge {i o e} : ops[i]? = some o → e ∈ o.after → Region.binds .any e = true → Anc ops i e.on
  | step {i o e j} : ops[i]? = some o → e ∈ o.after → Region.binds .any e = true → Anc ops e.on j → Anc ops i j

def maskOf (acc : List Nat) (o : Oper) : Nat := (o.after.toList.filter (Region.binds .any)).foldl (fun s e => s ||| (2 ^ e.on ||| acc.getD e.on 0)) 0
def masks : List Oper → List Nat → List Nat
  | [], acc => acc
  | o :: os, acc => masks os (acc ++ [maskOf acc o])

omit [Tables] in
theorem foldl_bit (acc : List Nat) (j : Nat) : ∀ (l : List Edge) (s : Nat), (l.foldl (fun s e => s ||| (2 ^ e.on ||| acc.getD e.on 0)) s).testBit j = true →
    s.testBit j = true ∨ ∃ e ∈ l, j = e.on ∨ (acc.getD e.on 0).testBit j = true
  | [], s, h => .inl h
  | e :: l, s, h => by
    rcases foldl_bit acc j l _ h with h | ⟨e', h1, h2⟩
    · simp only [Nat.testBit_or, Bool.or_eq_true] at h
      rcases h with h | h | h
      · exact .inl h
      · rw [Nat.testBit_two_pow] at h
        exact .inr ⟨e, by simp, .inl (of_decide_eq_true h).symm⟩
      · exact .inr ⟨e, by simp, .inr h⟩
    · exact .inr ⟨e', by simp [h1], h2⟩

omit [Tables] in
theorem masks_anc : ∀ (os : List Oper) (acc : List Nat) (pre : List Oper), ops.toList = pre ++ os → acc.length = pre.length →
    (∀ k j, (acc.getD k 0).testBit j = true → Anc ops k j) → ∀ k j, ((masks os acc).getD k 0).testBit j = true → Anc ops k j
  | [], acc, _, _, _, h => h
  | o :: os, acc, pre, hp, hl, h => by
    refine masks_anc os (acc ++ [maskOf acc o]) (pre ++ [o]) (by simp [hp]) (by simp [hl]) fun k j hk => ?_
    by_cases h1 : k < acc.length
    · rw [List.getD_eq_getElem?_getD, List.getElem?_append_left h1, ← List.getD_eq_getElem?_getD] at hk
      exact h k j hk
    · by_cases h2 : k = acc.length
      · subst h2
        have hk' : (maskOf acc o).testBit j = true := by simpa using hk
        have ho : ops[acc.length]? = some o := by
          rw [← Array.getElem?_toList, hp, hl]
          simp
        rcases foldl_bit acc j _ 0 hk' with h | ⟨e, h1, h2⟩
        · simp at h
        · rw [List.mem_filter] at h1
          rcases h2 with rfl | h2
          · exact .edge ho (by simpa using h1.1) h1.2
          · exact .step ho (by simpa using h1.1) h1.2 (h _ _ h2)
      · rw [List.getD_eq_getElem?_getD, List.getElem?_eq_none (by simp; omega)] at hk
        simp at hk

/-- Every two operations are in order by the edges, or change places; edges go back. -/
def orderOk (ops : Array Oper) (loud : List Nat) : Bool :=
  let m := masks ops.toList []
  (List.range ops.size).all fun i =>
    match ops[i]? with
    | none => false
    | some y => y.after.toList.all (fun e => !Region.binds .any e || decide (e.on < i)) &&
      (List.range i).all fun j => (m.getD i 0).testBit j || (!loud.contains i && !loud.contains j && match ops[j]? with | none => false | some x => apartB ops x y) ||
        (!loud.contains j && loud.contains (ops.size + j) && match ops[j]? with | none => false | some x => apartL ops x y && apartB' ops x y)

omit [Tables] in
theorem orderOk_spec (h : orderOk ops loud = true) {i : Nat} {y : Oper} (hy : ops[i]? = some y) :
    (∀ e ∈ y.after, Region.binds .any e = true → e.on < i) ∧ ∀ j, j < i → Anc ops i j ∨ (i ∉ loud ∧ j ∉ loud ∧ ∀ x, ops[j]? = some x → apartB ops x y = true) ∨ (j ∉ loud ∧ ops.size + j ∈ loud ∧ ∀ x, ops[j]? = some x → apartL ops x y = true ∧ apartB' ops x y = true) := by
  have hi : i < ops.size := (Array.getElem?_eq_some_iff.1 hy).1
  simp only [orderOk, List.all_eq_true, List.mem_range] at h
  have h1 := h i hi
  rw [hy] at h1
  simp only [Bool.and_eq_true, List.all_eq_true, Bool.or_eq_true, Bool.not_eq_true', decide_eq_true_eq, List.mem_range] at h1
  refine ⟨fun e he hb => ?_, fun j hj => ?_⟩
  · rcases h1.1 e (by simpa using he) with h | h
    · rw [hb] at h; cases h
    · exact h
  · rcases h1.2 j hj with (h | h) | h
    · exact .inl (masks_anc ops.toList [] [] (by simp) rfl (fun k j h => by simp at h) i j h)
    · refine .inr (.inl ⟨by simpa using h.1.1, by simpa using h.1.2, fun x hx => ?_⟩)
      have := h.2
      rw [hx] at this
      exact this
    · refine .inr (.inr ⟨by simpa using h.1.1, by simpa using h.1.2, fun x hx => ?_⟩)
      have := h.2
      rw [hx] at this
      simpa using this


def rem (ops : Array Oper) (listed : Array Bool) : List Nat := (List.range ops.size).filter fun i => !listed.getD i true

def Closed (ops : Array Oper) (listed : Array Bool) : Prop := ∀ i o, ops[i]? = some o → listed.getD i true = true → ∀ e ∈ o.after, Region.binds .any e = true → listed.getD e.on false = true

omit [Tables] in
theorem Anc.listed {listed : Array Bool} {i j : Nat} (hs : listed.size = ops.size) (hc : Closed ops listed) (h : Anc ops i j) :
    (∀ o, ops[i]? = some o → ∀ e ∈ o.after, Region.binds .any e = true → listed.getD e.on false = true) → listed.getD j false = true := by
  induction h with
  | edge h1 h2 h3 => exact fun h => h _ h1 _ h2 h3
  | @step i o e j h1 h2 h3 _ ih =>
    intro h
    have h4 := h _ h1 _ h2 h3
    refine ih fun o' ho' e' he' hb' => hc e.on o' ho' ?_ e' he' hb'
    have hlt : e.on < listed.size := by rw [hs]; exact (Array.getElem?_eq_some_iff.1 ho').1
    simp only [Array.getD_eq_getD_getElem?, Array.getElem?_eq_getElem hlt, Option.getD_some] at h4 ⊢
    exact h4

omit [Tables] in
theorem rem_split {listed : Array Bool} {i : Nat} (hi : i ∈ rem ops listed) :
    ∃ A B, rem ops listed = A ++ i :: B ∧ rem ops (listed.setIfInBounds i true) = A ++ B ∧ ∀ j ∈ A, j < i ∧ listed.getD j true = false := by
  have hmem := List.mem_filter.1 hi
  have hlt : i < ops.size := by simpa using hmem.1
  have hr : List.range ops.size = List.range i ++ i :: (List.range' (i + 1) (ops.size - i - 1)) := by
    rw [List.range_eq_range', List.range_eq_range']
    have : ops.size = i + ((ops.size - i - 1) + 1) := by omega
    conv => lhs; rw [this]
    rw [← List.range'_append_1, List.range'_succ]
    simp
  have hset : ∀ k, (listed.setIfInBounds i true).getD k true = if i = k then true else listed.getD k true := by
    intro k
    simp only [Array.getD_eq_getD_getElem?, Array.getElem?_setIfInBounds]
    split
    · next h => subst h; split <;> rfl
    · rfl
  refine ⟨(List.range i).filter fun k => !listed.getD k true, (List.range' (i + 1) (ops.size - i - 1)).filter fun k => !listed.getD k true, ?_, ?_, ?_⟩
  · unfold rem
    rw [hr, List.filter_append, List.filter_cons, if_pos hmem.2]
  · unfold rem
    rw [hr, List.filter_append, List.filter_cons]
    rw [if_neg (by rw [hset]; simp)]
    congr 1
    · refine List.filter_congr fun k hk => ?_
      have : k < i := by simpa using hk
      rw [hset, if_neg (by omega)]
    · refine List.filter_congr fun k hk => ?_
      have := List.mem_range'.1 hk
      obtain ⟨q, h1, h2⟩ := this
      rw [hset, if_neg (by omega)]
  · intro j hj
    have := List.mem_filter.1 hj
    exact ⟨by simpa using this.1, by simpa using this.2⟩

theorem draw_any (hΘ : Agree P Θ) (hok : orderOk ops loud = true) : ∀ (fuel : Nat) (listed : Array Bool) {E E' : Nat → Slot} {ρ : Nat → Tag} {w : World} {a : Act}, listed.size = ops.size → Closed ops listed → (rem ops listed).length ≤ fuel →
    Chain P Θ n ops loud (rem ops listed) E E' → Inv n ρ w a.tmps E → (∀ a' w', After n ρ w a E' a' w' → Q .normal a' w') → wpAny P .any ops Q fuel listed a w := by
  have getD_lt : ∀ (listed : Array Bool) (k : Nat), listed.size = ops.size → k < ops.size → listed.getD k false = listed.getD k true := by
    intro listed k hs hk
    simp [Array.getD_eq_getD_getElem?, Array.getElem?_eq_getElem (show k < listed.size by omega)]
  have hready : ∀ (listed : Array Bool), listed.size = ops.size → Region.ready .any ops listed = [] → rem ops listed = [] := by
    intro listed hs hr
    have all : ∀ i, i < ops.size → listed.getD i true = true := by
      intro i
      induction i using Nat.strongRecOn with
      | _ i ih =>
        intro hi
        refine Classical.byContradiction fun hn => ?_
        have hn' : listed.getD i true = false := by cases h : listed.getD i true <;> simp_all
        obtain ⟨o, ho⟩ : ∃ o, ops[i]? = some o := ⟨ops[i], by simp [hi]⟩
        have : i ∈ Region.ready .any ops listed := by
          unfold Region.ready
          rw [List.mem_filter]
          refine ⟨by simpa using hi, ?_⟩
          simp only [ho, Option.map_some, Option.getD_some, Bool.and_eq_true, hn', Bool.not_false, true_and]
          rw [Array.all_eq_true']
          intro e he
          by_cases hb : Region.binds .any e = true
          · have hlt := (orderOk_spec hok ho).1 e he hb
            have := ih e.on hlt (by omega)
            rw [getD_lt listed e.on hs (by omega), this]
            simp
          · simp [hb]
        rw [hr] at this
        cases this
    unfold rem
    rw [List.filter_eq_nil_iff]
    intro i hi
    simp [all i (by simpa using hi)]
  have hsub : ∀ (listed : Array Bool) (i : Nat), i ∈ Region.ready .any ops listed → i ∈ rem ops listed ∧ ∀ o, ops[i]? = some o → ∀ e ∈ o.after, Region.binds .any e = true → listed.getD e.on false = true := by
    intro listed i hi
    unfold Region.ready at hi
    rw [List.mem_filter] at hi
    obtain ⟨h1, h2⟩ := hi
    simp only [Bool.and_eq_true] at h2
    refine ⟨List.mem_filter.2 ⟨h1, h2.1⟩, fun o ho e he hb => ?_⟩
    have h3 := h2.2
    rw [ho] at h3
    simp only [Option.map_some, Option.getD_some, Array.all_eq_true'] at h3
    have := h3 e he
    simpa [hb] using this
  intro fuel
  induction fuel with
  | zero =>
    intro listed E E' ρ w a hs hc hl hch hI hQ
    have hrem : rem ops listed = [] := List.eq_nil_of_length_eq_zero (by omega)
    rw [hrem] at hch
    cases hch
    refine ⟨?_, hQ _ _ ⟨rfl, _, Fr.refl _ _, hI⟩⟩
    refine List.eq_nil_iff_forall_not_mem.2 fun i hi => ?_
    have := (hsub listed i hi).1
    rw [hrem] at this
    cases this
  | succ fuel ih =>
    intro listed E E' ρ w a hs hc hl hch hI hQ
    refine ⟨fun hr => ?_, fun i hi => ?_⟩
    · rw [hready listed hs hr] at hch
      cases hch
      exact hQ _ _ ⟨rfl, _, Fr.refl _ _, hI⟩
    · obtain ⟨h1, h2⟩ := hsub listed i hi
      obtain ⟨A, B, hA, hB, hA2⟩ := rem_split h1
      have hmem := List.mem_filter.1 h1
      have hlt : i < ops.size := by simpa using hmem.1
      obtain ⟨y, hy⟩ : ∃ o, ops[i]? = some o := ⟨ops[i], by simp [hlt]⟩
      have hap : ∀ j ∈ A, (i ∉ loud ∧ j ∉ loud ∧ ∀ x, ops[j]? = some x → apartB ops x y = true) ∨ (j ∉ loud ∧ ops.size + j ∈ loud ∧ ∀ x, ops[j]? = some x → apartL ops x y = true ∧ apartB' ops x y = true) := by
        intro j hj
        obtain ⟨q1, q2⟩ := hA2 j hj
        rcases (orderOk_spec hok hy).2 j q1 with h | h
        · have := Anc.listed hs hc h (fun o ho e he hb => h2 o ho e he hb)
          rw [getD_lt listed j hs (by omega), q2] at this
          cases this
        · exact h
      rw [hA] at hch
      have hgo : ∃ o b E1, ops[i]? = some o ∧ Step1 P Θ n ops E o b E1 ∧ Chain P Θ n ops loud (A ++ B) E1 E' := by
        cases A with
        | nil =>
          cases hch with
          | cons g1 g2 _ g3 g4 => exact ⟨_, _, _, g1, g3, g4⟩
        | cons j A =>
          obtain ⟨o, b, E1, g1, _, g2, g3⟩ := Chain.first hΘ (j :: A) hI.wf hch (fun k hk => by
            rcases hap k hk with h | h
            · refine ⟨h.2.1, .inl ⟨h.1, fun x y' hx hy' => ?_⟩⟩
              rw [hy] at hy'
              cases hy'
              exact h.2.2 x hx
            · refine ⟨h.1, .inr ⟨h.2.1, fun x y' hx hy' => ?_⟩⟩
              rw [hy] at hy'
              cases hy'
              exact h.2.2 x hx)
          exact ⟨o, b, E1, g1, g2, g3⟩
      obtain ⟨o, b, E1, g1, g2, g3⟩ := hgo
      refine g2.wp hΘ hI g1 fun a' w' ⟨k1, ρ', k2, k3⟩ => ?_
      refine ih (listed.setIfInBounds i true) (by simpa using hs) ?_ ?_ (by rw [hB]; exact g3) k3 (fun a2 w2 h => hQ a2 w2 (After.trans ⟨k1, k2⟩ h))
      · have hset : ∀ (k : Nat) (x : Bool), (listed.setIfInBounds i true).getD k x = if i = k then true else listed.getD k x := by
          intro k x
          simp only [Array.getD_eq_getD_getElem?, Array.getElem?_setIfInBounds]
          split
          · next h => subst h; simp [hs, hlt]
          · rfl
        intro k o' ho' hk e he hb
        rw [hset] at hk ⊢
        split
        · rfl
        · split at hk
          · next h => subst h; exact h2 o' ho' e he hb
          · exact hc k o' ho' hk e he hb
      · rw [hB]
        rw [hA] at hl
        simp only [List.length_append, List.length_cons] at hl ⊢
        omega

/-- A region, drawn or not. -/
theorem Chain.region {id : Nat} {draw : Bool} {a : Act} (hΘ : Agree P Θ) (hm : P.follows .mixedOrders = true) (hok : draw = true → orderOk ops loud = true) (h : Chain P Θ n ops loud (List.range ops.size) E E')
    (hI : Inv n ρ w a.tmps E) : (Code.region id ops draw).wp P (fun e a' w' => e = .normal ∧ After n ρ w a E' a' w') a w := by
  cases draw with
  | false => exact wp_region (h.wpOps hΘ hI fun _ _ h => ⟨rfl, h⟩)
  | true =>
    have hI' : Inv n ρ w.drew a.tmps E := hI.grow (Grow.refl hI.lt).drew
    have hrem : rem ops (Array.replicate ops.size false) = List.range ops.size := by
      unfold rem
      rw [List.filter_eq_self]
      intro i hi
      have : i < ops.size := by simpa using hi
      simp [Array.getD_eq_getD_getElem?, this]
    refine wp_region_any hm (draw_any hΘ (hok rfl) ops.size (Array.replicate ops.size false) (by simp) ?_ (by rw [hrem]; simp) (by rw [hrem]; exact h) hI' fun a' w' h => ⟨rfl, ?_⟩)
    · intro i o ho hl
      have : i < ops.size := (Array.getElem?_eq_some_iff.1 ho).1
      simp [Array.getD_eq_getD_getElem?, this] at hl
    · exact After.trans ⟨rfl, (Grow.refl hI.lt).drew.fr⟩ h

end Go.Dat

namespace Go.Dat

variable [Tables]

variable {P : Program} {Θ : TypeId → TI} {n : Nat} {ρ ρ' ρ'' : Nat → Tag} {w w' w'' : World} {tmps tmps' : Array Value} {E E' E1 E2 : Nat → Slot} {t : Nat} {u : Value}

/-- What is known is told in other words. -/
def Gh (n : Nat) (E E' : Nat → Slot) : Prop := ∀ ρ w tmps, Inv n ρ w tmps E → ∃ ρ', Fr ρ w ρ' w ∧ Inv n ρ' w tmps E'

/-- A piece of code that was proved by itself. -/
def RawCode (P : Program) (n : Nat) (c : Code) (E E' : Nat → Slot) : Prop :=
  ∀ ρ w (a : Act) (b : Frame) (k : List Item) (cs : List Frame), Inv n ρ w a.tmps E →
    ∃ a' w', Steps P (lone (b.at a (.code c :: k)) cs w) (lone (b.at a' k) cs w') ∧ a'.defers = a.defers ∧ ∃ ρ', Fr ρ w ρ' w' ∧ Inv n ρ' w' a'.tmps E'

inductive Run (P : Program) (Θ : TypeId → TI) (n : Nat) (R : (Nat → Slot) → Prop) : List Item → (Nat → Slot) → Prop
  | region {id ops draw k E0 E1 loud} : Chain P Θ n ops loud (List.range ops.size) E0 E1 → (draw = true → orderOk ops loud = true) → Run P Θ n R k E1 → Run P Θ n R (.code (.region id ops draw) :: k) E0
  | skip {k E0} : Run P Θ n R k E0 → Run P Θ n R (.code .skip :: k) E0
  | label {l k E0} : Run P Θ n R k E0 → Run P Θ n R (.code (.label l) :: k) E0
  | seq {x y k E0} : Run P Θ n R (.code x :: .code y :: k) E0 → Run P Θ n R (.code (.seq x y) :: k) E0
  | block {id x k E0} : Run P Θ n R (.code x :: .inBlock id :: k) E0 → Run P Θ n R (.code (.block id x) :: k) E0
  | inBlock {id k E0} : Run P Θ n R k E0 → Run P Θ n R (.inBlock id :: k) E0
  | loop {x k E0} : Run P Θ n R (.code x :: .inLoop x :: k) E0 → Run P Θ n R (.code (.loop x) :: k) E0
  | inLoop {x k E0} : Run P Θ n R (.code x :: .inLoop x :: k) E0 → Run P Θ n R (.inLoop x :: k) E0
  | scope {x k E0} : Run P Θ n R (.code x :: .inScope x :: k) E0 → Run P Θ n R (.code (.scope x) :: k) E0
  | inScope {x k E0} : Run P Θ n R k E0 → Run P Θ n R (.inScope x :: k) E0
  | exit {id k k' E0} : exitTo id k = some k' → Run P Θ n R k' E0 → Run P Θ n R (.code (.exit id) :: k) E0
  | goto {l k k' E0} : gotoIn l k = some k' → Run P Θ n R k' E0 → Run P Θ n R (.code (.goto l) :: k) E0
  | cond {c x y k E0 b} : OpD E0 c (.v (.bool b)) → Run P Θ n R (.code (if b then x else y) :: k) E0 → Run P Θ n R (.code (.cond c x y) :: k) E0
  | ret {k E0} : R E0 → Run P Θ n R (.code .ret :: k) E0
  | fin {E0} : R E0 → Run P Θ n R [] E0
  | raw {c k E0 E1} : RawCode P n c E0 E1 → Run P Θ n R k E1 → Run P Θ n R (.code c :: k) E0
  | split {k E0} (Q : (Nat → Slot) → Prop) : (∀ ρ w tmps, Inv n ρ w tmps E0 → ∃ E1 ρ', Q E1 ∧ Fr ρ w ρ' w ∧ Inv n ρ' w tmps E1) → (∀ E1, Q E1 → Run P Θ n R k E1) → Run P Θ n R k E0
  | ghost {k E0 E1} : Gh n E0 E1 → Run P Θ n R k E1 → Run P Θ n R k E0

omit [Tables] in
theorem step_scope {b : Frame} {a : Act} {k : List Item} {cs : List Frame} {c : Code} :
    step P (lone (b.at a (.code (.scope c) :: k)) cs w) = .next (lone (b.at a (.code c :: .inScope c :: k)) cs w) :=
  step_lone_go (by simp [stepG, stepG.exec, Frame.at])
omit [Tables] in
theorem step_inScope {b : Frame} {a : Act} {k : List Item} {cs : List Frame} {c : Code} :
    step P (lone (b.at a (.inScope c :: k)) cs w) = .next (lone (b.at a k) cs w) :=
  step_lone_go (by simp [stepG, stepG.exec, Frame.at])

/-- The frame comes to its return, R being true. -/
def Returns (P : Program) (n : Nat) (R : (Nat → Slot) → Prop) (ρ : Nat → Tag) (w : World) (a : Act) (m : Machine) (b : Frame) (cs : List Frame) : Prop :=
  ∃ a' w' k', Steps P m (lone { b.at a' k' with mode := .returning } cs w') ∧ a'.defers = a.defers ∧ ∃ ρ' E', Fr ρ w ρ' w' ∧ Inv n ρ' w' a'.tmps E' ∧ R E'

theorem Returns.steps {R : (Nat → Slot) → Prop} {a : Act} {m m' : Machine} {b : Frame} {cs : List Frame} (h : Steps P m m') (k : Returns P n R ρ w a m' b cs) : Returns P n R ρ w a m b cs := by
  obtain ⟨a', w', k', h1, h2⟩ := k
  exact ⟨a', w', k', h.trans h1, h2⟩

theorem Run.sound {R : (Nat → Slot) → Prop} {todo : List Item} (hΘ : Agree P Θ) (hm : P.follows .mixedOrders = true) (h : Run P Θ n R todo E) : ∀ {ρ : Nat → Tag} {w : World} {a : Act}, Inv n ρ w a.tmps E →
    ∀ (b : Frame) (cs : List Frame), Returns P n R ρ w a (lone (b.at a todo) cs w) b cs := by
  induction h with
  | region h1 h2 _ ih =>
    intro ρ w a hI b cs
    obtain ⟨e, a1, w1, ⟨rfl, h3, ρ1, h4, h5⟩, harr⟩ := h1.region hΘ hm h2 hI b _ cs
    obtain ⟨a', w', k', g1, g2, ρ', E', g3, g4⟩ := ih h5 b cs
    exact ⟨a', w', k', Steps.trans harr g1, g2.trans h3, ρ', E', h4.trans g3, g4⟩
  | skip _ ih => exact fun hI b cs => .steps (.one step_skip) (ih hI b cs)
  | label _ ih => exact fun hI b cs => .steps (.one step_label) (ih hI b cs)
  | seq _ ih => exact fun hI b cs => .steps (.one step_seq) (ih hI b cs)
  | block _ ih => exact fun hI b cs => .steps (.one step_block) (ih hI b cs)
  | inBlock _ ih => exact fun hI b cs => .steps (.one step_inBlock) (ih hI b cs)
  | loop _ ih => exact fun hI b cs => .steps (.one step_loop) (ih hI b cs)
  | inLoop _ ih => exact fun hI b cs => .steps (.one step_inLoop) (ih hI b cs)
  | scope _ ih => exact fun hI b cs => .steps (.one step_scope) (ih hI b cs)
  | inScope _ ih => exact fun hI b cs => .steps (.one step_inScope) (ih hI b cs)
  | exit h _ ih => exact fun hI b cs => .steps (.one (step_exit h)) (ih hI b cs)
  | goto h _ ih => exact fun hI b cs => .steps (.one (step_goto h)) (ih hI b cs)
  | cond h _ ih => exact fun hI b cs => .steps (.one (step_cond (h.sound hI).v)) (ih hI b cs)
  | ret h => exact fun hI b cs => ⟨_, _, _, .one step_ret, rfl, _, _, Fr.refl _ _, hI, h⟩
  | fin h => exact fun hI b cs => ⟨_, _, _, .one step_end, rfl, _, _, Fr.refl _ _, hI, h⟩
  | raw h1 _ ih =>
    intro ρ w a hI b cs
    obtain ⟨a1, w1, h2, h3, ρ1, h4, h5⟩ := h1 _ _ _ b _ cs hI
    obtain ⟨a', w', k', g1, g2, ρ', E', g3, g4⟩ := ih h5 b cs
    exact ⟨a', w', k', Steps.trans h2 g1, g2.trans h3, ρ', E', h4.trans g3, g4⟩
  | split Q h _ ih =>
    intro ρ w a hI b cs
    obtain ⟨E1, ρ1, h0, h1, h2⟩ := h _ _ _ hI
    obtain ⟨a', w', k', g1, g2, ρ', E', g3, g4⟩ := ih E1 h0 h2 b cs
    exact ⟨a', w', k', g1, g2, ρ', E', h1.trans g3, g4⟩
  | ghost h _ ih =>
    intro ρ w a hI b cs
    obtain ⟨ρ1, h1, h2⟩ := h _ _ _ hI
    obtain ⟨a', w', k', g1, g2, ρ', E', g3, g4⟩ := ih h2 b cs
    exact ⟨a', w', k', g1, g2, ρ', E', h1.trans g3, g4⟩

/-- The frame's results are r. -/
def Ends (P : Program) (fn : Func) (r : D) (E : Nat → Slot) : Prop :=
  ∀ n ρ w tmps, Inv n ρ w tmps E → ∃ v ρ', (results fn tmps).run P w = .ok v w ∧ Fr ρ w ρ' w ∧ (∀ b, ρ' b ≠ .other → b < w.heap.size) ∧ RV ρ' w 0 r v

def init (ds : List D) (i : Nat) : Slot := match ds[i]? with | some d => .d d | none => .un

omit [Tables] in
theorem Rpv.len {S : Nat → Prop} : ∀ {ds : List D} {us : List Value}, Rpv S w ds us → us.length = ds.length
  | [], _, h => by simp only [Rpv] at h; subst h; rfl
  | d :: ds, _, h => by
    simp only [Rpv] at h
    obtain ⟨u, y, cs, rfl, _, _, h3⟩ := h
    simp [Rpv.len h3]

open Classical in
theorem DFun.of_run {f : FuncId} {fn : Func} {c : Code} {ds : List D} {r : D} (hΘ : Agree P Θ) (hm : P.follows .mixedOrders = true) (hf : P.funcs[f]? = some fn) (hb : fn.body = some c) (hn : ds.length ≤ fn.ntmps)
    (h : Run P Θ fn.ntmps (Ends P fn r) [.code c] (init ds)) : DFun P f ds r := by
  intro S w vals hS hT hv
  have hlen := hv.len
  intro cs
  let b : Frame := { (default : Frame) with fn := f, kind := .normal }
  let a : Act := { tmps := vals.toArray ++ Array.replicate (fn.ntmps - vals.toArray.size) undef, defers := [] }
  have henter : Frame.enter P f vals.toArray .normal = b.at a [.code c] := by simp [Frame.enter, Frame.at, hf, hb, b, a]
  have hI : Inv fn.ntmps (tagS S) w a.tmps (init ds) := by
    refine ⟨by simp [a]; omega, fun g hg => hS g (Classical.byContradiction fun hne => hg (by simp [tagS, hne])), by rw [sh_tagS]; exact hT, fun t => ?_⟩
    unfold init
    cases hd : ds[t]? with
    | none => trivial
    | some d =>
      have ht : t < ds.length := (List.getElem?_eq_some_iff.1 hd).1
      obtain ⟨v, g1, g2⟩ := nth_map_vals hv ht
      have hgd : ds.getD t un = d := by simp [hd]
      rw [hgd] at g2
      have hval : a.tmps.getD t undef = v := by
        have : t < vals.length := by omega
        simp only [a, Array.getD_eq_getD_getElem?, Array.getElem?_append, List.size_toArray, this, if_true, List.getElem?_toArray, g1, Option.getD_some]
      rw [hval]
      exact RD.rv (by rw [sh_tagS]; exact g2)
  obtain ⟨a', w', k', h1, h2, ρ', E', h3, h4, h5⟩ := h.sound hΘ hm hI b cs
  obtain ⟨v, ρ2, q1, q2, q3, q4⟩ := h5 _ _ _ _ h4
  refine ⟨.returned v, w', _, ⟨v, ρ2, rfl, ?_, q4⟩, (by rw [henter]; exact h1), rfl, rfl, by simp [Frame.at, h2, a], rfl, fn, hf, q1⟩
  have h6 := h3.trans q2
  have hold : ∀ g, g < w.heap.size → ρ2 g = tagS S g := by
    intro g hg
    by_cases hs : S g
    · rw [h6.shd g (by simp [tagS, hs])]; simp [tagS, hs]
    · rw [h6.oth g hg (by simp [tagS, hs])]; simp [tagS, hs]
  refine ⟨fun g hg => hold g (hS g (Classical.byContradiction fun hne => hg (by simp [tagS, hne]))), fun g hg => ⟨hold g hg, h6.old g hg ?_⟩, q3, h6.os, h6.tape, h6.output, h6.size⟩
  by_cases hs : S g
  · exact .inl (by simp [tagS, hs])
  · exact .inr (by simp [tagS, hs])

end Go.Dat

namespace Go.Dat

variable [Tables]

variable {P : Program} {Θ : TypeId → TI} {n : Nat} {E : Nat → Slot}

/-! ### Scalars -/

def binInt (op : BinOp) (k : IntKind) (a b : Int) : Option (D × Prop) :=
  match op with
  | .add => some (.v (.int k (k.wrap (a + b))), True)
  | .sub => some (.v (.int k (k.wrap (a - b))), True)
  | .mul => some (.v (.int k (k.wrap (a * b))), True)
  | .quo => some (.v (.int k (k.wrap (a.tdiv b))), b ≠ 0)
  | .rem => some (.v (.int k (a.tmod b)), b ≠ 0)
  | .and => some (.v (.int k (k.wrap (BitVec.ofInt k.bits a &&& BitVec.ofInt k.bits b).toNat)), True)
  | .or => some (.v (.int k (k.wrap (BitVec.ofInt k.bits a ||| BitVec.ofInt k.bits b).toNat)), True)
  | .xor => some (.v (.int k (k.wrap (BitVec.ofInt k.bits a ^^^ BitVec.ofInt k.bits b).toNat)), True)
  | .andNot => some (.v (.int k (k.wrap (BitVec.ofInt k.bits a &&& ~~~ BitVec.ofInt k.bits b).toNat)), True)
  | .eql => some (.v (.bool (a == b)), True)
  | .neq => some (.v (.bool (a != b)), True)
  | .lss => some (.v (.bool (decide (a < b))), True)
  | .leq => some (.v (.bool (decide (a ≤ b))), True)
  | .gtr => some (.v (.bool (decide (b < a))), True)
  | .geq => some (.v (.bool (decide (b ≤ a))), True)
  | _ => none

def binOf (op : BinOp) : D → D → Option (D × Prop)
  | .v (.int k a), .v (.int k' b) =>
    match op with
    | .shl => some (.v (.int k (k.wrap (a * 2 ^ min b.toNat k.bits))), 0 ≤ b)
    | .shr => some (.v (.int k (a.fdiv (2 ^ min b.toNat k.bits))), 0 ≤ b)
    | op => if k = k' then binInt op k a b else none
  | .v (.bool a), .v (.bool b) =>
    match op with
    | .eql => some (.v (.bool (a == b)), True)
    | .neq => some (.v (.bool (a != b)), True)
    | _ => none
  | .v (.string a), .v (.string b) =>
    match op with
    | .eql => some (.v (.bool (a.toList == b.toList)), True)
    | .neq => some (.v (.bool (!(a.toList == b.toList))), True)
    | .add => some (.v (.string (a ++ b)), a.size + b.size ≤ 9223372036854775807)
    | _ => none
  | _, _ => none

omit [Tables] in
theorem BinD.ofV {op : BinOp} {T : TypeId} {x y : Operand} {a b : Value} {z : D} {v : Value} (hz : z = .v v) (h1 : v.oneCell' = true)
    (h : ∀ w, (do eqGuard op T x y a b; binOp op T a b : Sem Value).run P w = .ok v w) : BinD P op T x y (.v a) (.v b) z := by
  intro S w u v' hu hv
  subst hz
  rw [hu.v, hv.v]
  exact ⟨v, h w, RD.ofV h1⟩

omit [Tables] in
theorem eqGuard_int {op : BinOp} {T : TypeId} {x y : Operand} {k k' : IntKind} {a b : Int} {w : World} : (eqGuard op T x y (.int k a) (.int k' b)).run P w = .ok () w := by
  unfold eqGuard; split <;> rfl
omit [Tables] in
theorem eqGuard_bool {op : BinOp} {T : TypeId} {x y : Operand} {a b : Bool} {w : World} : (eqGuard op T x y (.bool a) (.bool b)).run P w = .ok () w := by
  unfold eqGuard; split <;> rfl
omit [Tables] in
theorem eqGuard_string {op : BinOp} {T : TypeId} {x y : Operand} {a b : ByteArray} {w : World} : (eqGuard op T x y (.string a) (.string b)).run P w = .ok () w := by
  unfold eqGuard; split <;> rfl

omit [Tables] in
theorem binInt_sound {op : BinOp} {T : TypeId} {x y : Operand} {k : IntKind} {a b : Int} {z : D} {s : Prop} (h : binInt op k a b = some (z, s)) (hs : s) : BinD P op T x y (.v (.int k a)) (.v (.int k b)) z := by
  cases op <;> simp only [binInt, Option.some.injEq, Prod.mk.injEq, reduceCtorEq] at h <;> obtain ⟨rfl, rfl⟩ := h <;>
    refine BinD.ofV rfl rfl fun w => ?_ <;> rw [Sem.run_bind, eqGuard_int] <;>
    simp [binOp, Op.intArith, Op.intDiv, Op.intBits, Op.intCmp] <;> first | done | (simp at hs; simp [hs])

omit [Tables] in
theorem equalIn_bool {T : TypeId} {a b : Bool} {w : World} (h : P.underlying T = some .bool) (d : Nat) : (Op.equalIn (d + 1) T (.bool a) (.bool b)).run P w = .ok (a == b) w := by
  simp only [Op.equalIn, Sem.run_bind, run_underlying h, Result.andThen_ok, Sem.run_pure]

omit [Tables] in
theorem binOp_eql_bool {T : TypeId} {a b : Bool} {w : World} (h : P.underlying T = some .bool) : (binOp .eql T (.bool a) (.bool b)).run P w = .ok (.bool (a == b)) w := by
  show (do pure (.bool (← Op.equalIn (9999 + 1) T (.bool a) (.bool b))) : Sem Value).run P w = _
  rw [Sem.run_bind, equalIn_bool h]
  rfl

omit [Tables] in
theorem binOp_neq_bool {T : TypeId} {a b : Bool} {w : World} (h : P.underlying T = some .bool) : (binOp .neq T (.bool a) (.bool b)).run P w = .ok (.bool (a != b)) w := by
  show (do pure (.bool (!(← Op.equalIn (9999 + 1) T (.bool a) (.bool b)))) : Sem Value).run P w = _
  rw [Sem.run_bind, equalIn_bool h]
  rfl

omit [Tables] in
theorem binOf_sound {op : BinOp} {T : TypeId} {x y : Operand} {a b z : D} {s : Prop} (hT : (op = .eql ∨ op = .neq) → P.underlying T = some .bool ∨ (∀ p q, a ≠ .v (.bool p) ∨ b ≠ .v (.bool q)))
    (h : binOf op a b = some (z, s)) (hs : s) : BinD P op T x y a b z := by
  unfold binOf at h
  split at h
  · rename_i k a k' b
    split at h
    · simp only [Option.some.injEq, Prod.mk.injEq] at h
      obtain ⟨rfl, rfl⟩ := h
      refine BinD.ofV rfl rfl fun w => ?_
      rw [Sem.run_bind, eqGuard_int]
      have : ¬ b < 0 := by omega
      simp [binOp, Op.shift, this]
    · simp only [Option.some.injEq, Prod.mk.injEq] at h
      obtain ⟨rfl, rfl⟩ := h
      refine BinD.ofV rfl rfl fun w => ?_
      rw [Sem.run_bind, eqGuard_int]
      have : ¬ b < 0 := by omega
      simp [binOp, Op.shift, this]
    · split at h
      · next hk => subst hk; exact binInt_sound h hs
      · cases h
  · rename_i a b
    split at h <;> simp only [Option.some.injEq, Prod.mk.injEq, reduceCtorEq] at h
    · obtain ⟨rfl, rfl⟩ := h
      refine BinD.ofV rfl rfl fun w => ?_
      rw [Sem.run_bind, eqGuard_bool]
      exact binOp_eql_bool ((hT (by simp)).resolve_right (fun h => by have := h a b; simp at this))
    · obtain ⟨rfl, rfl⟩ := h
      refine BinD.ofV rfl rfl fun w => ?_
      rw [Sem.run_bind, eqGuard_bool]
      exact binOp_neq_bool ((hT (by simp)).resolve_right (fun h => by have := h a b; simp at this))
  · rename_i a b
    split at h <;> simp only [Option.some.injEq, Prod.mk.injEq, reduceCtorEq] at h
    · obtain ⟨rfl, rfl⟩ := h
      refine BinD.ofV rfl rfl fun w => ?_
      rw [Sem.run_bind, eqGuard_string]
      rfl
    · obtain ⟨rfl, rfl⟩ := h
      refine BinD.ofV rfl rfl fun w => ?_
      rw [Sem.run_bind, eqGuard_string]
      rfl
    · obtain ⟨rfl, rfl⟩ := h
      refine BinD.ofV rfl rfl fun w => ?_
      rw [Sem.run_bind, eqGuard_string]
      have hmax : IntKind.i64.max = 9223372036854775807 := by decide
      have : ¬ (9223372036854775807 < (a.size : Int) + (b.size : Int)) := by omega
      show (Op.stringOp .add a b).run P w = _
      simp [Op.stringOp, hmax, this]
  · cases h

end Go.Dat

namespace Go.Dat

variable [Tables]

variable {P : Program} {Θ : TypeId → TI} {n : Nat} {E : Nat → Slot}

/-- A constant's datum. -/
def konstOf : Value → Option D
  | .slice none 0 0 => some (.lst .nl 0 [])
  | .agg _ => none
  | .tuple _ => none
  | v => some (.v v)

def opOf (E : Nat → Slot) : Operand → Option (D × Prop)
  | .tmp t => match E t with | .d x => some (x, x.pl = true) | _ => none
  | .const v => match konstOf v with | some d => some (d, True) | none => none
  | .func f => some (.fn (.func f) [] [], True)
  | .global _ => none

omit [Tables] in
theorem opOf_sound {o : Operand} {x : D} {s : Prop} (h : opOf E o = some (x, s)) (hs : s) : OpD E o x := by
  unfold opOf at h
  split at h
  · split at h
    · next hE => cases h; exact .tmp hE hs
    · cases h
  · next v =>
    split at h
    · next d hd =>
      cases h
      unfold konstOf at hd
      split at hd <;> first
        | (cases hd; exact .nil)
        | cases hd
        | skip
      rename_i h1 h2 h3
      refine .const ?_
      cases v <;> first | rfl | exact (h2 _ rfl).elim | exact (h3 _ rfl).elim
    · cases h
  · cases h; exact .func
  · cases h

def opsOf (E : Nat → Slot) : List Operand → Option (List D × Prop)
  | [] => some ([], True)
  | o :: os => match opOf E o with
    | none => none
    | some (x, s) => match opsOf E os with
      | none => none
      | some (xs, s') => some (x :: xs, s ∧ s')

omit [Tables] in
theorem opsOf_sound : ∀ {os : List Operand} {xs : List D} {s : Prop}, opsOf E os = some (xs, s) → s → OpDs E os xs
  | [], _, _, h, _ => by cases h; exact .nil
  | o :: os, _, _, h, hs => by
    unfold opsOf at h
    split at h
    · cases h
    · next x s1 h1 =>
      split at h
      · cases h
      · next xs s2 h2 =>
        cases h
        exact .cons (opOf_sound h1 hs.1) (opsOf_sound h2 hs.2)

def adrOf (E : Nat → Slot) (k : Nat) : Option (Nat × List Nat × D) :=
  match E k with
  | .ref s p => match E s with | .box x => some (s, p, x) | _ => none
  | .box x => some (k, [], x)
  | _ => none

omit [Tables] in
theorem adrOf_sound {k s p x} (h : adrOf E k = some (s, p, x)) : Adr E k s p x := by
  unfold adrOf at h
  split at h
  · next h1 => split at h
               · next h2 => cases h; exact ⟨h2, .inl h1⟩
               · cases h
  · next h1 => cases h; exact ⟨h1, .inr ⟨rfl, rfl⟩⟩
  · cases h

def eltOf (E : Nat → Slot) (k : Nat) : Option (Nat × List Nat × Nat × List Nat × Bool × Nat × Nat × List D) :=
  match E k with
  | .elt s p i q => match E s with
    | .d (.own nl e es xs) => some (s, p, i, q, nl, e, es, xs)
    | .box x => match x.get p with
      | .own nl e es xs => some (s, p, i, q, nl, e, es, xs)
      | _ => none
    | _ => none
  | _ => none

omit [Tables] in
theorem eltOf_sound {k s p i q nl e es xs} (h : eltOf E k = some (s, p, i, q, nl, e, es, xs)) : Elt E k s p i q nl e es xs := by
  unfold eltOf at h
  split at h
  · next h1 =>
    split at h
    · next h2 => cases h; exact ⟨h1, .inl h2⟩
    · next x h2 =>
      split at h
      · next h3 => cases h; exact ⟨h1, .inr ⟨_, h2, h3⟩⟩
      · cases h
    · cases h
  · cases h

def vwOf (E : Nat → Slot) (k : Nat) : Option (Nat × List Nat × Bool × Nat × Nat × List D) :=
  match E k with
  | .view s p => match E s with
    | .d (.own nl e es xs) => some (s, p, nl, e, es, xs)
    | .box x => match x.get p with
      | .own nl e es xs => some (s, p, nl, e, es, xs)
      | _ => none
    | _ => none
  | .d (.own nl e es xs) => some (k, [], nl, e, es, xs)
  | _ => none

omit [Tables] in
theorem vwOf_sound {k s p nl e es xs} (h : vwOf E k = some (s, p, nl, e, es, xs)) : Vw E k s p nl e es xs := by
  unfold vwOf at h
  split at h
  · next h1 =>
    split at h
    · next h2 => cases h; exact .inl ⟨h1, .inl h2⟩
    · next x h2 =>
      split at h
      · next h3 => cases h; exact .inl ⟨h1, .inr ⟨_, h2, h3⟩⟩
      · cases h
    · cases h
  · next h1 => cases h; exact .inr ⟨h1, rfl, rfl⟩
  · cases h

def srcOf (E : Nat → Slot) (es : Nat) : Operand → Option (List D × Prop)
  | .tmp k => match vwOf E k with
    | some (_, _, _, _, es', ys) => if es' = es then some (ys, True) else none
    | none => match E k with
      | .d (.lst .nl _ ys) => some (ys, ys = [])
      | .d (.lst _ es' ys) => if es' = es then some (ys, True) else none
      | _ => none
  | .const (.slice none 0 0) => some ([], True)
  | _ => none

omit [Tables] in
theorem srcOf_sound {es : Nat} {o : Operand} {ys : List D} {s : Prop} (hE : ∀ k es' ys, E k = .d (.lst .nl es' ys) → OpD E (.tmp k) (.lst .nl es ys)) (h : srcOf E es o = some (ys, s)) (_hs : s) : Src E o es ys := by
  unfold srcOf at h
  split at h
  · next k =>
    split at h
    · next h1 =>
      split at h
      · next he => cases h; subst he; exact .vw (vwOf_sound h1)
      · cases h
    · split at h
      · next h2 => cases h; exact .lst (hE _ _ _ h2)
      · next h2 =>
        split at h
        · next he => cases h; subst he; exact .lst (.tmp h2 rfl)
        · cases h
      · cases h
  · cases h; exact .lst .nil
  · cases h


/-- The parts of a struct that is built, checked. -/
def partsOk (Θ : TypeId → TI) (fs : List (TypeId × Nat)) (zs : List D) : List (Nat × D) → Bool
  | [] => true
  | (i, x) :: r => (match fs[i]? with
    | some (Tf, off) => (off == sizes (zs.take i)) && (Θ Tf).fits x && decide (i < zs.length) && ((zs.getD i un).size == x.size)
    | none => false) && partsOk Θ fs zs r

omit [Tables] in
theorem partsOk_sound {fs : List (TypeId × Nat)} {zs : List D} : ∀ {l : List (Nat × D)}, partsOk Θ fs zs l = true →
    ∀ ix ∈ l, ∃ Tf, fs[ix.1]? = some (Tf, sizes (zs.take ix.1)) ∧ (Θ Tf).fits ix.2 = true ∧ ix.1 < zs.length ∧ (zs.getD ix.1 un).size = ix.2.size
  | [], _, _, h => by cases h
  | (i, x) :: r, h, ix, hm => by
    simp only [partsOk, Bool.and_eq_true] at h
    rcases List.mem_cons.1 hm with rfl | hm
    · have h1 := h.1
      split at h1
      · next Tf off hf =>
        simp only [Bool.and_eq_true, beq_iff_eq, decide_eq_true_eq] at h1
        obtain ⟨⟨⟨h2, h3⟩, h4⟩, h5⟩ := h1
        exact ⟨Tf, by rw [hf, h2], h3, h4, h5⟩
      · cases h1
    · exact partsOk_sound h.2 ix hm

def faOk (fs : List (TypeId × Nat)) (ds : List D) (f : Nat) : Bool := decide (f < ds.length) && (match fs[f]? with | some (_, off) => off == sizes (ds.take f) | none => false)
omit [Tables] in
theorem faOk_sound {fs : List (TypeId × Nat)} {ds : List D} {f : Nat} (h : faOk fs ds f = true) : f < ds.length ∧ ∃ Tf, fs[f]? = some (Tf, sizes (ds.take f)) := by
  simp only [faOk, Bool.and_eq_true, decide_eq_true_eq] at h
  obtain ⟨h1, h2⟩ := h
  split at h2
  · next Tf off hf => exact ⟨h1, Tf, by rw [hf, beq_iff_eq.1 h2]⟩
  · cases h2
def bsOk (is : List Nat) (len es : Nat) (xs : List D) : Bool := (is == List.range len) && xs.all (fun x => x.size == es) && decide (len * es ≤ 16777216)

/-- What a quiet operation yields, and what it asks. -/
def evq (Θ : TypeId → TI) (E : Nat → Slot) (o : Oper) : Option (Slot × Prop) :=
  match o.op with
  | .move (.tmp k) =>
    match E k with
    | .d (.own _ _ _ _) => some (.view k [], True)
    | .d (.tup ds) => some (.d (.tup ds), noOwns ds = true)
    | .d x => some (.d x, x.pl = true)
    | .box _ => some (.ref k [], True)
    | .un => none
    | .no => none
    | .wk x => some (.wk x, True)
    | .mp _ _ => some (.mq k, True)
    | .mq s => some (.mq s, True)
    | s => some (s, True)
  | .move x => match opOf E x with | some (d, s) => some (.d d, s) | none => none
  | .assign (.tmp k) =>
    match E k with
    | .d (.own _ _ _ _) => none
    | .d x => some (.d x, x.pl = true)
    | .box _ => none
    | .un => none
    | .no => none
    | .wk x => some (.wk x, True)
    | .mp _ _ => some (.mq k, True)
    | .mq s => some (.mq s, True)
    | s => some (s, True)
  | .assign x => match opOf E x with | some (d, s) => some (.d d, s) | none => none
  | .pick c x y =>
    match opOf E c with
    | some (.v (.bool true), s) => match opOf E x with | some (d, s') => some (.d d, s ∧ s') | none => none
    | some (.v (.bool false), s) => match opOf E y with | some (d, s') => some (.d d, s ∧ s') | none => none
    | _ => none
  | .alloc T => some (.box (Θ T).z, (Θ T).known = true)
  | .box _ x => match opOf E x with | some (d, s) => some (.box d, s) | none => none
  | .load T (.tmp k) =>
    match adrOf E k with
    | some (s, p, x) => match x.get p with
      | .own nl e es xs => some (.view s p, (Θ T).fits (.own nl e es xs) = true)
      | y => some (.d y, (Θ T).fits y = true ∧ y.pl = true)
    | none => match eltOf E k with
      | some (_, _, i, q, _, _, _, xs) => some (.d ((xs.getD i un).get q), (Θ T).fits ((xs.getD i un).get q) = true)
      | none => match E k with
        | .d (.pt x) => some (.d x, (Θ T).fits x = true)
        | _ => none
  | .fieldAddr T (.tmp k) f =>
    match (Θ T).td with
    | .st fs => match adrOf E k with
      | some (s, p, x) => match x.get p with
        | .st ds => some (.ref s (p ++ [f]), faOk fs ds f = true)
        | _ => none
      | none => match eltOf E k with
        | some (s, p, i, q, _, _, _, xs) => match (xs.getD i un).get q with
          | .st ds => some (.elt s p i (q ++ [f]), faOk fs ds f = true)
          | _ => none
        | none => match E k with
          | .d (.pt (.st ds)) => some (.d (.pt (ds.getD f un)), faOk fs ds f = true)
          | _ => none
    | _ => none
  | .indexAddr T (.tmp k) ix =>
    match opOf E ix with
    | some (.v (.int _ i), si) => match (Θ T).td with
      | .ar len _ es => match adrOf E k with
        | some (s, p, x) => match x.get p with
          | .arr es' ds => some (.ref s (p ++ [i.toNat]), si ∧ es' = es ∧ ds.length = len ∧ 0 ≤ i ∧ i < len)
          | _ => none
        | none => match E k with
          | .d (.pt (.arr es' ds)) => some (.d (.pt (ds.getD i.toNat un)), si ∧ es' = es ∧ ds.length = len ∧ 0 ≤ i ∧ i < len)
          | _ => none
      | .sl _ es _ => match vwOf E k with
        | some (s, p, _, _, es', xs) => some (.elt s p i.toNat [], si ∧ es' = es ∧ 0 ≤ i ∧ i.toNat < xs.length)
        | none => match E k with
          | .d (.lst _ es' xs) => some (.d (.pt (xs.getD i.toNat un)), si ∧ es' = es ∧ 0 ≤ i ∧ i.toNat < xs.length)
          | _ => none
      | _ => none
    | _ => none
  | .buildSlice T len parts =>
    match (Θ T).td with
    | .sl e es _ => match opsOf E (parts.toList.map (·.2)) with
      | some (xs, s) => some (.d (.own false e es xs), s ∧ bsOk (parts.toList.map (·.1)) len es xs = true)
      | none => none
    | _ => none
  | .build T parts =>
    match (Θ T).td, (Θ T).z with
    | .st fs, .st zs => match opsOf E (parts.toList.map (·.2)) with
      | some (xs, s) => some (.d (.st (built zs ((parts.toList.map (·.1)).zip xs))), s ∧ partsOk Θ fs zs ((parts.toList.map (·.1)).zip xs) = true)
      | none => none
    | _, _ => none
  | .unOp u _ x =>
    match u, opOf E x with
    | .not, some (.v (.bool b), s) => some (.d (.v (.bool (!b))), s)
    | .neg, some (.v (.int k a), s) => some (.d (.v (.int k (k.wrap (0 - a)))), s)
    | _, _ => none
  | .makeFunc f first cap =>
    match opsOf E first.toList, opsOf E cap.toList with
    | some (fs, s), some (cs, s') => some (.d (.fn f fs cs), s ∧ s')
    | _, _ => none
  | .extract (.tmp k) i =>
    match E k with
    | .d (.tup ds) => match ds.getD i un with
      | .own _ _ _ _ => none
      | y => some (.d y, (decide (i < ds.length) && y.pl) = true)
    | _ => none
  | .nilCheck (.tmp k) =>
    match E k with
    | .ref s p => some (.ref s p, True)
    | .elt s p i q => some (.elt s p i q, True)
    | _ => none
  | _ => none

theorem evq_sound {o : Oper} {s : Slot} {c : Prop} (h : evq Θ E o = some (s, c)) (hc : c) : Ev P Θ E o s := by
  unfold evq at h
  split at h
  case h_1 k ho =>
    split at h
    · next hE => cases h; exact .mvOwn ho hE
    · next hE => cases h; exact .mvTup ho hE hc
    · next hE => cases h; exact .mv (.inl ho) (.tmp hE hc)
    · next hE => cases h; exact .mvBox ho hE
    · cases h
    · cases h
    · next hE => cases h; exact .wmv (.inl ho) hE
    · next hE => cases h; exact .mvMap (.inl ho) hE
    · next hE => cases h; exact .mvMq (.inl ho) hE
    · next s' h1 h1' h2 h3 h4 h5 h6 h7 h8 =>
      cases h
      refine .mvSame (.inl ho) rfl ?_
      generalize hE : E k = z at *
      cases z <;> first | rfl | exact absurd rfl h4 | exact absurd rfl h5 | exact (h6 _ rfl).elim | exact (h2 _ rfl).elim | exact (h3 _ rfl).elim | exact (h7 _ _ rfl).elim | exact (h8 _ rfl).elim | skip
  case h_2 x _ ho =>
    split at h
    · next h1 => cases h; exact .mv (.inl ho) (opOf_sound h1 hc)
    · cases h
  case h_3 k ho =>
    split at h
    · cases h
    · next hE => cases h; exact .mv (.inr ho) (.tmp hE hc)
    · cases h
    · cases h
    · cases h
    · next hE => cases h; exact .wmv (.inr ho) hE
    · next hE => cases h; exact .mvMap (.inr ho) hE
    · next hE => cases h; exact .mvMq (.inr ho) hE
    · next s' h1 h2 h3 h4 h5 h6 h7 h8 =>
      cases h
      refine .mvSame (.inr (.inl ho)) rfl ?_
      generalize hE : E k = z at *
      cases z <;> first | rfl | exact (h6 _ rfl).elim | exact (h2 _ rfl).elim | exact (h3 _ rfl).elim | exact absurd rfl h4 | exact absurd rfl h5 | exact (h7 _ _ rfl).elim | exact (h8 _ rfl).elim
  case h_4 x _ ho =>
    split at h
    · next h1 => cases h; exact .mv (.inr ho) (opOf_sound h1 hc)
    · cases h
  case h_5 cc x y ho =>
    split at h
    · next h1 =>
      split at h
      · next h2 =>
        cases h
        exact .pickT ho (opOf_sound h1 hc.1) (opOf_sound h2 hc.2)
      · cases h
    · next h1 =>
      split at h
      · next h2 =>
        cases h
        exact .pickF ho (opOf_sound h1 hc.1) (opOf_sound h2 hc.2)
      · cases h
    · cases h
  case h_6 T ho => cases h; exact .alloc ho hc
  case h_7 T x ho =>
    split at h
    · next h1 => cases h; exact .box ho (opOf_sound h1 hc)
    · cases h
  case h_8 T k ho =>
    split at h
    · next h1 =>
      split at h
      · next h2 => cases h; exact .ldView ho (adrOf_sound h1) h2 hc
      · next h2 => cases h; exact .ldBox ho (adrOf_sound h1) hc.1 hc.2
    · split at h
      · next h1 => cases h; exact .ldElt ho (eltOf_sound h1) hc
      · split at h
        · next h1 => cases h; exact .ldPt ho h1 hc
        · cases h
  case h_9 T k f ho =>
    split at h
    · next fs ht =>
      split at h
      · next h1 =>
        split at h
        · next h2 => cases h; obtain ⟨c1, Tf, c2⟩ := faOk_sound hc; exact .faBox ho (adrOf_sound h1) h2 c1 ht c2
        · cases h
      · split at h
        · next h1 =>
          split at h
          · next h2 => cases h; obtain ⟨c1, Tf, c2⟩ := faOk_sound hc; exact .faElt ho (eltOf_sound h1) h2 c1 ht c2
          · cases h
        · split at h
          · next h1 => cases h; obtain ⟨c1, Tf, c2⟩ := faOk_sound hc; exact .faPt ho h1 c1 ht c2
          · cases h
    · cases h
  case h_10 T k ix ho =>
    split at h
    · next hix =>
      split at h
      · next ht =>
        split at h
        · next h1 =>
          split at h
          · next h2 => cases h; obtain ⟨c1, rfl, rfl, c3, c4⟩ := hc; exact .iaBox ho (adrOf_sound h1) h2 (opOf_sound hix c1) c3 (by omega) ht
          · cases h
        · split at h
          · next h1 => cases h; obtain ⟨c1, rfl, rfl, c3, c4⟩ := hc; exact .iaPt ho h1 (opOf_sound hix c1) c3 (by omega) ht
          · cases h
      · next ht =>
        split at h
        · next h1 => cases h; obtain ⟨c1, rfl, c3, c4⟩ := hc; exact .iaView ho (vwOf_sound h1) (opOf_sound hix c1) c3 c4 ht
        · split at h
          · next h1 => cases h; obtain ⟨c1, rfl, c3, c4⟩ := hc; exact .iaLst ho (.tmp h1 rfl) (opOf_sound hix c1) c3 c4 ht
          · cases h
      · cases h
    · cases h
  case h_11 T len parts ho =>
    split at h
    · next ht =>
      split at h
      · next h1 =>
        cases h
        obtain ⟨c1, c2⟩ := hc
        simp only [bsOk, Bool.and_eq_true, beq_iff_eq, List.all_eq_true, decide_eq_true_eq] at c2
        exact .buildSlice ho (opsOf_sound h1 c1) c2.1.1 ht c2.1.2 c2.2
      · cases h
    · cases h
  case h_12 T parts ho =>
    split at h
    · next ht hz =>
      split at h
      · next h1 => cases h; exact .build ho (opsOf_sound h1 hc.1) ht hz (partsOk_sound hc.2)
      · cases h
    · cases h
  case h_13 u T x ho =>
    split at h
    · next h1 =>
      cases h
      refine .uno ho (opOf_sound h1 hc) fun S w u hu => ?_
      rw [hu.v]
      exact ⟨_, rfl, RD.ofV rfl⟩
    · next h1 =>
      cases h
      refine .uno ho (opOf_sound h1 hc) fun S w u hu => ?_
      rw [hu.v]
      exact ⟨_, rfl, RD.ofV rfl⟩
    · cases h
  case h_14 f first cap ho =>
    split at h
    · next h1 h2 => cases h; exact .mf ho (opsOf_sound h1 hc.1) (opsOf_sound h2 hc.2)
    · cases h
  case h_15 k i ho =>
    split at h
    · next h1 =>
      split at h
      · cases h
      · cases h
        simp only [Bool.and_eq_true, decide_eq_true_eq] at hc
        exact .ext ho h1 hc.1 hc.2
    · cases h
  case h_16 k ho =>
    split at h
    · next h1 => cases h; exact .mvSame (.inr (.inr ho)) h1 rfl
    · next h1 => cases h; exact .mvSame (.inr (.inr ho)) h1 rfl
    · cases h
  case h_17 => cases h

end Go.Dat

namespace Go.Dat

variable [Tables]

variable {P : Program} {Θ : TypeId → TI} {n : Nat} {E E' : Nat → Slot} {R : (Nat → Slot) → Prop} {ops : Array Oper} {ld : List Nat} {i : Nat} {os : List Oper} {k : List Item} {l : Env}

omit [Tables] in
theorem upd_lk {l : Env} {d : Nat} {s : Slot} : upd (lk l) d s = lk ((d, s) :: l) := rfl

/-- The operations from number i on, and then k. -/
def OpsAt (P : Program) (Θ : TypeId → TI) (n : Nat) (R : (Nat → Slot) → Prop) (ops : Array Oper) (ld : List Nat) (i : Nat) (os : List Oper) (k : List Item) (E : Nat → Slot) : Prop :=
  (∀ j, os[j]? = ops[i + j]?) → (∀ j, i ≤ j → ops.size + j ∉ ld) → ∃ E1, Chain P Θ n ops ld (List.range' i os.length) E E1 ∧ Run P Θ n R k E1

theorem Run.ops0 {id : Nat} (h : OpsAt P Θ n R ops (List.range ops.size) 0 ops.toList k E) : Run P Θ n R (.code (.region id ops false) :: k) E := by
  obtain ⟨E1, h1, h2⟩ := h (fun j => by simp) (fun j _ => by simp)
  refine .region (loud := List.range ops.size) ?_ (fun h => by cases h) h2
  rw [List.range_eq_range']
  simpa [List.range_eq_range'] using h1

theorem Run.ops1 {id : Nat} (hok : (orderOk ops ld && ld.all fun x => decide (x < ops.size)) = true) (h : OpsAt P Θ n R ops ld 0 ops.toList k E) : Run P Θ n R (.code (.region id ops true) :: k) E := by
  simp only [Bool.and_eq_true, List.all_eq_true, decide_eq_true_eq] at hok
  obtain ⟨E1, h1, h2⟩ := h (fun j => by simp) (fun j _ hj => by have := hok.2 _ hj; omega)
  refine .region (loud := ld) ?_ (fun _ => hok.1) h2
  rw [List.range_eq_range']
  simpa using h1

/-- A region whose first operation moves a scalar that is asked for later. -/
theorem Run.ops1S {id : Nat} {o : Oper} {os : List Oper} {d q : Nat} {c : Value} {l : Env} (hops : ops.toList = o :: os) (hok : (orderOk ops (ops.size :: ld) && ld.all fun x => decide (x < ops.size)) = true) (hd : o.dst = some d) (ho : o.op = .move (.tmp q)) (hg : o.guard = none)
    (hE : lk l q = .d (.v c)) (hq : (decide (d < n) && (q != d) && !owner (lk l d) && c.oneCell') = true)
    (h : OpsAt P Θ n R ops (ops.size :: ld) 1 os k (lk ((d, .d (.v c)) :: l))) : Run P Θ n R (.code (.region id ops true) :: k) (lk l) := by
  simp only [Bool.and_eq_true, List.all_eq_true, decide_eq_true_eq, bne_iff_ne, ne_eq, Bool.not_eq_true'] at hok hq
  obtain ⟨⟨⟨q1, q2⟩, q3⟩, q4⟩ := hq
  have hj : ∀ j, ops[j]? = (o :: os)[j]? := fun j => by rw [← hops, Array.getElem?_toList]
  obtain ⟨E1, h1, h2⟩ := h (fun j => by rw [hj, Nat.add_comm, List.getElem?_cons_succ]) (fun j h1j hm => by
    rcases List.mem_cons.1 hm with h | h
    · omega
    · have := hok.2 _ h; omega)
  refine .region (loud := ops.size :: ld) ?_ (fun _ => hok.1) h2
  have hlen : ops.size = os.length + 1 := by rw [← Array.length_toList, hops]; simp
  rw [List.range_eq_range', hlen, List.range'_succ]
  exact .cons (b := false) (by rw [hj]; rfl) (by simp) (fun _ => ⟨d, q, c, hd, ho, hg, hE, q2, q4, rfl⟩) (.quiet (by unfold Wants; rw [hg]) hd q1 q3 (.mv (.inl ho) (.tmp hE rfl))) (by rw [upd_lk]; simpa [hlen] using h1)

theorem OpsAt.nil (h : Run P Θ n R k E) : OpsAt P Θ n R ops ld i [] k E := fun _ _ => ⟨E, .nil, h⟩

theorem OpsAt.cons {o : Oper} {b : Bool} (hb : b = true → i ∈ ld) (h1 : Step1 P Θ n ops E o b E') (h : OpsAt P Θ n R ops ld (i + 1) os k E') : OpsAt P Θ n R ops ld i (o :: os) k E := by
  intro hj hns
  obtain ⟨E1, g1, g2⟩ := h (fun j => by have := hj (j + 1); simpa [Nat.add_assoc, Nat.add_comm 1 j] using this) (fun j hij => hns j (by omega))
  refine ⟨E1, ?_, g2⟩
  rw [List.length_cons, List.range'_succ]
  exact .cons (by have := hj 0; simpa using this.symm) hb (fun h => absurd h (hns i (Nat.le_refl _))) h1 g1

omit [Tables] in
theorem Wants.none {o : Oper} (h : o.guard = none) : Wants ops E o true := by unfold Wants; rw [h]

variable {d : Nat} {op : Op} {ty : TypeId} {pos : String} {af : Array Edge}

/-- A quiet operation. -/
theorem OpsAt.ev {s : Slot} (h : Ev P Θ (lk l) ⟨some d, op, ty, pos, af, none⟩ s) (hd : (decide (d < n) && !owner (lk l d)) = true)
    (next : OpsAt P Θ n R ops ld (i + 1) os k (lk ((d, s) :: l))) : OpsAt P Θ n R ops ld i (⟨some d, op, ty, pos, af, none⟩ :: os) k (lk l) := by
  simp only [Bool.and_eq_true, decide_eq_true_eq, Bool.not_eq_true'] at hd
  exact .cons (b := false) (by simp) (.quiet (.none rfl) rfl hd.1 hd.2 h) next

theorem OpsAt.q {s : Slot} {c : Prop} (h : evq Θ (lk l) ⟨some d, op, ty, pos, af, none⟩ = some (s, c)) (hd : (decide (d < n) && !owner (lk l d)) = true) (hc : c)
    (next : OpsAt P Θ n R ops ld (i + 1) os k (lk ((d, s) :: l))) : OpsAt P Θ n R ops ld i (⟨some d, op, ty, pos, af, none⟩ :: os) k (lk l) :=
  .ev (evq_sound h hc) hd next

/-- The same behind a guard. -/
def guardOf (ops : Array Oper) (E : Nat → Slot) (j : Nat) (want : Bool) : Option Bool :=
  match (ops[j]?).bind (·.dst) with
  | some d => match E d with
    | .d (.v (.bool c)) => some (c == want)
    | .no => some false
    | _ => none
  | none => none

omit [Tables] in
theorem guardOf_sound {j : Nat} {want b : Bool} {o : Oper} (hg : o.guard = some (j, want)) (h : guardOf ops E j want = some b) : Wants ops E o b := by
  unfold Wants
  rw [hg]
  unfold guardOf at h
  split at h
  · next d hd =>
    rw [Option.bind_eq_some_iff] at hd
    obtain ⟨oj, h1, h2⟩ := hd
    split at h
    · next c hE => cases h; exact ⟨oj, d, h1, h2, .inl ⟨c, hE, rfl⟩⟩
    · next hE => cases h; exact ⟨oj, d, h1, h2, .inr ⟨hE, rfl⟩⟩
    · cases h
  · cases h

theorem OpsAt.evg {s : Slot} {j : Nat} {want : Bool} (hg : guardOf ops (lk l) j want = some true) (h : Ev P Θ (lk l) ⟨some d, op, ty, pos, af, some (j, want)⟩ s) (hd : (decide (d < n) && !owner (lk l d)) = true)
    (next : OpsAt P Θ n R ops ld (i + 1) os k (lk ((d, s) :: l))) : OpsAt P Θ n R ops ld i (⟨some d, op, ty, pos, af, some (j, want)⟩ :: os) k (lk l) := by
  simp only [Bool.and_eq_true, decide_eq_true_eq, Bool.not_eq_true'] at hd
  exact .cons (b := false) (by simp) (.quiet (guardOf_sound rfl hg) rfl hd.1 hd.2 h) next

theorem OpsAt.qg {s : Slot} {c : Prop} {j : Nat} {want : Bool} (hg : guardOf ops (lk l) j want = some true) (h : evq Θ (lk l) ⟨some d, op, ty, pos, af, some (j, want)⟩ = some (s, c)) (hd : (decide (d < n) && !owner (lk l d)) = true) (hc : c)
    (next : OpsAt P Θ n R ops ld (i + 1) os k (lk ((d, s) :: l))) : OpsAt P Θ n R ops ld i (⟨some d, op, ty, pos, af, some (j, want)⟩ :: os) k (lk l) :=
  .evg hg (evq_sound h hc) hd next

theorem OpsAt.sk {j : Nat} {want : Bool} (hg : guardOf ops (lk l) j want = some false) (hd : (decide (d < n) && !owner (lk l d)) = true)
    (next : OpsAt P Θ n R ops ld (i + 1) os k (lk ((d, .no) :: l))) : OpsAt P Θ n R ops ld i (⟨some d, op, ty, pos, af, some (j, want)⟩ :: os) k (lk l) := by
  simp only [Bool.and_eq_true, decide_eq_true_eq, Bool.not_eq_true'] at hd
  exact .cons (b := false) (by simp) (.skip (guardOf_sound rfl hg) rfl hd.1 hd.2) next

/-! ### Scalars, lengths, calls -/

def notBool : D → Bool
  | .v (.bool _) => false
  | _ => true

theorem Ev.binI {o : Oper} {bop : BinOp} {T T2 : TypeId} {x y : Operand} {a b z : D} {c1 c2 c3 : Prop} (ho : o.op = .binOp bop T x y T2) (h1 : opOf E x = some (a, c1)) (h2 : opOf E y = some (b, c2))
    (h3 : binOf bop a b = some (z, c3)) (hn : notBool a = true) (h : c1 ∧ c2 ∧ c3) : Ev P Θ E o (.d z) := by
  refine .bin ho (opOf_sound h1 h.1) (opOf_sound h2 h.2.1) (binOf_sound (fun _ => .inr fun p q => .inl ?_) h3 h.2.2)
  rintro rfl
  cases hn

omit [Tables] in
theorem ExD_len {o : Oper} {x : Operand} {T : TypeId} {sk : SK} {es e es' b : Nat} {xs : List D} (hΘ : Agree P Θ) (ho : o.op = .call { callee := .builtin .len, args := #[x], argTypes := #[T] }) (ht : (Θ T).td = .sl e es' b) :
    ExD P o [(x, .lst sk es xs)] (.v (.int .i64 xs.length)) := by
  intro S w ev _ h
  obtain ⟨cs, h1, h2⟩ := h (x, .lst sk es xs) (by simp)
  simp only [Rp] at h1
  obtain ⟨a, l, c, rfl, h3, _⟩ := h1
  simp only [VC] at h2
  have he : ev x = .slice a l c := by simpa using h2.symm
  have hl : l = xs.length := by cases sk <;> simp_all [Hdr]
  refine ⟨.int .i64 xs.length, ?_, RD.ofV rfl⟩
  simp [execOp, ho, resolve, invoke, builtin, Builtin.len_, he, run_underlying (hΘ.says ht).1, goInt, hl]

theorem Ev.len {o : Oper} {x : Operand} {T : TypeId} {sk : SK} {es e es' b : Nat} {xs : List D} {c : Prop} (hΘ : Agree P Θ) (ho : o.op = .call { callee := .builtin .len, args := #[x], argTypes := #[T] }) (h : opOf E x = some (.lst sk es xs, c))
    (ht : (Θ T).td = .sl e es' b) (hc : c) : Ev P Θ E o (.d (.v (.int .i64 xs.length))) :=
  .plain (xs := [(x, .lst sk es xs)]) (fun y hy => by
    simp only [List.mem_singleton] at hy
    subst hy
    exact ⟨opOf_sound h hc, by simp [ho, Op.operands, Call.operands]⟩) (ExD_len hΘ ho ht)

theorem Ev.lenV {o : Oper} {q : Nat} {T : TypeId} {s p nl e es xs e' es' b} (ho : o.op = .call { callee := .builtin .len, args := #[.tmp q], argTypes := #[T] }) (h : vwOf E q = some (s, p, nl, e, es, xs))
    (ht : (Θ T).td = .sl e' es' b) : Ev P Θ E o (.d (.v (.int .i64 xs.length))) := .lenView ho (vwOf_sound h) ht

theorem Ev.calls {o : Oper} {fo : Operand} {args : Array Operand} {ts : Array TypeId} {f : FuncId} {fs cs ds : List D} {r : D} {c1 c2 : Prop} (ho : o.op = .call { callee := .value fo, args := args, argTypes := ts })
    (h1 : opOf E fo = some (.fn (.func f) fs cs, c1)) (h2 : opsOf E args.toList = some (ds, c2)) (hc : c1 ∧ c2) (hf : Callable P f) (hd : DFun P f (fs ++ ds ++ cs) r) : Ev P Θ E o (.d r) :=
  .call ho (opOf_sound h1 hc.1) (opsOf_sound h2 hc.2) hf hd

/-! ### What changes -/

omit [Tables] in
theorem kill_lk {f : Slot → Bool} : kill f (lk l) = lk (l.map fun (u, s) => (u, if f s || isWk s then .un else s)) := by
  funext u
  unfold kill
  induction l with
  | nil => show (if (f Slot.un || isWk Slot.un) = true then Slot.un else Slot.un) = Slot.un; cases f Slot.un <;> rfl
  | cons x l ih =>
    obtain ⟨v, s⟩ := x
    simp only [List.map_cons, lk]
    by_cases h : v = u
    · simp [h]
    · simp only [h, if_false]; exact ih

def killL (f : Slot → Bool) (l : Env) : Env := l.map fun (u, s) => (u, if f s || isWk s then .un else s)

theorem OpsAt.loud {o : Oper} {l' : Env} (h : OpStep P Θ n (lk l) o (lk l')) (hg : o.guard = none) (hi : ld.contains i = true) (next : OpsAt P Θ n R ops ld (i + 1) os k (lk l')) :
    OpsAt P Θ n R ops ld i (o :: os) k (lk l) :=
  .cons (b := true) (fun _ => by simpa using hi) (.go (.none hg) h) next

/-- An own slice is assigned. -/
theorem OpsAt.asg {q : Nat} {nl e es xs} (hE : lk l q = .d (.own nl e es xs)) (hd : (decide (d < n) && (q != d)) = true) (hi : ld.contains i = true)
    (next : OpsAt P Θ n R ops ld (i + 1) os k (lk ((d, .d (.own nl e es xs)) :: (q, .view d []) :: killL (fun s => refersTo d s || refersTo q s) l))) :
    OpsAt P Θ n R ops ld i (⟨some d, .assign (.tmp q), ty, pos, af, none⟩ :: os) k (lk l) := by
  simp only [Bool.and_eq_true, decide_eq_true_eq, bne_iff_ne, ne_eq] at hd
  refine .loud ?_ rfl hi next
  have := OpStep.asg (P := P) (Θ := Θ) (n := n) (o := ⟨some d, .assign (.tmp q), ty, pos, af, none⟩) rfl hd.1 rfl hd.2 hE
  have he : free d (free q (lk l)) = lk (killL (fun s => refersTo d s || refersTo q s) l) := by
    unfold free killL
    rw [kill_lk, kill_lk]
    congr 1
    simp only [List.map_map]
    apply List.map_congr_left
    rintro ⟨u, s⟩ _
    simp only [Function.comp]
    cases h1 : refersTo q s <;> cases h2 : refersTo d s <;> cases h3 : isWk s <;> simp [h2, h3, show isWk .un = false from rfl, show ∀ t, refersTo t .un = false from fun _ => rfl]
  rw [he] at this
  exact this

/-- An append to an own slice. -/
theorem OpsAt.app {q s : Nat} {x : Operand} {T : TypeId} {nl e es xs ys b} (hv : vwOf (lk l) q = some (s, [], nl, e, es, xs)) (hs : lk l s = .d (.own nl e es xs)) (hx : Src (lk l) x es ys) (ht : (Θ T).td = .sl e es b)
    (hd : (decide (d < n) && !owner (lk l d) && (d != s)) = true) (hb : (xs.length + ys.length) * b ≤ 140737488355328) (hm : xs.length + ys.length ≤ maxLen) (hi : ld.contains i = true)
    (next : OpsAt P Θ n R ops ld (i + 1) os k (lk ((d, .d (.own (nl && ys.isEmpty) e es (xs ++ ys))) :: (s, .un) :: killL (refersTo s) l))) :
    OpsAt P Θ n R ops ld i (⟨some d, .call { callee := .builtin .append, args := #[.tmp q, x], argTypes := #[T, T] }, ty, pos, af, none⟩ :: os) k (lk l) := by
  simp only [Bool.and_eq_true, decide_eq_true_eq, Bool.not_eq_true', bne_iff_ne, ne_eq] at hd
  refine .loud ?_ rfl hi next
  have hq : q = s ∨ lk l q = .view s [] := by
    rcases vwOf_sound hv with ⟨h, _⟩ | ⟨_, h, _⟩
    · exact .inr h
    · exact .inl h
  have := OpStep.app (P := P) (Θ := Θ) (n := n) (o := ⟨some d, .call { callee := .builtin .append, args := #[.tmp q, x], argTypes := #[T, T] }, ty, pos, af, none⟩) rfl hd.1.1 hd.1.2 hd.2 rfl hs hq hx ht hb hm
  unfold free at this
  rw [kill_lk] at this
  exact this

/-- A store into a box. -/
theorem OpsAt.sto {q s : Nat} {p : List Nat} {X y : D} {x : Operand} {T : TypeId} {c : Prop} (ha : adrOf (lk l) q = some (s, p, X)) (hx : opOf (lk l) x = some (y, c)) (hc : c)
    (hf : ((Θ T).fits y && (y.size == (X.get p).size) && (X.get p).noOwn) = true) (hi : ld.contains i = true)
    (next : OpsAt P Θ n R ops ld (i + 1) os k (lk ((s, .box (X.set p y)) :: killL (below s p) l))) :
    OpsAt P Θ n R ops ld i (⟨none, .store T (.tmp q) x, ty, pos, af, none⟩ :: os) k (lk l) := by
  simp only [Bool.and_eq_true, beq_iff_eq] at hf
  refine .loud ?_ rfl hi next
  have := OpStep.sto (P := P) (Θ := Θ) (n := n) (o := ⟨none, .store T (.tmp q) x, ty, pos, af, none⟩) rfl rfl (adrOf_sound ha) (opOf_sound hx hc) hf.1.1 hf.1.2 hf.2
  rw [kill_lk] at this
  exact this

/-- A store into an element of an own slice. -/
theorem OpsAt.elt {q s j : Nat} {r : List Nat} {y : D} {x : Operand} {T : TypeId} {nl e es xs} {c : Prop} (ha : lk l q = .elt s [] j r) (hs : lk l s = .d (.own nl e es xs)) (hx : opOf (lk l) x = some (y, c)) (hc : c)
    (hf : (Θ T).fits y = true) (hsz : y.size = ((xs.getD j un).get r).size) (hi : ld.contains i = true)
    (next : OpsAt P Θ n R ops ld (i + 1) os k (lk ((s, .d (.own nl e es (xs.set j ((xs.getD j un).set r y)))) :: killL (belowE s j r) l))) :
    OpsAt P Θ n R ops ld i (⟨none, .store T (.tmp q) x, ty, pos, af, none⟩ :: os) k (lk l) := by
  refine .loud ?_ rfl hi next
  have := OpStep.elt (P := P) (Θ := Θ) (n := n) (o := ⟨none, .store T (.tmp q) x, ty, pos, af, none⟩) rfl rfl ha hs (opOf_sound hx hc) hf hsz
  rw [kill_lk] at this
  exact this

/-- An own slice out of several results. -/
theorem OpsAt.ext {q j : Nat} {ds : List D} {nl e es xs} (hE : lk l q = .d (.tup ds)) (hj : j < ds.length) (hx : ds.getD j un = .own nl e es xs) (hd : (decide (d < n) && !owner (lk l d) && (d != q)) = true) (hi : ld.contains i = true)
    (next : OpsAt P Θ n R ops ld (i + 1) os k (lk ((d, .d (.own nl e es xs)) :: (q, .d (.tup (ds.set j (.dead false)))) :: l))) :
    OpsAt P Θ n R ops ld i (⟨some d, .extract (.tmp q) j, ty, pos, af, none⟩ :: os) k (lk l) := by
  simp only [Bool.and_eq_true, decide_eq_true_eq, Bool.not_eq_true', bne_iff_ne, ne_eq] at hd
  exact .loud (OpStep.ext rfl hd.1.1 hd.1.2 hd.2 rfl hE hj hx) rfl hi next

/-! ### Ghosts -/

def keepL (ks : List Nat) (l : Env) : Env := ks.map fun k => (k, lk l k)
def keepOk (ks : List Nat) (l : Env) : Bool := ks.all fun k => match refers (lk l k) with | some s => ks.contains s | none => true

omit [Tables] in
theorem lk_keepL {ks : List Nat} {u : Nat} : lk (keepL ks l) u = if u ∈ ks then lk l u else .un := by
  unfold keepL
  induction ks with
  | nil => simp [lk]
  | cons k ks ih =>
    simp only [List.map_cons, lk]
    by_cases h : k = u
    · subst h; simp
    · simp only [h, if_false, ih, List.mem_cons]
      have : u ≠ k := fun e => h e.symm
      simp [this]

/-- Only some slots are kept. -/
theorem Run.keep {todo : List Item} (ks : List Nat) (hk : keepOk ks l = true) (h : Run P Θ n R todo (lk (keepL ks l))) : Run P Θ n R todo (lk l) := by
  refine .ghost (fun ρ w tmps hI => ⟨ρ, Fr.refl _ _, hI.less fun u => ?_⟩) h
  rw [lk_keepL]
  by_cases hu : u ∈ ks
  · refine .inr ⟨by simp [hu], fun s hs => ?_⟩
    simp only [keepOk, List.all_eq_true] at hk
    have := hk u hu
    rw [hs] at this
    rw [lk_keepL]
    have h2 : s ∈ ks := by simpa using this
    simp [h2]
  · exact .inl (by simp [hu])

end Go.Dat

namespace Go.Dat

variable [Tables]

variable {P : Program} {Θ : TypeId → TI} {n : Nat} {E E' : Nat → Slot} {R : (Nat → Slot) → Prop} {ops : Array Oper} {ld : List Nat} {i : Nat} {os : List Oper} {k : List Item} {l : Env}
variable {ρ ρ' : Nat → Tag} {w w' : World} {tmps : Array Value}

/-! ### Results -/

def retag0 (ρ : Nat → Tag) (t : Nat) (b : Nat) : Tag :=
  match ρ b with
  | .sl t' p => if t' = t then .sl 0 p else .other
  | .sh => .sh
  | _ => .other

omit [Tables] in
theorem retag0_lt {t b : Nat} (h : retag0 ρ t b ≠ .other) : ρ b ≠ .other := by
  intro h2; simp [retag0, h2] at h

omit [Tables] in
theorem retag0_fr (t : Nat) : Fr ρ w (retag0 ρ t) w :=
  ⟨fun b hb => by simp [retag0, hb], fun b _ hb => by simp [retag0, hb], fun _ _ _ => rfl, rfl, rfl, rfl, Nat.le_refl _⟩

omit [Tables] in
theorem RV.retag0 {t : Nat} {x : D} {u : Value} (h : RV ρ w t x u) : RV (retag0 ρ t) w 0 x u :=
  RV.mono (fun b hb => ⟨by simp [Dat.retag0, hb], rfl⟩) (fun b r hb => ⟨by simp [Dat.retag0, hb], rfl⟩) h

def resV (tmps : Array Value) : ResultVar → Sem Value
  | .tmp t => pure (tmps.getD t undef)
  | .cell a t => do loadVar t (← asAddr (tmps.getD a undef))

omit [Tables] in
theorem results_eq (fn : Func) (tmps : Array Value) : results fn tmps = (do let vs ← fn.results.mapM (resV tmps); pure (if h : vs.size = 1 then vs[0] else .tuple vs)) := rfl

omit [Tables] in
theorem results_one {fn : Func} {rv : ResultVar} {v : Value} (h : fn.results = #[rv]) (hv : (match rv with | .tmp t => (Pure.pure (tmps.getD t undef) : Sem Value) | .cell a t => (do loadVar t (← asAddr (tmps.getD a undef)))).run P w = .ok v w) :
    (results fn tmps).run P w = .ok v w := by
  cases rv with
  | tmp t =>
    simp only [Sem.run_pure, Result.ok.injEq, and_true] at hv
    simp [results, h, ← hv]
  | cell a t =>
    simp only [results, h]
    simp only [Array.mapM_eq_mapM_toList, List.mapM_cons, List.mapM_nil, Sem.run_bind, Sem.run_map, Sem.run_pure, Result.andThen_ok] at hv ⊢
    rw [hv]
    simp

theorem Ends.tmp {fn : Func} {t : Nat} {x : D} (h : fn.results = #[.tmp t]) (hE : E t = .d x) : Ends P fn x E := by
  intro n ρ w tmps hI
  have h1 := hI.slot t
  rw [hE] at h1
  exact ⟨tmps.getD t undef, retag0 ρ t, results_one h (by simp), retag0_fr t, fun b hb => hI.lt b (retag0_lt hb), RV.retag0 h1⟩

theorem Ends.view {fn : Func} {t s : Nat} {nl e es xs} (h : fn.results = #[.tmp t]) (hE : E t = .view s []) (hs : E s = .d (.own nl e es xs)) : Ends P fn (.own nl e es xs) E := by
  intro n ρ w tmps hI
  have h1 := hI.slot s
  rw [hs] at h1
  have h2 := hI.slot t
  rw [hE] at h2
  obtain ⟨nl', e', es', xs', h3⟩ := h2
  have hv : tmps.getD t undef = tmps.getD s undef := by
    rcases h3 with ⟨_, _, h⟩ | ⟨x, b, h, _⟩
    · exact h
    · rw [hs] at h; cases h
  exact ⟨tmps.getD s undef, retag0 ρ s, results_one h (by simpa using hv), retag0_fr s, fun b hb => hI.lt b (retag0_lt hb), RV.retag0 h1⟩

theorem Adr.load {k s : Nat} {p : List Nat} {x : D} {T : TypeId} (hΘ : Agree P Θ) (hI : Inv n ρ w tmps E) (hk : Adr E k s p x) (hf : (Θ T).fits (x.get p) = true) (hp : (x.get p).pl = true) :
    ∃ u, (do loadVar T (← asAddr (tmps.getD k undef)) : Sem Value).run P w = .ok u w ∧ RD (sh ρ) w (x.get p) u := by
  obtain ⟨b, cs, g1, g2, g3, g4, g5, g6⟩ := hk.sound hI
  obtain ⟨c1, m, c2, e1, e2, e3, _⟩ := RB.lens p x g5 g6
  have hm := g4.mem
  rw [e1, Mem.app, Mem.app] at hm
  have h3 := (RB.plain _ (D.pl_noOwn hp)).1 e3
  obtain ⟨u, q1, q2⟩ := loadVar_run (P := P) (w := w) (b := b) (o := x.off p) hΘ hf (Rp.len _ h3) (by rw [← e2]; simpa using hm.1.2)
  refine ⟨u, ?_, m, h3, q1⟩
  rw [g2]
  simp only [asAddr, Sem.run_bind, Sem.run_pure, Result.andThen_ok, q2]

theorem Ends.cell {fn : Func} {a : Nat} {T : TypeId} {s p x} (hΘ : Agree P Θ) (h : fn.results = #[.cell a T]) (hE : adrOf E a = some (s, p, x)) (hf : ((Θ T).fits (x.get p) && (x.get p).pl) = true) : Ends P fn (x.get p) E := by
  intro n ρ w tmps hI
  simp only [Bool.and_eq_true] at hf
  obtain ⟨u, h1, h2⟩ := (adrOf_sound hE).load hΘ hI hf.1 hf.2
  exact ⟨u, ρ, results_one h h1, Fr.refl _ _, hI.lt, h2.rv⟩

def resOf (Θ : TypeId → TI) (E : Nat → Slot) : List ResultVar → Option (List D × Prop)
  | [] => some ([], True)
  | .tmp t :: r => match E t with
    | .d x => match resOf Θ E r with
      | some (ds, c) => some (x :: ds, x.pl = true ∧ c)
      | none => none
    | _ => none
  | .cell a T :: r => match adrOf E a with
    | some (_, p, x) => match resOf Θ E r with
      | some (ds, c) => some (x.get p :: ds, ((Θ T).fits (x.get p) = true ∧ (x.get p).pl = true) ∧ c)
      | none => none
    | none => none

theorem resOf_run (hΘ : Agree P Θ) (hI : Inv n ρ w tmps E) : ∀ {rs : List ResultVar} {ds : List D} {c : Prop}, resOf Θ E rs = some (ds, c) → c → ∃ vs, (rs.mapM (resV tmps)).run P w = .ok vs w ∧ Rpv (sh ρ) w ds vs
  | [], ds, c, h, hc => by
    cases h
    exact ⟨[], rfl, by simp [Rpv]⟩
  | .tmp t :: r, ds, c, h, hc => by
    unfold resOf at h
    split at h
    · next x hE =>
      split at h
      · next h2 =>
        cases h
        obtain ⟨vs, h3, h4⟩ := resOf_run hΘ hI h2 hc.2
        have h5 := hI.slot t
        rw [hE] at h5
        obtain ⟨cs, g1, g2⟩ := (RV.plain hc.1).1 h5
        refine ⟨tmps.getD t undef :: vs, ?_, ?_⟩
        · simp only [List.mapM_cons, resV, Sem.run_bind, Sem.run_pure, Result.andThen_ok, h3]
        · simp only [Rpv]; exact ⟨_, _, cs, rfl, g1, g2, h4⟩
      · cases h
    · cases h
  | .cell a T :: r, ds, c, h, hc => by
    unfold resOf at h
    split at h
    · next s p x hE =>
      split at h
      · next h2 =>
        cases h
        obtain ⟨vs, h3, h4⟩ := resOf_run hΘ hI h2 hc.2
        obtain ⟨u, g1, cs, g2, g3⟩ := (adrOf_sound hE).load hΘ hI hc.1.1 hc.1.2
        refine ⟨u :: vs, ?_, ?_⟩
        · have g1' : (resV tmps (.cell a T)).run P w = .ok u w := g1
          simp only [List.mapM_cons]
          rw [Sem.run_bind, g1']
          simp only [Result.andThen_ok, Sem.run_bind, h3, Sem.run_pure]
        · simp only [Rpv]; exact ⟨_, _, cs, rfl, g2, g3, h4⟩
      · cases h
    · cases h

omit [Tables] in
theorem Rpv.rvs {t : Nat} : ∀ {ds : List D} {vs : List Value} {i : Nat}, Rpv (sh ρ) w ds vs → RVs ρ w t i ds vs
  | [], _, _, h => by simp only [Rpv] at h; subst h; rfl
  | d :: ds, _, i, h => by
    simp only [Rpv] at h
    obtain ⟨u, y, cs, rfl, h1, h2, h3⟩ := h
    exact ⟨u, y, rfl, ⟨cs, RB.ofRp h1, h2⟩, h3.rvs⟩

theorem Ends.tup {fn : Func} {ds : List D} {c : Prop} (hΘ : Agree P Θ) (h : resOf Θ E fn.results.toList = some (ds, c)) (hc : c) (h1 : (ds.length == 1) = false) : Ends P fn (.tup ds) E := by
  intro n ρ w tmps hI
  obtain ⟨vs, h2, h3⟩ := resOf_run hΘ hI h hc
  have hl := h3.len
  have hne : ¬ vs.toArray.size = 1 := by simp only [List.size_toArray, hl]; simpa using h1
  refine ⟨.tuple vs.toArray, ρ, ?_, Fr.refl _ _, hI.lt, vs, rfl, h3.rvs⟩
  rw [results_eq, Sem.run_bind]
  have : (fn.results.mapM (resV tmps)).run P w = .ok vs.toArray w := by
    rw [Array.mapM_eq_mapM_toList, Sem.run_map, h2]
    rfl
  rw [this]
  simp only [Result.andThen_ok, hne, dif_neg, not_false_eq_true, Sem.run_pure]

/-! ### The contract out of a derivation -/

def initL : Nat → List D → Env
  | _, [] => []
  | i, d :: ds => (i, .d d) :: initL (i + 1) ds

omit [Tables] in
theorem lk_initL : ∀ (ds : List D) (i t : Nat), lk (initL i ds) t = if t < i then .un else init ds (t - i)
  | [], i, t => by simp [initL, lk, init]
  | d :: ds, i, t => by
    simp only [initL, lk, lk_initL ds (i + 1) t]
    by_cases h : i = t
    · subst h; simp [init]
    · simp only [h, if_false]
      by_cases h2 : t < i
      · simp [h2, Nat.lt_succ_of_lt h2]
      · have h3 : ¬ t < i + 1 := by omega
        simp only [h2, h3, if_false, init]
        rw [show t - i = (t - (i + 1)) + 1 by omega]
        simp

theorem DFun.ofRun {f : FuncId} {fn : Func} {c : Code} {ds : List D} {r : D} (hΘ : Agree P Θ) (hm : P.follows .mixedOrders = true) (hf : P.funcs[f]? = some fn) (hb : fn.body = some c) (hn : (decide (ds.length ≤ fn.ntmps)) = true)
    (h : Run P Θ fn.ntmps (Ends P fn r) [.code c] (lk (initL 0 ds))) : DFun P f ds r := by
  refine .of_run hΘ hm hf hb (by simpa using hn) ?_
  have : lk (initL 0 ds) = init ds := by
    funext t
    rw [lk_initL]
    simp
  rw [← this]
  exact h

/-! ### Own slices, shared -/

def okK : Bool → SK → Bool
  | true, .nl => true
  | false, .opn => true
  | _, .any => true
  | _, _ => false

def frz (s : Nat) (x : D) : Slot → Slot
  | .view s' [] => if s' = s then .d x else .view s' []
  | .elt s' p i q => if s' = s then .un else .elt s' p i q
  | .sub s' p i q => if s' = s then .un else .sub s' p i q
  | .ref s' p => if s' = s then .un else .ref s' p
  | .view s' (a :: p) => if s' = s then .un else .view s' (a :: p)
  | y => y

def frzL (s : Nat) (x : D) (l : Env) : Env := l.map fun (u, y) => (u, frz s x y)

omit [Tables] in
theorem lk_map {f : Slot → Slot} (hf : f .un = .un) {u : Nat} : lk (l.map fun (u, s) => (u, f s)) u = f (lk l u) := by
  induction l with
  | nil => simp [lk, hf]
  | cons x l ih =>
    obtain ⟨v, s⟩ := x
    simp only [List.map_cons, lk]
    by_cases h : v = u
    · simp [h]
    · simp only [h, if_false]; exact ih

omit [Tables] in
theorem ROwn.lst {tg : Tag} {nl : Bool} {e es : Nat} {xs : List D} {v : Value} {sk : SK} (h : ROwn ρ w tg nl e es xs v) (hk : okK nl sk = true) (hs : ∀ b, ρ b = .sh → ρ' b = .sh) (ht : ∀ b, ρ b = tg → ρ' b = .sh) :
    RD (sh ρ') w (.lst sk es xs) v := by
  obtain ⟨cells, ⟨h1, h2⟩, h3, h4, h5⟩ := h
  refine ⟨[v], ?_, rfl⟩
  simp only [Rp]
  rcases h2 with ⟨rfl, h6⟩ | ⟨g, cap, cur, rfl, _, g1, g2, g3, g4, g5⟩
  · have hx : xs = [] := List.eq_nil_of_length_eq_zero h6
    subst hx
    refine ⟨none, 0, 0, rfl, ?_, fun ad had => by cases had⟩
    have hn : nl = true := h4.2 rfl
    subst hn
    cases sk <;> simp_all [okK, Hdr]
  · have hn : nl = false := by
      cases nl
      · rfl
      · have := h4.1 rfl; cases this
    subst hn
    refine ⟨some ⟨g, 0, none⟩, xs.length, cap, rfl, ?_, fun ad had => ?_⟩
    · cases sk <;> simp_all [okK, Hdr]
    · cases had
      have hg : ρ' g = .sh := ht g (h5 g rfl)
      refine Rpx.of hg (Rpa.mono (fun b hb => ⟨hs b hb, rfl⟩) xs h3) (Mem.ofAt fun j v hj => ?_)
      rw [cell_of_row w g _ _ _ _ g1, ← g5] at *
      rw [List.getElem?_take] at hj
      split at hj
      · simpa using hj
      · cases hj

theorem Run.freeze {todo : List Item} (s : Nat) (sk : SK) {nl e es xs} (hE : lk l s = .d (.own nl e es xs)) (hk : okK nl sk = true) (h : Run P Θ n R todo (lk ((s, .d (.lst sk es xs)) :: frzL s (.lst sk es xs) l))) : Run P Θ n R todo (lk l) := by
  refine .ghost (fun ρ w tmps hI => ?_) h
  let ρ' : Nat → Tag := fun b => if ρ b = .sl s [] then .sh else ρ b
  have hk' : ∀ b, ρ b ≠ .sl s [] → ρ' b = ρ b := fun b hb => by simp [ρ', hb]
  have hsh : ∀ b, ρ b = .sh → ρ' b = .sh := fun b hb => by rw [hk' b (by simp [hb]), hb]
  have hown : ROwn ρ w (.sl s []) nl e es xs (tmps.getD s undef) := by
    have := hI.slot s
    rw [hE] at this
    exact RV.own this
  have hlst := hown.lst (ρ' := ρ') hk hsh (fun b hb => by simp [ρ', hb])
  refine ⟨ρ', ⟨hsh, fun b _ hb => by rw [hk' b (by simp [hb]), hb], fun _ _ _ => rfl, rfl, rfl, rfl, Nat.le_refl _⟩, hI.size, fun b hb => ?_, hI.tab.mono (fun b hb => ⟨hsh b hb, rfl⟩), fun u => ?_⟩
  · simp only [ρ'] at hb
    split at hb
    · next h => exact hI.lt b (by simp [h])
    · exact hI.lt b hb
  · have hslot := hI.slot u
    have hlku : lk (frzL s (.lst sk es xs) l) u = frz s (.lst sk es xs) (lk l u) := lk_map rfl
    by_cases hu : s = u
    · subst hu
      simp only [lk, if_true]
      exact hlst.rv
    · simp only [lk, hu, if_false, hlku]
      have keep : refers (lk l u) ≠ some s → RS ρ' w tmps (lk ((s, .d (.lst sk es xs)) :: frzL s (.lst sk es xs) l)) u (tmps.getD u undef) (lk l u) := by
        intro hne
        refine hslot.keep hI (fun b hb => ⟨hsh b hb, rfl⟩) (fun b r hb => ⟨by rw [hk' b (by rw [hb]; simp [Ne.symm hu]), hb], rfl⟩) (fun b hb => ⟨by rw [hk' b (by simp [hb]), hb], rfl⟩) (fun s' hs' => ?_) (.inr ⟨fun _ _ => rfl, Nat.le_refl _⟩)
        have h1 : s' ≠ s := by rintro rfl; exact hne hs'
        have how := hI.refOwner hs'
        refine ⟨?_, rfl, fun _ _ => rfl⟩
        simp only [lk, h1.symm, if_false]
        rw [show lk (frzL s (.lst sk es xs) l) s' = frz s (.lst sk es xs) (lk l s') from lk_map rfl]
        cases hq : lk l s' <;> simp_all [owner, frz]
      cases hq : lk l u with
      | view s' p =>
        cases p with
        | nil =>
          simp only [frz]
          split
          · next hs =>
            subst hs
            rw [hq] at hslot
            obtain ⟨nl', e', es', xs', h1⟩ := hslot
            rcases h1 with ⟨_, _, h1⟩ | ⟨x, b, h1, _⟩
            · rw [h1]; exact hlst.rv
            · rw [hE] at h1; cases h1
          · next hs => have := keep (by rw [hq]; simpa [refers] using hs); rw [hq] at this; exact this
        | cons a p =>
          simp only [frz]
          split
          · trivial
          · next hs => have := keep (by rw [hq]; simpa [refers] using hs); rw [hq] at this; exact this
      | elt s' p i q =>
        simp only [frz]
        split
        · trivial
        · next hs => have := keep (by rw [hq]; simpa [refers] using hs); rw [hq] at this; exact this
      | sub s' p i q =>
        simp only [frz]
        split
        · trivial
        · next hs => have := keep (by rw [hq]; simpa [refers] using hs); rw [hq] at this; exact this
      | ref s' p =>
        simp only [frz]
        split
        · trivial
        · next hs => have := keep (by rw [hq]; simpa [refers] using hs); rw [hq] at this; exact this
      | un => trivial
      | mq s' =>
        have h1 : s' ≠ s := by
          rintro rfl
          rw [hq] at hslot
          obtain ⟨_, m, h1, _⟩ := hslot
          rw [hE] at h1
          cases h1
        have := keep (by rw [hq]; simpa [refers] using h1); rw [hq] at this; exact this
      | mp _ m => have := keep (by rw [hq]; simp [refers]); rw [hq] at this; exact this
      | wk x => have := keep (by rw [hq]; simp [refers]); rw [hq] at this; exact this
      | no => have := keep (by rw [hq]; simp [refers]); rw [hq] at this; exact this
      | d x => have := keep (by rw [hq]; simp [refers]); rw [hq] at this; exact this
      | box x => have := keep (by rw [hq]; simp [refers]); rw [hq] at this; exact this

end Go.Dat
