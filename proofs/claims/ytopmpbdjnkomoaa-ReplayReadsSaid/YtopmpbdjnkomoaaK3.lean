/- Frames when memory grows; what operands say; what a type's row says; the contract of a function. No conditions. -/
import Derived.Test.YtopmpbdjnkomoaaK2
namespace Go.Dat

variable [Tables]

variable {n : Nat} {ρ ρ' ρ'' : Nat → Tag} {w w' w'' : World} {tmps : Array Value} {E : Nat → Slot} {t : Nat} {u : Value} {s : Slot}

omit [Tables] in
theorem Grow.refl (h : ∀ b, ρ b ≠ .other → b < w.heap.size) : Grow ρ w ρ w := ⟨fun _ _ => rfl, fun _ _ => ⟨rfl, rfl⟩, h, rfl, rfl, rfl, Nat.le_refl _⟩

omit [Tables] in
theorem Grow.trans (h : Grow ρ w ρ' w') (k : Grow ρ' w' ρ'' w'') : Grow ρ w ρ'' w'' := by
  refine ⟨fun b hb => ?_, fun b hb => ?_, k.lt, k.os.trans h.os, k.tape.trans h.tape, k.output.trans h.output, Nat.le_trans h.size k.size⟩
  · have e := h.keep b hb
    rw [k.keep b (by rw [e]; exact hb), e]
  · obtain ⟨a1, a2⟩ := h.old b hb
    obtain ⟨b1, b2⟩ := k.old b (Nat.lt_of_lt_of_le hb h.size)
    exact ⟨b1.trans a1, b2.trans a2⟩

omit [Tables] in
theorem Grow.same (g : Grow ρ w ρ' w') (hlt : ∀ b, ρ b ≠ .other → b < w.heap.size) {b : Nat} (hb : ρ b ≠ .other) : ρ' b = ρ b ∧ w'.heap[b]? = w.heap[b]? :=
  g.old b (hlt b hb)

omit [Tables] in
theorem Grow.shd (g : Grow ρ w ρ' w') (hlt : ∀ b, ρ b ≠ .other → b < w.heap.size) : ∀ b, ρ b = .sh → ρ' b = .sh ∧ w'.heap[b]? = w.heap[b]? := by
  intro b hb
  obtain ⟨h1, h2⟩ := g.same hlt (b := b) (by simp [hb])
  exact ⟨by rw [h1, hb], h2⟩

omit [Tables] in
theorem RV1.mono {p p' : List Nat} {t t' : Nat} {x : D} (hs : ∀ b, ρ b = .sh → ρ' b = .sh ∧ w'.heap[b]? = w.heap[b]?)
    (ho : ∀ b r, ρ b = .sl t (p ++ r) → ρ' b = .sl t' (p' ++ r) ∧ w'.heap[b]? = w.heap[b]?) (h : RV1 ρ w t p x u) : RV1 ρ' w' t' p' x u :=
  let ⟨cs, h1, h2⟩ := h
  ⟨cs, RB.mono hs x ho h1, h2⟩

omit [Tables] in
theorem RVs.mono {t t' : Nat} (hs : ∀ b, ρ b = .sh → ρ' b = .sh ∧ w'.heap[b]? = w.heap[b]?)
    (ho : ∀ b r, ρ b = .sl t r → ρ' b = .sl t' r ∧ w'.heap[b]? = w.heap[b]?) : ∀ (ds : List D) {i us}, RVs ρ w t i ds us → RVs ρ' w' t' i ds us
  | [], _, _, h => h
  | _ :: ds, _, _, ⟨u, y, e, h1, h2⟩ => ⟨u, y, e, RV1.mono hs (fun b _ hb => ho b _ hb) h1, RVs.mono hs ho ds h2⟩

omit [Tables] in
theorem RV.mono {t t' : Nat} {x : D} (hs : ∀ b, ρ b = .sh → ρ' b = .sh ∧ w'.heap[b]? = w.heap[b]?)
    (ho : ∀ b r, ρ b = .sl t r → ρ' b = .sl t' r ∧ w'.heap[b]? = w.heap[b]?) (h : RV ρ w t x u) : RV ρ' w' t' x u := by
  cases x <;> simp only [RV] at h ⊢ <;> first
    | exact RV1.mono hs (fun b r hb => by simpa using ho b r (by simpa using hb)) h
    | (obtain ⟨us, e, h1⟩ := h; exact ⟨us, e, RVs.mono hs ho _ h1⟩)

theorem Inv.box (hI : Inv n ρ w tmps E) {s : Nat} {x : D} (h : E s = .box x) :
    ∃ b cs, tmps.getD s undef = .pointer (some ⟨b, 0, none⟩) ∧ ρ b = .bx s ∧ BoxAt w b cs ∧ RB ρ w s [] x cs := by
  have := hI.slot s
  rwa [h] at this

theorem OwnAt.same {s : Nat} {p : List Nat} {nl e es xs v} (hI : Inv n ρ w tmps E) (hb : ∀ b, ρ b = .bx s → w'.heap[b]? = w.heap[b]?)
    (h : OwnAt w tmps E s p nl e es xs v) : OwnAt w' tmps E s p nl e es xs v := by
  rcases h with h | ⟨x, b, h1, h2, h3, h4, h5⟩
  · exact .inl h
  · obtain ⟨b', cs, g1, g2, _⟩ := hI.box h1
    have : b' = b := by rw [h4] at g1; simpa using g1.symm
    subst this
    exact .inr ⟨x, b', h1, h2, h3, h4, by rw [World.cell?_of_block (w := w) (hb b' g2)]; exact h5⟩

theorem RS.grow (hI : Inv n ρ w tmps E) (g : Grow ρ w ρ' w') (h : RS ρ w tmps E t u s) : RS ρ' w' tmps E t u s := by
  have hs := g.shd hI.lt
  have ho : ∀ t b r, ρ b = .sl t r → ρ' b = .sl t r ∧ w'.heap[b]? = w.heap[b]? := fun t b r hb => by
    obtain ⟨h1, h2⟩ := g.same hI.lt (b := b) (by simp [hb])
    exact ⟨by rw [h1, hb], h2⟩
  have hbx : ∀ t b, ρ b = .bx t → ρ' b = .bx t ∧ w'.heap[b]? = w.heap[b]? := fun t b hb => by
    obtain ⟨h1, h2⟩ := g.same hI.lt (b := b) (by simp [hb])
    exact ⟨by rw [h1, hb], h2⟩
  cases s with
  | un => trivial
  | no => exact h
  | d x => exact RV.mono hs (ho t) h
  | box x =>
    obtain ⟨b, cs, h1, h2, ⟨e, h3⟩, h4⟩ := h
    exact ⟨b, cs, h1, (hbx t b h2).1, ⟨e, by rw [(hbx t b h2).2, h3]⟩, RB.mono hs x (fun b r hb => by simpa using ho t b r (by simpa using hb)) h4⟩
  | ref s p => exact h
  | view s p =>
    obtain ⟨nl, e, es, xs, h1⟩ := h
    exact ⟨nl, e, es, xs, h1.same hI fun b hb => (hbx s b hb).2⟩
  | elt s p i q =>
    obtain ⟨nl, e, es, xs, g, l, c, h1, h2⟩ := h
    exact ⟨nl, e, es, xs, g, l, c, h1.same hI fun b hb => (hbx s b hb).2, h2⟩
  | sub s p i j =>
    obtain ⟨nl, e, es, xs, g, l, c, h1, h2⟩ := h
    exact ⟨nl, e, es, xs, g, l, c, h1.same hI fun b hb => (hbx s b hb).2, h2⟩
  | wk x => exact WV.mono (fun b hb => (g.old b hb).2) g.size h

theorem Inv.grow (hI : Inv n ρ w tmps E) (g : Grow ρ w ρ' w') : Inv n ρ' w' tmps E :=
  ⟨hI.size, g.lt, hI.tab.mono (g.shd hI.lt), fun t => (hI.slot t).grow hI g⟩

def upd (E : Nat → Slot) (t : Nat) (s : Slot) : Nat → Slot := fun u => if t = u then s else E u

omit [Tables] in
theorem getD_put (tmps : Array Value) (t k : Nat) (v : Value) (ht : t < tmps.size) : (tmps.setIfInBounds t v).getD k undef = if t = k then v else tmps.getD k undef := by
  simp only [Array.getD_eq_getD_getElem?, Array.getElem?_setIfInBounds]
  split
  · next h => subst h; simp
  · rfl

omit [Tables] in
theorem OwnAt.put {s : Nat} {p : List Nat} {nl e es xs v v'} {s' : Slot} (ht : t < tmps.size) (hn : owner (E t) = false) (h : OwnAt w tmps E s p nl e es xs v) :
    OwnAt w (tmps.setIfInBounds t v') (upd E t s') s p nl e es xs v := by
  have hne : t ≠ s := by
    rintro rfl
    rcases h with ⟨h1, _⟩ | ⟨x, b, h1, _⟩ <;> simp [h1, owner] at hn
  rcases h with ⟨h1, h2, h3⟩ | ⟨x, b, h1, h2, h3, h4, h5⟩
  · exact .inl ⟨by simp [upd, hne, h1], h2, by rw [getD_put _ _ _ _ ht, if_neg hne, h3]⟩
  · exact .inr ⟨x, b, by simp [upd, hne, h1], h2, h3, by rw [getD_put _ _ _ _ ht, if_neg hne, h4], h5⟩

omit [Tables] in
theorem RS.put {k : Nat} {v' : Value} {s' : Slot} (ht : t < tmps.size) (hn : owner (E t) = false) (h : RS ρ w tmps E k u s) :
    RS ρ w (tmps.setIfInBounds t v') (upd E t s') k u s := by
  cases s with
  | un => trivial
  | no => exact h
  | d x => exact h
  | box x => exact h
  | ref s p =>
    obtain ⟨x, b, h1, h2, h3, h4⟩ := h
    have hne : t ≠ s := by rintro rfl; simp [h1, owner] at hn
    exact ⟨x, b, by simp [upd, hne, h1], h2, by rw [getD_put _ _ _ _ ht, if_neg hne, h3], h4⟩
  | view s p =>
    obtain ⟨nl, e, es, xs, h1⟩ := h
    exact ⟨nl, e, es, xs, h1.put ht hn⟩
  | elt s p i q =>
    obtain ⟨nl, e, es, xs, g, l, c, h1, h2⟩ := h
    exact ⟨nl, e, es, xs, g, l, c, h1.put ht hn, h2⟩
  | sub s p i j =>
    obtain ⟨nl, e, es, xs, g, l, c, h1, h2⟩ := h
    exact ⟨nl, e, es, xs, g, l, c, h1.put ht hn, h2⟩
  | wk x => exact h

theorem Inv.put {v : Value} {s : Slot} (hI : Inv n ρ w tmps E) (ht : t < n) (hn : owner (E t) = false) (h : RS ρ w tmps E t v s) :
    Inv n ρ w (tmps.setIfInBounds t v) (upd E t s) := by
  have ht' : t < tmps.size := by rw [hI.size]; exact ht
  refine ⟨by simp [hI.size], hI.lt, hI.tab, fun k => ?_⟩
  rw [getD_put _ _ _ _ ht']
  by_cases e : t = k
  · subst e
    simp only [if_true, upd]
    exact h.put ht' hn
  · simp only [e, if_false, upd]
    exact (hI.slot k).put ht' hn

/-! ### Operands -/

def D.pl : D → Bool
  | .tup _ => false
  | d => d.noOwn

def RD (S : Nat → Prop) (w : World) (x : D) (u : Value) : Prop := ∃ cs, Rp S w x cs ∧ VC x u cs

omit [Tables] in
theorem RV.plain {x : D} (h : x.pl = true) : RV ρ w t x u ↔ RD (sh ρ) w x u := by
  cases x <;> simp only [RV, RV1, RD, D.pl] at h ⊢ <;> first
    | simp only [RB.plain _ h]
    | simp at h

omit [Tables] in
theorem RD.mono {S S' : Nat → Prop} {x : D} (h : ∀ b, S b → S' b ∧ w'.heap[b]? = w.heap[b]?) (hx : RD S w x u) : RD S' w' x u :=
  let ⟨cs, h1, h2⟩ := hx
  ⟨cs, Rp.mono h x h1, h2⟩

omit [Tables] in
theorem RD.rv {x : D} (h : RD (sh ρ) w x u) : RV ρ w t x u := by
  obtain ⟨cs, h1, h2⟩ := h
  have hp := RB.ofRp (t := t) (p := []) h1
  cases x <;> first
    | exact ⟨cs, hp, h2⟩
    | simp only [Rp] at h1

omit [Tables] in
theorem RD.cells {S : Nat → Prop} {x : D} (h : RD S w x u) : Rp S w x u.cells.toList := by
  obtain ⟨cs, h1, h2⟩ := h
  cases x with
  | st ds => simp only [VC] at h2; subst h2; simpa [Value.cells] using h1
  | arr es ds => simp only [VC] at h2; subst h2; simpa [Value.cells] using h1
  | v x =>
    simp only [VC] at h2; subst h2
    have ho := Rp.one _ h1 u (by simp)
    cases u <;> first | (simpa [Value.cells] using h1) | simp [Value.oneCell'] at ho
  | lst k es xs =>
    simp only [VC] at h2; subst h2
    have ho := Rp.one _ h1 u (by simp)
    cases u <;> first | (simpa [Value.cells] using h1) | simp [Value.oneCell'] at ho
  | fn f a b =>
    simp only [VC] at h2; subst h2
    have ho := Rp.one _ h1 u (by simp)
    cases u <;> first | (simpa [Value.cells] using h1) | simp [Value.oneCell'] at ho
  | pt d =>
    simp only [VC] at h2; subst h2
    have ho := Rp.one _ h1 u (by simp)
    cases u <;> first | (simpa [Value.cells] using h1) | simp [Value.oneCell'] at ho
  | dead q =>
    simp only [VC] at h2; subst h2
    have ho := Rp.one _ h1 u (by simp)
    cases u <;> first | (simpa [Value.cells] using h1) | simp [Value.oneCell'] at ho
  | own _ _ _ _ => simp only [Rp] at h1
  | tup _ => simp only [Rp] at h1

omit [Tables] in
theorem RD.v {S : Nat → Prop} {x : Value} (h : RD S w (.v x) u) : u = x := by
  obtain ⟨cs, h1, h2⟩ := h
  simp only [Rp, VC] at h1 h2
  rw [h1.1] at h2
  simpa using h2.symm

omit [Tables] in
theorem RD.ofV {S : Nat → Prop} (h : u.oneCell' = true) : RD S w (.v u) u := ⟨[u], by simp [Rp, h], rfl⟩

/-- A constant's datum. -/
def D.flat : D → List Value
  | .v x => [x]
  | .st ds => flats ds
  | .arr _ ds => flats ds
  | .lst .nl _ _ => [.slice none 0 0]
  | _ => []
where
  flats : List D → List Value
    | [] => []
    | d :: ds => d.flat ++ flats ds
def D.konst : D → Bool
  | .v x => x.oneCell'
  | .st ds => konsts ds
  | .arr es ds => rows es ds
  | .lst .nl _ [] => true
  | _ => false
where
  konsts : List D → Bool
    | [] => true
    | d :: ds => d.konst && konsts ds
  rows (es : Nat) : List D → Bool
    | [] => true
    | d :: ds => d.konst && d.size == es && rows es ds

omit [Tables] in
mutual
theorem Rp.konst {S : Nat → Prop} : ∀ (d : D), d.konst = true → Rp S w d d.flat
  | .v x, h => by simp only [Rp, D.flat, true_and]; simpa [D.konst] using h
  | .st ds, h => by simp only [Rp, D.flat]; exact Rps.konst ds (by simpa [D.konst] using h)
  | .arr es ds, h => by simp only [Rp, D.flat]; exact Rpa.konst es ds (by simpa [D.konst] using h)
  | .lst .nl _ [], _ => by simp only [Rp, D.flat]; exact ⟨none, 0, 0, rfl, by simp [Hdr], fun ad h => by simp at h⟩
  | .lst .nl _ (_ :: _), h => by simp [D.konst] at h
  | .lst .opn _ _, h => by simp [D.konst] at h
  | .lst .clip _ _, h => by simp [D.konst] at h
  | .lst .any _ _, h => by simp [D.konst] at h
  | .own _ _ _ _, h => by simp [D.konst] at h
  | .fn _ _ _, h => by simp [D.konst] at h
  | .pt _, h => by simp [D.konst] at h
  | .dead _, h => by simp [D.konst] at h
  | .tup _, h => by simp [D.konst] at h
theorem Rps.konst {S : Nat → Prop} : ∀ (ds : List D), D.konst.konsts ds = true → Rps S w ds (D.flat.flats ds)
  | [], _ => by simp [Rps, D.flat.flats]
  | d :: ds, h => by
    simp only [D.konst.konsts, Bool.and_eq_true] at h
    simp only [Rps, D.flat.flats]
    exact ⟨_, _, rfl, Rp.konst d h.1, Rps.konst ds h.2⟩
theorem Rpa.konst {S : Nat → Prop} (es : Nat) : ∀ (ds : List D), D.konst.rows es ds = true → Rpa S w es ds (D.flat.flats ds)
  | [], _ => by simp [Rpa, D.flat.flats]
  | d :: ds, h => by
    simp only [D.konst.rows, Bool.and_eq_true, beq_iff_eq] at h
    simp only [Rpa, D.flat.flats]
    have h1 : Rp S w d d.flat := Rp.konst d h.1.1
    exact ⟨_, _, rfl, by rw [Rp.len d h1, h.1.2], h1, Rpa.konst es ds h.2⟩
end

/-- What an operand reads as, shared. -/
inductive OpD (E : Nat → Slot) : Operand → D → Prop
  | tmp {t x} : E t = .d x → x.pl = true → OpD E (.tmp t) x
  | const {v} : v.oneCell' = true → OpD E (.const v) (.v v)
  | nil {es} : OpD E (.const (.slice none 0 0)) (.lst .nl es [])
  | agg {cs : Array Value} {x : D} : (∀ y, VC x y cs.toList → y = .agg cs) → VC x (.agg cs) cs.toList → x.konst = true → x.flat = cs.toList → OpD E (.const (.agg cs)) x
  | func {f} : OpD E (.func f) (.fn (.func f) [] [])

theorem OpD.sound {a : Act} {o : Operand} {x : D} (hI : Inv n ρ w a.tmps E) (h : OpD E o x) : RD (sh ρ) w x (a.eval o) := by
  cases h with
  | tmp h1 h2 =>
    rename_i t
    have := hI.slot t
    rw [h1] at this
    exact (RV.plain h2).1 this
  | const h => exact RD.ofV h
  | nil => exact ⟨[.slice none 0 0], by simp only [Rp]; exact ⟨none, 0, 0, rfl, by simp [Hdr], fun ad h => by simp at h⟩, rfl⟩
  | agg h0 h1 h2 h3 => exact ⟨_, h3 ▸ Rp.konst x h2, h1⟩
  | func => exact ⟨[_], by simp only [Rp, Rpv]; exact ⟨[], [], rfl, rfl, rfl⟩, rfl⟩

def operand : Operand → List Nat
  | .tmp t => [t]
  | _ => []

omit [Tables] in
theorem OpD.stable {E' : Nat → Slot} {o : Operand} {x : D} (h : OpD E o x) (hE : ∀ t ∈ operand o, E' t = E t) : OpD E' o x := by
  cases h with
  | tmp h1 h2 => exact .tmp (by rw [hE _ (by simp [operand]), h1]) h2
  | const h => exact .const h
  | nil => exact .nil
  | agg h0 h1 h2 h3 => exact .agg h0 h1 h2 h3
  | func => exact .func

/-- The contract of a function: called with such data it returns this one; nothing that was there is changed. -/
def tagS (S : Nat → Prop) [DecidablePred S] (b : Nat) : Tag := if S b then .sh else .other

open Classical in
noncomputable def DFun (P : Program) (f : FuncId) (args : List D) (r : D) : Prop :=
  ∀ (S : Nat → Prop) (w : World) (vals : List Value), (∀ b, S b → b < w.heap.size) → TabS S w → Rpv S w args vals →
    Calls P f vals.toArray w fun e w' => ∃ v ρ', e = .returned v ∧ Grow (tagS S) w ρ' w' ∧ RV ρ' w' 0 r v

end Go.Dat
