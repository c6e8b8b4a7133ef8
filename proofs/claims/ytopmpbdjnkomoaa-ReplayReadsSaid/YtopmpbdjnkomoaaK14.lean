/- Regions: in the text's order, and in whatever order the edges allow. No conditions. -/
import Derived.Test.YtopmpbdjnkomoaaK13
namespace Go.Dat

variable [Tables]

variable {P : Program} {Θ : TypeId → TI} {n : Nat} {ρ ρ' ρ'' : Nat → Tag} {w w' w'' : World} {tmps tmps' : Array Value} {E E' E'' : Nat → Slot} {t : Nat} {u : Value}

def opTmps (o : Oper) : List Nat := o.op.operands.toList.flatMap operand

/-- E' holds what an operation looks at in E. -/
def Looks (o : Oper) (E E' : Nat → Slot) : Prop := ∀ k ∈ opTmps o, E' k = E k ∧ ∀ s, refers (E k) = some s → E' s = E s

omit [Tables] in
theorem Adr.stable {k s p x} (h : Adr E k s p x) (h1 : E' k = E k ∧ ∀ s, refers (E k) = some s → E' s = E s) : Adr E' k s p x := by
  obtain ⟨g1, g2⟩ := h
  rcases g2 with g2 | ⟨rfl, rfl⟩
  · exact ⟨by rw [h1.2 s (by rw [g2]; rfl), g1], .inl (by rw [h1.1, g2])⟩
  · exact ⟨by rw [h1.1, g1], .inr ⟨rfl, rfl⟩⟩

omit [Tables] in
theorem Vw.stable {k s p nl e es xs} (h : Vw E k s p nl e es xs) (h1 : E' k = E k ∧ ∀ s, refers (E k) = some s → E' s = E s) : Vw E' k s p nl e es xs := by
  rcases h with ⟨g1, g2⟩ | ⟨g1, rfl, rfl⟩
  · have := h1.2 s (by rw [g1]; rfl)
    exact .inl ⟨by rw [h1.1, g1], by rw [this]; exact g2⟩
  · exact .inr ⟨by rw [h1.1, g1], rfl, rfl⟩

omit [Tables] in
theorem Elt.stable {k s p i q nl e es xs} (h : Elt E k s p i q nl e es xs) (h1 : E' k = E k ∧ ∀ s, refers (E k) = some s → E' s = E s) : Elt E' k s p i q nl e es xs := by
  obtain ⟨g1, g2⟩ := h
  have := h1.2 s (by rw [g1]; rfl)
  exact ⟨by rw [h1.1, g1], by rw [this]; exact g2⟩

omit [Tables] in
theorem Src.stable {x es ys} (h : Src E x es ys) (h1 : ∀ k ∈ operand x, E' k = E k ∧ ∀ s, refers (E k) = some s → E' s = E s) : Src E' x es ys := by
  cases h with
  | lst h => exact .lst (h.stable fun k hk => (h1 k hk).1)
  | vw h => exact .vw (h.stable (h1 _ (by simp [operand])))
  | @sub k s i j nl e es xs h g => have := h1 k (by simp [operand]); exact .sub (by rw [this.1]; exact h) (by rw [this.2 s (by rw [h]; rfl)]; exact g)

omit [Tables] in
theorem BArgs.stable {os : List Operand} {xs : List D} (h : BArgs E os xs) (h1 : ∀ k ∈ os.flatMap operand, E' k = E k ∧ ∀ s, refers (E k) = some s → E' s = E s) : BArgs E' os xs := by
  induction h with
  | nil => exact .nil
  | plain h2 _ ih =>
    simp only [List.flatMap_cons, List.mem_append] at h1
    exact .plain (h2.stable fun t ht => (h1 t (.inl ht)).1) (ih fun t ht => h1 t (.inr ht))
  | own h2 h3 _ ih =>
    simp only [List.flatMap_cons, List.mem_append] at h1
    exact .own (h2.stable (h1 _ (.inl (by simp [operand])))) h3 (ih fun t ht => h1 t (.inr ht))

omit [Tables] in
theorem Bnd.stable {x d i} (h : Bnd E x d i) (h1 : ∀ y, x = some y → ∀ k ∈ operand y, E' k = E k) : Bnd E' x d i := by
  cases h with
  | no => exact .no
  | «at» h h0 => exact .at (h.stable (h1 _ rfl)) h0

omit [Tables] in
theorem WOp.stable {o : Operand} {x : D} (h : WOp E o x) (h1 : ∀ k ∈ operand o, E' k = E k ∧ ∀ s, refers (E k) = some s → E' s = E s) : WOp E' o x := by
  cases h with
  | pl h => exact .pl (h.stable fun k hk => (h1 k hk).1)
  | wk h hx => exact .wk (by rw [(h1 _ (by simp [operand])).1]; exact h) hx
  | adr h => exact .adr (h.stable (h1 _ (by simp [operand])))
  | vw h => exact .vw (h.stable (h1 _ (by simp [operand])))
  | elt h => exact .elt (h.stable (h1 _ (by simp [operand])))

omit [Tables] in
theorem WOps.stable {os : List Operand} {xs : List D} (h : WOps E os xs) (h1 : ∀ k ∈ os.flatMap operand, E' k = E k ∧ ∀ s, refers (E k) = some s → E' s = E s) : WOps E' os xs := by
  induction h with
  | nil => exact .nil
  | cons h2 _ ih =>
    simp only [List.flatMap_cons, List.mem_append] at h1
    exact .cons (h2.stable fun t ht => h1 t (.inl ht)) (ih fun t ht => h1 t (.inr ht))

theorem Ev.stable {o : Oper} {s : Slot} (h : Ev P Θ E o s) (hl : Looks o E E') : Ev P Θ E' o s := by
  have hl' := hl
  have one : ∀ {x : Operand} {d : D}, OpD E x d → x ∈ o.op.operands.toList → OpD E' x d := fun h hx =>
    h.stable fun k hk => (hl k (List.mem_flatMap.2 ⟨_, hx, hk⟩)).1
  have many : ∀ {xs : List Operand} {ds : List D}, OpDs E xs ds → (∀ x ∈ xs, x ∈ o.op.operands.toList) → OpDs E' xs ds := fun h hx =>
    h.stable fun k hk => by
      obtain ⟨x, h1, h2⟩ := List.mem_flatMap.1 hk
      exact (hl k (List.mem_flatMap.2 ⟨x, hx x h1, h2⟩)).1
  have at' : ∀ {k : Nat}, Operand.tmp k ∈ o.op.operands.toList → E' k = E k ∧ ∀ s, refers (E k) = some s → E' s = E s := fun hk => hl _ (List.mem_flatMap.2 ⟨_, hk, by simp [operand]⟩)
  cases h with
  | mv ho hx => exact .mv ho (one hx (by rcases ho with ho | ho <;> simp [ho, Op.operands]))
  | mvBox ho hs => exact .mvBox ho (by rw [(at' (by simp [ho, Op.operands])).1]; exact hs)
  | mvOwn ho hs => exact .mvOwn ho (by rw [(at' (by simp [ho, Op.operands])).1]; exact hs)
  | mvSame ho hs hsame => exact .mvSame ho (by rw [(at' (by rcases ho with ho | ho | ho <;> simp [ho, Op.operands])).1]; exact hs) hsame
  | mvTup ho hs hn => exact .mvTup ho (by rw [(at' (by simp [ho, Op.operands])).1]; exact hs) hn
  | pickT ho hc hx => exact .pickT ho (one hc (by simp [ho, Op.operands])) (one hx (by simp [ho, Op.operands]))
  | pickF ho hc hx => exact .pickF ho (one hc (by simp [ho, Op.operands])) (one hx (by simp [ho, Op.operands]))
  | alloc ho hk => exact .alloc ho hk
  | box ho hx => exact .box ho (one hx (by simp [ho, Op.operands]))
  | ldBox ho hk hf hp => exact .ldBox ho (hk.stable (at' (by simp [ho, Op.operands]))) hf hp
  | ldView ho hk hx hf => exact .ldView ho (hk.stable (at' (by simp [ho, Op.operands]))) hx hf
  | ldElt ho hk hf => exact .ldElt ho (hk.stable (at' (by simp [ho, Op.operands]))) hf
  | ldPt ho hk hf => exact .ldPt ho (by rw [(at' (by simp [ho, Op.operands])).1]; exact hk) hf
  | faBox ho hk hx hf ht hfs => exact .faBox ho (hk.stable (at' (by simp [ho, Op.operands]))) hx hf ht hfs
  | faElt ho hk hx hf ht hfs => exact .faElt ho (hk.stable (at' (by simp [ho, Op.operands]))) hx hf ht hfs
  | faPt ho hk hf ht hfs => exact .faPt ho (by rw [(at' (by simp [ho, Op.operands])).1]; exact hk) hf ht hfs
  | iaBox ho hk hx hix h0 hi ht => exact .iaBox ho (hk.stable (at' (by simp [ho, Op.operands]))) hx (one hix (by simp [ho, Op.operands])) h0 hi ht
  | iaPt ho hk hix h0 hi ht => exact .iaPt ho (by rw [(at' (by simp [ho, Op.operands])).1]; exact hk) (one hix (by simp [ho, Op.operands])) h0 hi ht
  | iaLst ho hx hix h0 hi ht => exact .iaLst ho (one hx (by simp [ho, Op.operands])) (one hix (by simp [ho, Op.operands])) h0 hi ht
  | iaView ho hk hix h0 hi ht => exact .iaView ho (hk.stable (at' (by simp [ho, Op.operands]))) (one hix (by simp [ho, Op.operands])) h0 hi ht
  | buildSlice ho hx hi ht hs hb => exact .buildSlice ho (many hx (by simp [ho, Op.operands])) hi ht hs hb
  | buildShared ho hx hi ht hs hb => exact .buildShared ho (many hx (by simp [ho, Op.operands])) hi ht hs hb
  | build ho hx ht hz hp => exact .build ho (many hx (by simp [ho, Op.operands])) ht hz hp
  | bin ho hx hy hb => exact .bin ho (one hx (by simp [ho, Op.operands])) (one hy (by simp [ho, Op.operands])) hb
  | uno ho hx hb => exact .uno ho (one hx (by simp [ho, Op.operands])) hb
  | cv ho hx hb => exact .cv ho (one hx (by simp [ho, Op.operands])) hb
  | mf ho hf hc => exact .mf ho (many hf (fun x hx => by simp [ho, Op.operands]; exact .inl (by simpa using hx))) (many hc (fun x hx => by simp [ho, Op.operands]; exact .inr (by simpa using hx)))
  | ext ho hk hi hp => exact .ext ho (by rw [(at' (by simp [ho, Op.operands])).1]; exact hk) hi hp
  | lenView ho hk ht => exact .lenView ho (hk.stable (at' (by simp [ho, Op.operands, Call.operands]))) ht
  | subView ho hk ht hl hh h1 h2 =>
    refine .subView ho (hk.stable (at' (by simp [ho, Op.operands]))) ht (hl.stable fun x hx => ?_) (hh.stable fun x hx => ?_) h1 h2
    · exact fun k hk => (hl' k (List.mem_flatMap.2 ⟨x, by simp [ho, Op.operands, hx], hk⟩)).1
    · exact fun k hk => (hl' k (List.mem_flatMap.2 ⟨x, by simp [ho, Op.operands, hx], hk⟩)).1
  | lenSub ho hk ht => exact .lenSub ho (by rw [(at' (by simp [ho, Op.operands, Call.operands])).1]; exact hk) ht
  | @iaSub T k ix s p i j nl e es xs ik m e' b ho hk hs hp hix h0 hi ht =>
    have := at' (k := k) (by simp [ho, Op.operands])
    exact .iaSub ho (by rw [this.1]; exact hk) (by rw [this.2 s (by rw [hk]; rfl)]; exact hs) hp (one hix (by simp [ho, Op.operands])) h0 hi ht
  | mk ho hl hc ht hk hz h0 hb hm => exact .mk ho (one hl (by simp [ho, Op.operands])) (one hc (by simp [ho, Op.operands])) ht hk hz h0 hb hm
  | plain hx hz => exact .plain (fun x hx' => ⟨one (hx x hx').1 (hx x hx').2, (hx x hx').2⟩) hz
  | appNil ho hs hx ht hb hm =>
    exact .appNil ho (one hs (by simp [ho, Op.operands, Call.operands])) (hx.stable fun k hk => hl k (List.mem_flatMap.2 ⟨_, by simp [ho, Op.operands, Call.operands], hk⟩)) ht hb hm
  | callB ho hf ha hc hd hr =>
    exact .callB ho (one hf (by simp [ho, Op.operands, Call.operands])) (ha.stable fun k hk => by
      obtain ⟨x, h1, h2⟩ := List.mem_flatMap.1 hk
      exact hl k (List.mem_flatMap.2 ⟨x, by simp [ho, Op.operands, Call.operands]; exact .inr (by simpa using h1), h2⟩)) hc hd hr
  | call ho hf ha hc hd =>
    exact .call ho (one hf (by simp [ho, Op.operands, Call.operands])) (many ha (fun x hx => by simp [ho, Op.operands, Call.operands]; exact .inr (by simpa using hx))) hc hd
  | wmv ho hk => exact .wmv ho (by rw [(at' (by rcases ho with ho | ho <;> simp [ho, Op.operands])).1]; exact hk)
  | wplain hx hz => exact .wplain (fun x hx' => ⟨(hx x hx').1.stable fun k hk => hl' k (List.mem_flatMap.2 ⟨_, (hx x hx').2, hk⟩), (hx x hx').2⟩) hz
  | wplainF hx hz hf => exact .wplainF (fun x hx' => ⟨(hx x hx').1.stable fun k hk => hl' k (List.mem_flatMap.2 ⟨_, (hx x hx').2, hk⟩), (hx x hx').2⟩) hz hf
  | wmf ho hf hc =>
    exact .wmf ho (hf.stable fun k hk => by
      obtain ⟨x, h1, h2⟩ := List.mem_flatMap.1 hk
      exact hl' k (List.mem_flatMap.2 ⟨x, by simp [ho, Op.operands]; exact .inl (by simpa using h1), h2⟩)) (hc.stable fun k hk => by
      obtain ⟨x, h1, h2⟩ := List.mem_flatMap.1 hk
      exact hl' k (List.mem_flatMap.2 ⟨x, by simp [ho, Op.operands]; exact .inr (by simpa using h1), h2⟩))
  | wext ho hk hi => exact .wext ho (by rw [(at' (by simp [ho, Op.operands])).1]; exact hk) hi
  | wextF ho hk hi hf => exact .wextF ho (by rw [(at' (by simp [ho, Op.operands])).1]; exact hk) hi hf
  | wcall ho hf ha hc hd hr =>
    exact .wcall ho (hf.stable fun k hk => hl' k (List.mem_flatMap.2 ⟨_, by simp [ho, Op.operands, Call.operands], hk⟩)) (ha.stable fun k hk => by
      obtain ⟨x, h1, h2⟩ := List.mem_flatMap.1 hk
      exact hl' k (List.mem_flatMap.2 ⟨x, by simp [ho, Op.operands, Call.operands]; exact .inr (by simpa using h1), h2⟩)) hc hd hr
  | wcallW ho hf ha hc hd hr =>
    exact .wcallW ho (hf.stable fun k hk => hl' k (List.mem_flatMap.2 ⟨_, by simp [ho, Op.operands, Call.operands], hk⟩)) (ha.stable fun k hk => by
      obtain ⟨x, h1, h2⟩ := List.mem_flatMap.1 hk
      exact hl' k (List.mem_flatMap.2 ⟨x, by simp [ho, Op.operands, Call.operands]; exact .inr (by simpa using h1), h2⟩)) hc hd hr

/-- What is referred to is an owner. -/
def WF (E : Nat → Slot) : Prop := ∀ u s, refers (E u) = some s → owner (E s) = true

theorem Inv.wf (hI : Inv n ρ w tmps E) : WF E := fun _ _ h => hI.refOwner h

omit [Tables] in
theorem Adr.own {k s p x} (h : Adr E k s p x) : owner (E s) = true := by rw [h.1]; rfl

theorem Ev.wf {o : Oper} {s : Slot} (h : Ev P Θ E o s) (hw : WF E) {s' : Nat} (hr : refers s = some s') : owner (E s') = true := by
  cases h with
  | mvBox ho hs => simp only [refers, Option.some.injEq] at hr; subst hr; rw [hs]; rfl
  | mvOwn ho hs => simp only [refers, Option.some.injEq] at hr; subst hr; rw [hs]; rfl
  | @mvSame k _ ho hs hsame => exact hw k s' (by rw [hs]; exact hr)
  | ldView ho hk => simp only [refers, Option.some.injEq] at hr; subst hr; exact hk.own
  | faBox ho hk => simp only [refers, Option.some.injEq] at hr; subst hr; exact hk.own
  | @faElt T k f s p i q nl e es xs ds fs Tf ho hk => simp only [refers, Option.some.injEq] at hr; subst hr; exact hw k s (by rw [hk.1]; rfl)
  | iaBox ho hk => simp only [refers, Option.some.injEq] at hr; subst hr; exact hk.own
  | subView ho hk =>
    simp only [refers, Option.some.injEq] at hr
    subst hr
    rcases hk with ⟨h1, h2 | ⟨x, h2, _⟩⟩ | ⟨h1, rfl, rfl⟩
    · rw [h2]; rfl
    · rw [h2]; rfl
    · rw [h1]; rfl
  | iaSub ho hk hs => simp only [refers, Option.some.injEq] at hr; subst hr; rw [hs]; rfl
  | iaView ho hk =>
    simp only [refers, Option.some.injEq] at hr
    subst hr
    rcases hk with ⟨h1, h2 | ⟨x, h2, _⟩⟩ | ⟨h1, rfl, rfl⟩
    · rw [h2]; rfl
    · rw [h2]; rfl
    · rw [h1]; rfl
  | _ => simp [refers] at hr

/-! ### Chains of steps -/

/-- Whether an operation is carried out, as far as the frame tells. -/
def Wants (ops : Array Oper) (E : Nat → Slot) (o : Oper) (b : Bool) : Prop :=
  match o.guard with
  | none => b = true
  | some (j, want) => ∃ oj d, ops[j]? = some oj ∧ oj.dst = some d ∧ ((∃ c, E d = .d (.v (.bool c)) ∧ b = (c == want)) ∨ (E d = .no ∧ b = false))

theorem Wants.sound {ops : Array Oper} {o : Oper} {b : Bool} {a : Act} (hI : Inv n ρ w a.tmps E) (h : Wants ops E o b) : Region.wanted o (yielded ops a.tmps) = b := by
  unfold Wants at h
  unfold Region.wanted
  cases hg : o.guard with
  | none => rw [hg] at h; exact h.symm
  | some g =>
    obtain ⟨j, want⟩ := g
    rw [hg] at h
    obtain ⟨oj, d, h1, h2, h3⟩ := h
    simp only
    rcases h3 with ⟨c, h3, h4⟩ | ⟨h3, h4⟩
    · have h5 := hI.slot d
      rw [h3] at h5
      have h6 := ((RV.plain (x := .v (.bool c)) rfl).1 h5).v
      have hd : d < a.tmps.size := by
        refine Classical.byContradiction fun hn => ?_
        simp only [Array.getD_eq_getD_getElem?, Array.getElem?_eq_none (Nat.le_of_not_lt hn), Option.getD_none, undef] at h6
        cases h6
      have hget : a.tmps[d]? = some (.bool c) := by
        rw [← h6]
        simp [hd]
      simp only [yielded, h1, h2, Option.bind_some, hget, h4]
      cases c <;> cases want <;> rfl
    · have h5 := hI.slot d
      rw [h3] at h5
      have h6 : a.tmps.getD d undef = undef := h5
      have hy : yielded ops a.tmps j = none := by
        simp only [yielded, h1, h2, Option.bind_some]
        by_cases hd : d < a.tmps.size
        · have hget : a.tmps[d]? = some undef := by
            rw [← h6]
            simp [hd]
          rw [hget]
          rfl
        · rw [Array.getElem?_eq_none (Nat.le_of_not_lt hd)]
      rw [hy, h4]
      rfl

inductive Step1 (P : Program) (Θ : TypeId → TI) (n : Nat) (ops : Array Oper) (E : Nat → Slot) (o : Oper) : Bool → (Nat → Slot) → Prop
  | go {E1} : Wants ops E o true → OpStep P Θ n E o E1 → Step1 P Θ n ops E o true E1
  | quiet {d s} : Wants ops E o true → o.dst = some d → d < n → owner (E d) = false → Ev P Θ E o s → Step1 P Θ n ops E o false (upd E d s)
  | skip {d} : Wants ops E o false → o.dst = some d → d < n → owner (E d) = false → Step1 P Θ n ops E o false (upd E d .no)

/-- A scalar is moved. -/
def ScMove (E : Nat → Slot) (o : Oper) (E1 : Nat → Slot) : Prop := ∃ d k c, o.dst = some d ∧ o.op = .move (.tmp k) ∧ o.guard = none ∧ E k = .d (.v c) ∧ k ≠ d ∧ c.oneCell' = true ∧ E1 = upd E d (.d (.v c))

/-- Steps, one behind the other; loud: those that do more than yield. -/
inductive Chain (P : Program) (Θ : TypeId → TI) (n : Nat) (ops : Array Oper) (loud : List Nat) : List Nat → (Nat → Slot) → (Nat → Slot) → Prop
  | nil {E0} : Chain P Θ n ops loud [] E0 E0
  | cons {i is o b E0 E1 E2} : ops[i]? = some o → (b = true → i ∈ loud) → (ops.size + i ∈ loud → ScMove E0 o E1) → Step1 P Θ n ops E0 o b E1 → Chain P Θ n ops loud is E1 E2 → Chain P Θ n ops loud (i :: is) E0 E2

end Go.Dat
