/- A region's chain of steps serves every order that its edges allow. No conditions. -/
import Derived.Test.YtopmpbdjnkomoaaK14
namespace Go.Dat

variable [Tables]

variable {P : Program} {Θ : TypeId → TI} {n : Nat} {ρ ρ' ρ'' : Nat → Tag} {w w' w'' : World} {tmps tmps' : Array Value} {E E' E1 E2 : Nat → Slot} {t : Nat} {u : Value}
variable {ops : Array Oper} {loud : List Nat} {Q : Exit → Act → World → Prop}

theorem After.trans {a a' a'' : Act} (h : a'.defers = a.defers ∧ Fr ρ w ρ' w') (k : After n ρ' w' a' E' a'' w'') : After n ρ w a E' a'' w'' := by
  obtain ⟨k1, ρ2, k2, k3⟩ := k
  exact ⟨k1.trans h.1, ρ2, h.2.trans k2, k3⟩

theorem Step1.wp {o : Oper} {b : Bool} {i : Nat} {a : Act} {K : Act → World → Prop} (hΘ : Agree P Θ) (hI : Inv n ρ w a.tmps E) (h : Step1 P Θ n ops E o b E') (hi : ops[i]? = some o)
    (hK : ∀ a' w', After n ρ w a E' a' w' → K a' w') : wpOp P ops Q i K a w := by
  unfold wpOp
  rw [hi]
  cases h with
  | go hw h =>
    simp only [hw.sound hI, if_true]
    exact .inl (Oper.wp_mono hK (OpStep.sound hΘ hI h))
  | quiet hw hd hn ho h =>
    simp only [hw.sound hI, if_true]
    exact .inl (Oper.wp_mono hK (step_ev hΘ hI hd hn ho h))
  | @skip d hw hd hn ho =>
    simp only [hw.sound hI, Bool.false_eq_true, if_false]
    refine hK _ _ ?_
    rw [put_some hd]
    exact ⟨rfl, ρ, Fr.refl _ _, hI.put hn ho rfl⟩

theorem Chain.wpOps {l : List Nat} (hΘ : Agree P Θ) (h : Chain P Θ n ops loud l E E') : ∀ {ρ : Nat → Tag} {w : World} {a : Act}, Inv n ρ w a.tmps E → (∀ a' w', After n ρ w a E' a' w' → Q .normal a' w') → wpOps P ops Q l a w := by
  induction h with
  | nil => exact fun hI hQ => hQ _ _ ⟨rfl, _, Fr.refl _ _, hI⟩
  | cons h1 _ _ h3 _ ih =>
    intro ρ w a hI hQ
    rw [wpOps_cons]
    refine h3.wp hΘ hI h1 fun a' w' ⟨k1, ρ', k2, k3⟩ => ih k3 fun a2 w2 h => hQ a2 w2 (After.trans ⟨k1, k2⟩ h)

def gTmps (ops : Array Oper) (o : Oper) : List Nat :=
  match o.guard with
  | none => []
  | some (j, _) => ((ops[j]?).bind (·.dst)).toList

def namesOf (ops : Array Oper) (o : Oper) : List Nat := opTmps o ++ gTmps ops o

def apartB (ops : Array Oper) (x y : Oper) : Bool :=
  match x.dst, y.dst with
  | some d, some e => d != e && !(namesOf ops y).contains d && !(namesOf ops x).contains e
  | _, _ => false

omit [Tables] in
theorem upd_ne {d k : Nat} {s : Slot} (h : d ≠ k) : upd E d s k = E k := by simp [upd, h]

omit [Tables] in
theorem upd_comm {d e : Nat} {s s' : Slot} (h : d ≠ e) : upd (upd E d s) e s' = upd (upd E e s') d s := by
  funext k
  simp only [upd]
  by_cases h1 : e = k
  · subst h1; simp [h]
  · simp [h1]

omit [Tables] in
theorem Wants.stable {o : Oper} {b : Bool} (h : Wants ops E o b) (hE : ∀ k ∈ gTmps ops o, E' k = E k) : Wants ops E' o b := by
  unfold Wants at h ⊢
  unfold gTmps at hE
  cases hg : o.guard with
  | none => rw [hg] at h; exact h
  | some g =>
    obtain ⟨j, want⟩ := g
    rw [hg] at h hE
    obtain ⟨oj, d, h1, h2, h3⟩ := h
    have := hE d (by simp [h1, h2])
    exact ⟨oj, d, h1, h2, by rw [this]; exact h3⟩

/-- A quiet step, in one form. -/
theorem Step1.cases {o : Oper} (h : Step1 P Θ n ops E o false E') : ∃ d s, o.dst = some d ∧ d < n ∧ owner (E d) = false ∧ E' = upd E d s ∧ ((Wants ops E o true ∧ Ev P Θ E o s) ∨ (Wants ops E o false ∧ s = .no)) := by
  cases h with
  | quiet hw hd hn ho h => exact ⟨_, _, hd, hn, ho, rfl, .inl ⟨hw, h⟩⟩
  | skip hw hd hn ho => exact ⟨_, _, hd, hn, ho, rfl, .inr ⟨hw, rfl⟩⟩

theorem Step1.wf {o : Oper} (h : Step1 P Θ n ops E o false E') (hw : WF E) : WF E' := by
  obtain ⟨d, s, hd, hn, ho, rfl, h2⟩ := h.cases
  intro u s' hr
  simp only [upd] at hr
  have key : owner (E s') = true → owner (upd E d s s') = true := by
    intro h
    have : d ≠ s' := by rintro rfl; rw [ho] at h; cases h
    rw [upd_ne this]; exact h
  split at hr
  · rcases h2 with ⟨_, h2⟩ | ⟨_, rfl⟩
    · exact key (h2.wf hw hr)
    · simp [refers] at hr
  · exact key (hw u s' hr)

/-- Two quiet steps apart from each other change places. -/
theorem Step1.swap {x y : Oper} (hw : WF E) (h1 : Step1 P Θ n ops E x false E1) (h2 : Step1 P Θ n ops E1 y false E2) (hap : apartB ops x y = true) :
    ∃ E3, Step1 P Θ n ops E y false E3 ∧ Step1 P Θ n ops E3 x false E2 := by
  obtain ⟨d, s, hd, hn, ho, rfl, k1⟩ := h1.cases
  obtain ⟨e, s', he, hn', ho', rfl, k2⟩ := h2.cases
  simp only [apartB, hd, he, Bool.and_eq_true, bne_iff_ne, ne_eq, Bool.not_eq_true', List.contains_eq_mem, decide_eq_false_iff_not, namesOf, List.mem_append, not_or] at hap
  obtain ⟨⟨hde, hy⟩, hx⟩ := hap
  have hoe : owner (E e) = false := by rw [upd_ne hde] at ho'; exact ho'
  -- y looks at the same things without x
  have l1 : Looks y (upd E d s) E := by
    intro k hk
    have hdk : d ≠ k := by rintro rfl; exact hy.1 hk
    refine ⟨(upd_ne hdk).symm, fun q hq => ?_⟩
    rw [upd_ne hdk] at hq
    have := hw k q hq
    have hdq : d ≠ q := by rintro rfl; rw [ho] at this; cases this
    exact (upd_ne hdq).symm
  have l2 : Looks x E (upd E e s') := by
    intro k hk
    have hek : e ≠ k := by rintro rfl; exact hx.1 hk
    refine ⟨upd_ne hek, fun q hq => ?_⟩
    have := hw k q hq
    have heq : e ≠ q := by rintro rfl; rw [hoe] at this; cases this
    exact upd_ne heq
  have g1 : ∀ b, Wants ops (upd E d s) y b → Wants ops E y b := fun b h => h.stable fun k hk => (upd_ne (by rintro rfl; exact hy.2 hk)).symm
  have g2 : ∀ b, Wants ops E x b → Wants ops (upd E e s') x b := fun b h => h.stable fun k hk => upd_ne (by rintro rfl; exact hx.2 hk)
  have hod : owner (upd E e s' d) = false := by rw [upd_ne (Ne.symm hde)]; exact ho
  refine ⟨upd E e s', ?_, ?_⟩
  · rcases k2 with ⟨q1, q2⟩ | ⟨q1, rfl⟩
    · exact .quiet (g1 _ q1) he hn' hoe (q2.stable l1)
    · exact .skip (g1 _ q1) he hn' hoe
  · rw [upd_comm hde]
    rcases k1 with ⟨q1, q2⟩ | ⟨q1, rfl⟩
    · exact .quiet (g2 _ q1) hd hn hod (q2.stable l2)
    · exact .skip (g2 _ q1) hd hn hod

omit [Tables] in
theorem Wants.none' {o : Oper} (h : o.guard = none) : Wants ops E o true := by unfold Wants; rw [h]

theorem ScMove.swap {x y : Oper} {E3 : Nat → Slot} (hsc : ScMove E x E1) (_h1 : Step1 P Θ n ops E x false E1) (h2 : Step1 P Θ n ops E1 y false E2) (h3 : Step1 P Θ n ops E y false E3) (h4 : Step1 P Θ n ops E3 x false E2) (hap : apartB ops x y = true) : ScMove E3 x E2 := by
  obtain ⟨d, k, c, hd, ho, hg, hk, hkd, h1c, hE1⟩ := hsc
  obtain ⟨e, s', he, _, _, hE2, _⟩ := h2.cases
  obtain ⟨e', s'', he', _, _, hE3, _⟩ := h3.cases
  obtain ⟨d', sd, hd', _, _, hE2', _⟩ := h4.cases
  rw [hd] at hd'; cases hd'
  rw [he] at he'; cases he'
  simp only [apartB, hd, he, Bool.and_eq_true, bne_iff_ne, ne_eq, Bool.not_eq_true', List.contains_eq_mem, decide_eq_false_iff_not, namesOf, List.mem_append, not_or] at hap
  obtain ⟨⟨hde, hy⟩, hx⟩ := hap
  have hek : e ≠ k := by rintro rfl; exact hx.1 (by simp [opTmps, ho, Op.operands, operand])
  refine ⟨d, k, c, hd, ho, hg, by rw [hE3, upd_ne hek]; exact hk, hkd, h1c, ?_⟩
  rw [hE2']
  have : upd E3 d sd d = E2 d := by rw [← hE2']
  rw [hE2, hE1, upd_ne (Ne.symm hde)] at this
  simp only [upd, if_true] at this
  rw [this]

def notSelect : Op → Bool
  | .select _ _ => false
  | _ => true

/-- As apartB, whether or not the second yields. -/
def apartB' (ops : Array Oper) (x y : Oper) : Bool := match y.dst with | some _ => apartB ops x y | none => true

def apartL (ops : Array Oper) (x y : Oper) : Bool :=
  match x.dst with
  | some d => !(namesOf ops y).contains d && y.dst != some d && !((opTmps x).any fun k => y.dst == some k) && notSelect y.op
  | none => false

theorem RawOp.apart {y : Oper} {d : Nat} {c : Value} (hn : d < n) (hod : owner (E d) = false) (h1c : c.oneCell' = true) (h : RawOp P n (upd E d (.d (.v c))) y E2) (hy : d ∉ opTmps y) (hs : notSelect y.op = true) (hd : y.dst ≠ some d) (h2 : E2 d = .d (.v c)) :
    RawOp P n E y (upd E2 d (match E d with | .d (.v z) => .d (.v z) | _ => .un)) := by
  intro ρ w a Q hI
  have hd' : d < a.tmps.size := by rw [hI.size]; exact hn
  have hI1 : Inv n ρ w (a.tmps.setIfInBounds d c) (upd E d (.d (.v c))) := hI.put hn hod (RD.ofV h1c).rv
  have key := h ρ w { a with tmps := a.tmps.setIfInBounds d c } (fun e _ w' => ∀ a'', Q e a'' w') hI1
  have hexec : execOp ({ a with tmps := a.tmps.setIfInBounds d c } : Act).eval y = execOp a.eval y := by
    refine execOp_congr y (fun cs b hop => by rw [hop] at hs; cases hs) fun x hx => ?_
    cases x with
    | tmp k =>
      show (a.tmps.setIfInBounds d c).getD k undef = a.tmps.getD k undef
      rw [getD_put _ _ _ _ hd', if_neg]
      rintro rfl
      exact hy (List.mem_flatMap.2 ⟨.tmp d, by simpa using hx, by simp [operand]⟩)
    | _ => rfl
  unfold Oper.wp at key ⊢
  rw [hexec] at key
  have fin : ∀ (v : Value) (w' : World), (({ a with tmps := a.tmps.setIfInBounds d c } : Act).put y.dst v).defers = a.defers ∧ (∃ ρ', Fr ρ w ρ' w' ∧ Inv n ρ' w' (({ a with tmps := a.tmps.setIfInBounds d c } : Act).put y.dst v).tmps E2) →
      (a.put y.dst v).defers = a.defers ∧ ∃ ρ', Fr ρ w ρ' w' ∧ Inv n ρ' w' (a.put y.dst v).tmps (upd E2 d (match E d with | .d (.v z) => .d (.v z) | _ => .un)) := by
    rintro v w' ⟨_, ρ', k1, k2⟩
    refine ⟨by cases y.dst <;> rfl, ρ', k1, ?_⟩
    have hrs : RS ρ' w' (({ a with tmps := a.tmps.setIfInBounds d c } : Act).put y.dst v).tmps E2 d (a.tmps.getD d undef) (match E d with | .d (.v z) => .d (.v z) | _ => .un) := by
      have h0 := hI.slot d
      split
      · next z hz =>
        rw [hz] at h0
        obtain ⟨cs, q1, q2⟩ := (RV.plain (x := .v z) rfl).1 h0
        simp only [Rp] at q1
        exact (RV.plain (x := .v z) rfl).2 ⟨cs, by simpa only [Rp] using q1, q2⟩
      · trivial
    have hput := k2.put hn (by rw [h2]; rfl) hrs
    have harr : (({ a with tmps := a.tmps.setIfInBounds d c } : Act).put y.dst v).tmps.setIfInBounds d (a.tmps.getD d undef) = (a.put y.dst v).tmps := by
      have hself : (a.tmps.setIfInBounds d c).setIfInBounds d (a.tmps.getD d undef) = a.tmps := by
        apply Array.ext_getElem?
        intro k
        simp only [Array.getElem?_setIfInBounds, Array.size_setIfInBounds]
        split
        · next hk => subst hk; simp [hd']
        · rfl
      cases hdst : y.dst with
      | none => exact hself
      | some e =>
        have hne : e ≠ d := by rintro rfl; exact hd hdst
        show ((a.tmps.setIfInBounds d c).setIfInBounds e v).setIfInBounds d (a.tmps.getD d undef) = a.tmps.setIfInBounds e v
        rw [Array.setIfInBounds_comm _ _ hne, hself]
    rw [harr] at hput
    exact hput
  generalize hres : (execOp a.eval y).run P w = res at key ⊢
  cases res with
  | ok nx w' =>
    cases nx with
    | value v => exact fin v w' key
    | skip => exact fin undef w' key
    | «defer» dd =>
      exfalso
      have := key.1
      cases hdst : y.dst <;> simp [hdst, Act.put] at this
    | enter f args =>
      refine Calls.mono key ?_
      intro ex w'' hh
      cases ex with
      | returned v => exact fin v w'' hh
      | panicked chain => exact hh a
      | outgrown => obtain ⟨a1, w1, hq⟩ := hh; exact ⟨a, w1, hq a⟩
    | row row args => exact Rows.mono key fun v w'' hh => fin v w'' hh
    | _ => exact key
  | halt x w' =>
    cases x with
    | panic v => exact key a
    | _ => exact key

/-- A scalar that is moved, and one that does more, change places. -/
theorem Step1.swapL {x y : Oper} (hΘ : Agree P Θ) (hsc : ScMove E x E1) (h1 : Step1 P Θ n ops E x false E1) (h2 : Step1 P Θ n ops E1 y true E2) (hap : apartL ops x y = true) :
    ∃ E3, Step1 P Θ n ops E y true E3 ∧ Step1 P Θ n ops E3 x false E2 ∧ ScMove E3 x E2 := by
  obtain ⟨d, k, c, hd, ho, hg, hk, hkd, h1c, rfl⟩ := hsc
  obtain ⟨d', s, hdd, hn, hod, _, _⟩ := h1.cases
  rw [hd] at hdd; cases hdd
  simp only [apartL, hd, Bool.and_eq_true, bne_iff_ne, ne_eq, Bool.not_eq_true', List.contains_eq_mem, decide_eq_false_iff_not, namesOf, List.mem_append, not_or, List.any_eq_false, beq_iff_eq] at hap
  obtain ⟨⟨⟨hy, hyd⟩, hx⟩, hsel⟩ := hap
  have hyk : y.dst ≠ some k := hx k (by simp [opTmps, ho, Op.operands, operand])
  cases h2 with
  | go hw hst =>
    have hkeep := hst.keeps
    have e1 : E2 d = .d (.v c) := hkeep d c (by simp [upd]) hyd
    have e2 : E2 k = .d (.v c) := hkeep k c (by rw [upd_ne (Ne.symm hkd)]; exact hk) hyk
    have hraw : RawOp P n (upd E d (.d (.v c))) y E2 := fun ρ w a Q hI => hst.sound hΘ hI
    have h3 := RawOp.apart hn hod h1c hraw hy.1 hsel hyd e1
    have hwant : Wants ops E y true := hw.stable fun j hj => (upd_ne (by rintro rfl; exact hy.2 hj)).symm
    have hown : owner (upd E2 d (match E d with | .d (.v z) => .d (.v z) | _ => .un) d) = false := by
      simp only [upd, if_true]
      split <;> rfl
    have hback : upd (upd E2 d (match E d with | .d (.v z) => .d (.v z) | _ => .un)) d (.d (.v c)) = E2 := by
      funext u
      simp only [upd]
      split
      · next hu => subst hu; exact e1.symm
      · rfl
    refine ⟨_, .go hwant (.raw h3 fun d2 z hz hy2 => ?_), ?_, d, k, c, hd, ho, hg, by rw [upd_ne (Ne.symm hkd)]; exact e2, hkd, h1c, hback.symm⟩
    · by_cases hdd : d = d2
      · subst hdd
        simp only [upd, if_true, hz]
      · rw [upd_ne hdd]
        exact hkeep d2 z (by rw [upd_ne hdd]; exact hz) hy2
    · have := Step1.quiet (P := P) (Θ := Θ) (ops := ops) (o := x) (Wants.none' hg) hd hn hown (.mv (.inl ho) (.tmp (by rw [upd_ne (Ne.symm hkd)]; exact e2) rfl))
      rw [hback] at this
      exact this

/-- One that is apart from all that stand ahead of it comes first. -/
theorem Chain.first (hΘ : Agree P Θ) {i : Nat} {B : List Nat} : ∀ (A : List Nat) {E E' : Nat → Slot}, WF E → Chain P Θ n ops loud (A ++ i :: B) E E' →
    (∀ j ∈ A, j ∉ loud ∧ ((i ∉ loud ∧ ∀ x y, ops[j]? = some x → ops[i]? = some y → apartB ops x y = true) ∨ (ops.size + j ∈ loud ∧ ∀ x y, ops[j]? = some x → ops[i]? = some y → apartL ops x y = true ∧ apartB' ops x y = true))) →
    ∃ o b E1, ops[i]? = some o ∧ (b = true → i ∈ loud) ∧ Step1 P Θ n ops E o b E1 ∧ Chain P Θ n ops loud (A ++ B) E1 E'
  | [], E, E', hw, h, _ => by
    cases h with
    | @cons _ _ o b _ E1 _ h1 h2 _ h3 h4 => exact ⟨o, b, E1, h1, h2, h3, h4⟩
  | j :: A, E, E', hw, h, hA => by
    cases h with
    | @cons _ _ x b _ E1 _ h1 h2 hsc h3 h4 =>
      have hj := hA j (by simp)
      cases b with
      | true => exact absurd (h2 rfl) hj.1
      | false =>
        obtain ⟨y, b, E2, g1, g0, g2, g3⟩ := Chain.first hΘ A (h3.wf hw) h4 (fun k hk => hA k (by simp [hk]))
        cases b with
        | false =>
          have hap : apartB ops x y = true := by
            rcases hj.2 with h | h
            · exact h.2 x y h1 g1
            · have := (h.2 x y h1 g1).2
              obtain ⟨e, s', he, _⟩ := g2.cases
              simpa [apartB', he] using this
          obtain ⟨E3, q1, q2⟩ := h3.swap hw g2 hap
          exact ⟨y, false, E3, g1, g0, q1, .cons h1 (by simp) (fun h => (hsc h).swap h3 g2 q1 q2 hap) q2 g3⟩
        | true =>
          rcases hj.2 with h | h
          · exact absurd (g0 rfl) h.1
          · obtain ⟨E3, q1, q2, q3⟩ := Step1.swapL hΘ (hsc h.1) h3 g2 (h.2 x y h1 g1).1
            exact ⟨y, true, E3, g1, g0, q1, .cons h1 (by simp) (fun _ => q3) q2 g3⟩

/-! ### Edges -/

inductive Anc (ops : Array Oper) : Nat → Nat → Prop
  | edge {i o e} : ops[i]? = some o → e ∈ o.after → Region.binds .any e = true → Anc ops i e.on
  | step {i o e j} : ops[i]? = some o → e ∈ o.after → Region.binds .any e = true → Anc ops e.on j → Anc ops i j

def maskOf (acc : List Nat) (o : Oper) : Nat := (o.after.toList.filter (Region.binds .any)).foldl (fun s e => s ||| (2 ^ e.on ||| acc.getD e.on 0)) 0
def masks : List Oper → List Nat → List Nat
  | [], acc => acc
  | o :: os, acc => masks os (acc ++ [maskOf acc o])

omit [Tables] in
theorem foldl_bit (acc : List Nat) (j : Nat) : ∀ (l : List Edge) (s : Nat), (l.foldl (fun s e => s ||| (2 ^ e.on ||| acc.getD e.on 0)) s).testBit j = true →
    s.testBit j = true ∨ ∃ e ∈ l, j = e.on ∨ (acc.getD e.on 0).testBit j = true
  | [], s, h => .inl h
  | e :: l, s, h => by
    rcases foldl_bit acc j l _ h with h | ⟨e', h1, h2⟩
    · simp only [Nat.testBit_or, Bool.or_eq_true] at h
      rcases h with h | h | h
      · exact .inl h
      · rw [Nat.testBit_two_pow] at h
        exact .inr ⟨e, by simp, .inl (of_decide_eq_true h).symm⟩
      · exact .inr ⟨e, by simp, .inr h⟩
    · exact .inr ⟨e', by simp [h1], h2⟩

omit [Tables] in
theorem masks_anc : ∀ (os : List Oper) (acc : List Nat) (pre : List Oper), ops.toList = pre ++ os → acc.length = pre.length →
    (∀ k j, (acc.getD k 0).testBit j = true → Anc ops k j) → ∀ k j, ((masks os acc).getD k 0).testBit j = true → Anc ops k j
  | [], acc, _, _, _, h => h
  | o :: os, acc, pre, hp, hl, h => by
    refine masks_anc os (acc ++ [maskOf acc o]) (pre ++ [o]) (by simp [hp]) (by simp [hl]) fun k j hk => ?_
    by_cases h1 : k < acc.length
    · rw [List.getD_eq_getElem?_getD, List.getElem?_append_left h1, ← List.getD_eq_getElem?_getD] at hk
      exact h k j hk
    · by_cases h2 : k = acc.length
      · subst h2
        have hk' : (maskOf acc o).testBit j = true := by simpa using hk
        have ho : ops[acc.length]? = some o := by
          rw [← Array.getElem?_toList, hp, hl]
          simp
        rcases foldl_bit acc j _ 0 hk' with h | ⟨e, h1, h2⟩
        · simp at h
        · rw [List.mem_filter] at h1
          rcases h2 with rfl | h2
          · exact .edge ho (by simpa using h1.1) h1.2
          · exact .step ho (by simpa using h1.1) h1.2 (h _ _ h2)
      · rw [List.getD_eq_getElem?_getD, List.getElem?_eq_none (by simp; omega)] at hk
        simp at hk

/-- Every two operations are in order by the edges, or change places; edges go back. -/
def orderOk (ops : Array Oper) (loud : List Nat) : Bool :=
  let m := masks ops.toList []
  (List.range ops.size).all fun i =>
    match ops[i]? with
    | none => false
    | some y => y.after.toList.all (fun e => !Region.binds .any e || decide (e.on < i)) &&
      (List.range i).all fun j => (m.getD i 0).testBit j || (!loud.contains i && !loud.contains j && match ops[j]? with | none => false | some x => apartB ops x y) ||
        (!loud.contains j && loud.contains (ops.size + j) && match ops[j]? with | none => false | some x => apartL ops x y && apartB' ops x y)

omit [Tables] in
theorem orderOk_spec (h : orderOk ops loud = true) {i : Nat} {y : Oper} (hy : ops[i]? = some y) :
    (∀ e ∈ y.after, Region.binds .any e = true → e.on < i) ∧ ∀ j, j < i → Anc ops i j ∨ (i ∉ loud ∧ j ∉ loud ∧ ∀ x, ops[j]? = some x → apartB ops x y = true) ∨ (j ∉ loud ∧ ops.size + j ∈ loud ∧ ∀ x, ops[j]? = some x → apartL ops x y = true ∧ apartB' ops x y = true) := by
  have hi : i < ops.size := (Array.getElem?_eq_some_iff.1 hy).1
  simp only [orderOk, List.all_eq_true, List.mem_range] at h
  have h1 := h i hi
  rw [hy] at h1
  simp only [Bool.and_eq_true, List.all_eq_true, Bool.or_eq_true, Bool.not_eq_true', decide_eq_true_eq, List.mem_range] at h1
  refine ⟨fun e he hb => ?_, fun j hj => ?_⟩
  · rcases h1.1 e (by simpa using he) with h | h
    · rw [hb] at h; cases h
    · exact h
  · rcases h1.2 j hj with (h | h) | h
    · exact .inl (masks_anc ops.toList [] [] (by simp) rfl (fun k j h => by simp at h) i j h)
    · refine .inr (.inl ⟨by simpa using h.1.1, by simpa using h.1.2, fun x hx => ?_⟩)
      have := h.2
      rw [hx] at this
      exact this
    · refine .inr (.inr ⟨by simpa using h.1.1, by simpa using h.1.2, fun x hx => ?_⟩)
      have := h.2
      rw [hx] at this
      simpa using this


def rem (ops : Array Oper) (listed : Array Bool) : List Nat := (List.range ops.size).filter fun i => !listed.getD i true

def Closed (ops : Array Oper) (listed : Array Bool) : Prop := ∀ i o, ops[i]? = some o → listed.getD i true = true → ∀ e ∈ o.after, Region.binds .any e = true → listed.getD e.on false = true

omit [Tables] in
theorem Anc.listed {listed : Array Bool} {i j : Nat} (hs : listed.size = ops.size) (hc : Closed ops listed) (h : Anc ops i j) :
    (∀ o, ops[i]? = some o → ∀ e ∈ o.after, Region.binds .any e = true → listed.getD e.on false = true) → listed.getD j false = true := by
  induction h with
  | edge h1 h2 h3 => exact fun h => h _ h1 _ h2 h3
  | @step i o e j h1 h2 h3 _ ih =>
    intro h
    have h4 := h _ h1 _ h2 h3
    refine ih fun o' ho' e' he' hb' => hc e.on o' ho' ?_ e' he' hb'
    have hlt : e.on < listed.size := by rw [hs]; exact (Array.getElem?_eq_some_iff.1 ho').1
    simp only [Array.getD_eq_getD_getElem?, Array.getElem?_eq_getElem hlt, Option.getD_some] at h4 ⊢
    exact h4

omit [Tables] in
theorem rem_split {listed : Array Bool} {i : Nat} (hi : i ∈ rem ops listed) :
    ∃ A B, rem ops listed = A ++ i :: B ∧ rem ops (listed.setIfInBounds i true) = A ++ B ∧ ∀ j ∈ A, j < i ∧ listed.getD j true = false := by
  have hmem := List.mem_filter.1 hi
  have hlt : i < ops.size := by simpa using hmem.1
  have hr : List.range ops.size = List.range i ++ i :: (List.range' (i + 1) (ops.size - i - 1)) := by
    rw [List.range_eq_range', List.range_eq_range']
    have : ops.size = i + ((ops.size - i - 1) + 1) := by omega
    conv => lhs; rw [this]
    rw [← List.range'_append_1, List.range'_succ]
    simp
  have hset : ∀ k, (listed.setIfInBounds i true).getD k true = if i = k then true else listed.getD k true := by
    intro k
    simp only [Array.getD_eq_getD_getElem?, Array.getElem?_setIfInBounds]
    split
    · next h => subst h; split <;> rfl
    · rfl
  refine ⟨(List.range i).filter fun k => !listed.getD k true, (List.range' (i + 1) (ops.size - i - 1)).filter fun k => !listed.getD k true, ?_, ?_, ?_⟩
  · unfold rem
    rw [hr, List.filter_append, List.filter_cons, if_pos hmem.2]
  · unfold rem
    rw [hr, List.filter_append, List.filter_cons]
    rw [if_neg (by rw [hset]; simp)]
    congr 1
    · refine List.filter_congr fun k hk => ?_
      have : k < i := by simpa using hk
      rw [hset, if_neg (by omega)]
    · refine List.filter_congr fun k hk => ?_
      have := List.mem_range'.1 hk
      obtain ⟨q, h1, h2⟩ := this
      rw [hset, if_neg (by omega)]
  · intro j hj
    have := List.mem_filter.1 hj
    exact ⟨by simpa using this.1, by simpa using this.2⟩

theorem draw_any (hΘ : Agree P Θ) (hok : orderOk ops loud = true) : ∀ (fuel : Nat) (listed : Array Bool) {E E' : Nat → Slot} {ρ : Nat → Tag} {w : World} {a : Act}, listed.size = ops.size → Closed ops listed → (rem ops listed).length ≤ fuel →
    Chain P Θ n ops loud (rem ops listed) E E' → Inv n ρ w a.tmps E → (∀ a' w', After n ρ w a E' a' w' → Q .normal a' w') → wpAny P .any ops Q fuel listed a w := by
  have getD_lt : ∀ (listed : Array Bool) (k : Nat), listed.size = ops.size → k < ops.size → listed.getD k false = listed.getD k true := by
    intro listed k hs hk
    simp [Array.getD_eq_getD_getElem?, Array.getElem?_eq_getElem (show k < listed.size by omega)]
  have hready : ∀ (listed : Array Bool), listed.size = ops.size → Region.ready .any ops listed = [] → rem ops listed = [] := by
    intro listed hs hr
    have all : ∀ i, i < ops.size → listed.getD i true = true := by
      intro i
      induction i using Nat.strongRecOn with
      | _ i ih =>
        intro hi
        refine Classical.byContradiction fun hn => ?_
        have hn' : listed.getD i true = false := by cases h : listed.getD i true <;> simp_all
        obtain ⟨o, ho⟩ : ∃ o, ops[i]? = some o := ⟨ops[i], by simp [hi]⟩
        have : i ∈ Region.ready .any ops listed := by
          unfold Region.ready
          rw [List.mem_filter]
          refine ⟨by simpa using hi, ?_⟩
          simp only [ho, Option.map_some, Option.getD_some, Bool.and_eq_true, hn', Bool.not_false, true_and]
          rw [Array.all_eq_true']
          intro e he
          by_cases hb : Region.binds .any e = true
          · have hlt := (orderOk_spec hok ho).1 e he hb
            have := ih e.on hlt (by omega)
            rw [getD_lt listed e.on hs (by omega), this]
            simp
          · simp [hb]
        rw [hr] at this
        cases this
    unfold rem
    rw [List.filter_eq_nil_iff]
    intro i hi
    simp [all i (by simpa using hi)]
  have hsub : ∀ (listed : Array Bool) (i : Nat), i ∈ Region.ready .any ops listed → i ∈ rem ops listed ∧ ∀ o, ops[i]? = some o → ∀ e ∈ o.after, Region.binds .any e = true → listed.getD e.on false = true := by
    intro listed i hi
    unfold Region.ready at hi
    rw [List.mem_filter] at hi
    obtain ⟨h1, h2⟩ := hi
    simp only [Bool.and_eq_true] at h2
    refine ⟨List.mem_filter.2 ⟨h1, h2.1⟩, fun o ho e he hb => ?_⟩
    have h3 := h2.2
    rw [ho] at h3
    simp only [Option.map_some, Option.getD_some, Array.all_eq_true'] at h3
    have := h3 e he
    simpa [hb] using this
  intro fuel
  induction fuel with
  | zero =>
    intro listed E E' ρ w a hs hc hl hch hI hQ
    have hrem : rem ops listed = [] := List.eq_nil_of_length_eq_zero (by omega)
    rw [hrem] at hch
    cases hch
    refine ⟨?_, hQ _ _ ⟨rfl, _, Fr.refl _ _, hI⟩⟩
    refine List.eq_nil_iff_forall_not_mem.2 fun i hi => ?_
    have := (hsub listed i hi).1
    rw [hrem] at this
    cases this
  | succ fuel ih =>
    intro listed E E' ρ w a hs hc hl hch hI hQ
    refine ⟨fun hr => ?_, fun i hi => ?_⟩
    · rw [hready listed hs hr] at hch
      cases hch
      exact hQ _ _ ⟨rfl, _, Fr.refl _ _, hI⟩
    · obtain ⟨h1, h2⟩ := hsub listed i hi
      obtain ⟨A, B, hA, hB, hA2⟩ := rem_split h1
      have hmem := List.mem_filter.1 h1
      have hlt : i < ops.size := by simpa using hmem.1
      obtain ⟨y, hy⟩ : ∃ o, ops[i]? = some o := ⟨ops[i], by simp [hlt]⟩
      have hap : ∀ j ∈ A, (i ∉ loud ∧ j ∉ loud ∧ ∀ x, ops[j]? = some x → apartB ops x y = true) ∨ (j ∉ loud ∧ ops.size + j ∈ loud ∧ ∀ x, ops[j]? = some x → apartL ops x y = true ∧ apartB' ops x y = true) := by
        intro j hj
        obtain ⟨q1, q2⟩ := hA2 j hj
        rcases (orderOk_spec hok hy).2 j q1 with h | h
        · have := Anc.listed hs hc h (fun o ho e he hb => h2 o ho e he hb)
          rw [getD_lt listed j hs (by omega), q2] at this
          cases this
        · exact h
      rw [hA] at hch
      have hgo : ∃ o b E1, ops[i]? = some o ∧ Step1 P Θ n ops E o b E1 ∧ Chain P Θ n ops loud (A ++ B) E1 E' := by
        cases A with
        | nil =>
          cases hch with
          | cons g1 g2 _ g3 g4 => exact ⟨_, _, _, g1, g3, g4⟩
        | cons j A =>
          obtain ⟨o, b, E1, g1, _, g2, g3⟩ := Chain.first hΘ (j :: A) hI.wf hch (fun k hk => by
            rcases hap k hk with h | h
            · refine ⟨h.2.1, .inl ⟨h.1, fun x y' hx hy' => ?_⟩⟩
              rw [hy] at hy'
              cases hy'
              exact h.2.2 x hx
            · refine ⟨h.1, .inr ⟨h.2.1, fun x y' hx hy' => ?_⟩⟩
              rw [hy] at hy'
              cases hy'
              exact h.2.2 x hx)
          exact ⟨o, b, E1, g1, g2, g3⟩
      obtain ⟨o, b, E1, g1, g2, g3⟩ := hgo
      refine g2.wp hΘ hI g1 fun a' w' ⟨k1, ρ', k2, k3⟩ => ?_
      refine ih (listed.setIfInBounds i true) (by simpa using hs) ?_ ?_ (by rw [hB]; exact g3) k3 (fun a2 w2 h => hQ a2 w2 (After.trans ⟨k1, k2⟩ h))
      · have hset : ∀ (k : Nat) (x : Bool), (listed.setIfInBounds i true).getD k x = if i = k then true else listed.getD k x := by
          intro k x
          simp only [Array.getD_eq_getD_getElem?, Array.getElem?_setIfInBounds]
          split
          · next h => subst h; simp [hs, hlt]
          · rfl
        intro k o' ho' hk e he hb
        rw [hset] at hk ⊢
        split
        · rfl
        · split at hk
          · next h => subst h; exact h2 o' ho' e he hb
          · exact hc k o' ho' hk e he hb
      · rw [hB]
        rw [hA] at hl
        simp only [List.length_append, List.length_cons] at hl ⊢
        omega

/-- A region, drawn or not. -/
theorem Chain.region {id : Nat} {draw : Bool} {a : Act} (hΘ : Agree P Θ) (hm : P.follows .mixedOrders = true) (hok : draw = true → orderOk ops loud = true) (h : Chain P Θ n ops loud (List.range ops.size) E E')
    (hI : Inv n ρ w a.tmps E) : (Code.region id ops draw).wp P (fun e a' w' => e = .normal ∧ After n ρ w a E' a' w') a w := by
  cases draw with
  | false => exact wp_region (h.wpOps hΘ hI fun _ _ h => ⟨rfl, h⟩)
  | true =>
    have hI' : Inv n ρ w.drew a.tmps E := hI.grow (Grow.refl hI.lt).drew
    have hrem : rem ops (Array.replicate ops.size false) = List.range ops.size := by
      unfold rem
      rw [List.filter_eq_self]
      intro i hi
      have : i < ops.size := by simpa using hi
      simp [Array.getD_eq_getD_getElem?, this]
    refine wp_region_any hm (draw_any hΘ (hok rfl) ops.size (Array.replicate ops.size false) (by simp) ?_ (by rw [hrem]; simp) (by rw [hrem]; exact h) hI' fun a' w' h => ⟨rfl, ?_⟩)
    · intro i o ho hl
      have : i < ops.size := (Array.getElem?_eq_some_iff.1 ho).1
      simp [Array.getD_eq_getD_getElem?, this] at hl
    · exact After.trans ⟨rfl, (Grow.refl hI.lt).drew.fr⟩ h

end Go.Dat
