/- A drawn region that stores into several boxes: no slot refers to another, so that the steps that touch different slots change places. No conditions. -/
import Derived.Test.YtopmpbdjnkomoaaK31
namespace Go.Dat

variable [Tables]

variable {P : Program} {Θ : TypeId → TI} {n : Nat} {ρ ρ' ρ'' : Nat → Tag} {w w' w'' : World} {E E' E1 E2 : Nat → Slot}
variable {ops : Array Oper} {Q : Exit → Act → World → Prop}

def bare (s : Slot) : Bool := (refers s).isNone && !isWk s
def Bare (E : Nat → Slot) : Prop := ∀ u, bare (E u) = true

inductive StepB (P : Program) (Θ : TypeId → TI) (n : Nat) (ops : Array Oper) (E : Nat → Slot) (o : Oper) : (Nat → Slot) → Prop
  | q {d s} : Wants ops E o true → o.dst = some d → d < n → owner (E d) = false → Ev P Θ E o s → bare s = true → StepB P Θ n ops E o (upd E d s)
  | skip {d} : Wants ops E o false → o.dst = some d → d < n → owner (E d) = false → StepB P Θ n ops E o (upd E d .no)
  | st {T k x X y} : o.dst = none → o.guard = none → o.op = .store T (.tmp k) x → E k = .box X → OpD E x y → (Θ T).fits y = true → y.size = X.size → X.noOwn = true → StepB P Θ n ops E o (upd E k (.box y))

inductive ChainB (P : Program) (Θ : TypeId → TI) (n : Nat) (ops : Array Oper) : List Nat → (Nat → Slot) → (Nat → Slot) → Prop
  | nil {E0} : ChainB P Θ n ops [] E0 E0
  | cons {i is o E0 E1 E2} : ops[i]? = some o → StepB P Θ n ops E0 o E1 → ChainB P Θ n ops is E1 E2 → ChainB P Θ n ops (i :: is) E0 E2

/-- The slot that an operation changes. -/
def tgt (o : Oper) : Option Nat :=
  match o.dst with
  | some d => some d
  | none => match o.op with
    | .store _ (.tmp k) _ => some k
    | _ => none

def apart2 (ops : Array Oper) (x y : Oper) : Bool :=
  match tgt x, tgt y with
  | some d, some e => d != e && !(namesOf ops y).contains d && !(namesOf ops x).contains e
  | _, _ => false

omit [Tables] in
theorem Bare.upd {d : Nat} {s : Slot} (h : Bare E) (hs : bare s = true) : Bare (upd E d s) := by
  intro u
  simp only [Dat.upd]
  split
  · exact hs
  · exact h u

omit [Tables] in
theorem Bare.kill {f : Slot → Bool} (h : Bare E) (hf : ∀ s, bare s = true → f s = false) : kill f E = E := by
  funext u
  have h1 := h u
  have h2 := hf _ h1
  simp only [bare, Bool.and_eq_true, Bool.not_eq_true'] at h1
  simp [Dat.kill, h2, h1.2]

theorem StepB.wp {o : Oper} {i : Nat} {a : Act} {K : Act → World → Prop} (hΘ : Agree P Θ) (hB : Bare E) (hI : Inv n ρ w a.tmps E) (h : StepB P Θ n ops E o E') (hi : ops[i]? = some o)
    (hK : ∀ a' w', After n ρ w a E' a' w' → K a' w') : wpOp P ops Q i K a w := by
  cases h with
  | q hw hd hn ho h => exact (Step1.quiet hw hd hn ho h).wp hΘ hI hi hK
  | skip hw hd hn ho => exact (Step1.skip (P := P) (Θ := Θ) hw hd hn ho).wp hΘ hI hi hK
  | @st T k x X y hd hg ho hE hx hf hs hX =>
    have h1 : OpStep P Θ n E o (upd E k (.box y)) := by
      have := OpStep.sto (P := P) (Θ := Θ) (n := n) (p := []) hd ho ⟨hE, .inr ⟨rfl, rfl⟩⟩ hx hf hs hX
      rw [hB.kill (fun s hs => by cases s <;> simp_all [bare, refers, below])] at this
      exact this
    exact (Step1.go (P := P) (Θ := Θ) (Wants.none hg) h1).wp hΘ hI hi hK

omit [Tables] in
theorem StepB.bare [Tables] {o : Oper} (hB : Bare E) (h : StepB P Θ n ops E o E') : Bare E' := by
  cases h with
  | q hw hd hn ho h hs => exact hB.upd hs
  | skip => exact hB.upd rfl
  | st => exact hB.upd rfl

theorem StepB.mv {o : Oper} (h : StepB P Θ n ops E o E') : ∃ d s, tgt o = some d ∧ E' = upd E d s ∧ Dat.bare s = true ∧
    ∀ E2, Bare E → (∀ k ∈ namesOf ops o, E2 k = E k) → E2 d = E d → StepB P Θ n ops E2 o (upd E2 d s) := by
  have key : ∀ {o : Oper} {E2 : Nat → Slot}, Bare E → (∀ k ∈ namesOf ops o, E2 k = E k) → Looks o E E2 := by
    intro o E2 hB h k hk
    refine ⟨h k (by simp [namesOf, hk]), fun s hs => ?_⟩
    have := hB k
    rw [Dat.bare, hs] at this
    cases this
  cases h with
  | @q d s hw hd hn ho h hs =>
    refine ⟨d, s, by simp [tgt, hd], rfl, hs, fun E2 hB hk hdd => .q (hw.stable fun k h => hk k (by simp [namesOf, h])) hd hn (by rw [hdd]; exact ho) (h.stable (key hB hk)) hs⟩
  | @skip d hw hd hn ho =>
    exact ⟨d, .no, by simp [tgt, hd], rfl, rfl, fun E2 hB hk hdd => .skip (hw.stable fun k h => hk k (by simp [namesOf, h])) hd hn (by rw [hdd]; exact ho)⟩
  | @st T k x X y hd hg ho hE hx hf hs hX =>
    refine ⟨k, .box y, by simp [tgt, hd, ho], rfl, rfl, fun E2 hB hk hdd => .st hd hg ho (by rw [hdd]; exact hE) (hx.stable fun k h => hk k ?_) hf hs hX⟩
    simp [namesOf, opTmps, ho, Op.operands, h]

theorem StepB.swap {x y : Oper} (hB : Bare E) (h1 : StepB P Θ n ops E x E1) (h2 : StepB P Θ n ops E1 y E2) (hap : apart2 ops x y = true) :
    ∃ E3, StepB P Θ n ops E y E3 ∧ StepB P Θ n ops E3 x E2 := by
  have hB1 := h1.bare hB
  obtain ⟨d, s, hd, rfl, hs, k1⟩ := h1.mv
  obtain ⟨e, s', he, rfl, hs', k2⟩ := h2.mv
  simp only [apart2, hd, he, Bool.and_eq_true, bne_iff_ne, ne_eq, Bool.not_eq_true', List.contains_eq_mem, decide_eq_false_iff_not] at hap
  obtain ⟨⟨hde, hy⟩, hx⟩ := hap
  refine ⟨upd E e s', k2 E hB1 (fun k hk => (upd_ne (by rintro rfl; exact hy hk)).symm) (upd_ne hde).symm, ?_⟩
  rw [upd_comm hde]
  exact k1 _ hB (fun k hk => upd_ne (by rintro rfl; exact hx hk)) (upd_ne (Ne.symm hde))

theorem ChainB.first {i : Nat} {B : List Nat} : ∀ (A : List Nat) {E E' : Nat → Slot}, Bare E → ChainB P Θ n ops (A ++ i :: B) E E' →
    (∀ j ∈ A, ∀ x y, ops[j]? = some x → ops[i]? = some y → apart2 ops x y = true) →
    ∃ o E1, ops[i]? = some o ∧ StepB P Θ n ops E o E1 ∧ ChainB P Θ n ops (A ++ B) E1 E'
  | [], E, E', hw, h, _ => by
    cases h with
    | cons h1 h3 h4 => exact ⟨_, _, h1, h3, h4⟩
  | j :: A, E, E', hw, h, hA => by
    cases h with
    | @cons _ _ x _ E1 _ h1 h3 h4 =>
      obtain ⟨y, E2, g1, g2, g3⟩ := ChainB.first A (h3.bare hw) h4 (fun k hk => hA k (by simp [hk]))
      obtain ⟨E3, q1, q2⟩ := h3.swap hw g2 (hA j (by simp) x y h1 g1)
      exact ⟨y, E3, g1, q1, .cons h1 q2 g3⟩

/-- Every two operations are in order by the edges, or change places; edges go back. -/
def orderOkB (ops : Array Oper) : Bool :=
  let m := masks ops.toList []
  (List.range ops.size).all fun i =>
    match ops[i]? with
    | none => false
    | some y => y.after.toList.all (fun e => !Region.binds .any e || decide (e.on < i)) &&
      (List.range i).all fun j => (m.getD i 0).testBit j || match ops[j]? with | none => false | some x => apart2 ops x y

omit [Tables] in
theorem orderOkB_spec (h : orderOkB ops = true) {i : Nat} {y : Oper} (hy : ops[i]? = some y) :
    (∀ e ∈ y.after, Region.binds .any e = true → e.on < i) ∧ ∀ j, j < i → Anc ops i j ∨ ∀ x, ops[j]? = some x → apart2 ops x y = true := by
  have hi : i < ops.size := (Array.getElem?_eq_some_iff.1 hy).1
  simp only [orderOkB, List.all_eq_true, List.mem_range] at h
  have h1 := h i hi
  rw [hy] at h1
  simp only [Bool.and_eq_true, List.all_eq_true, Bool.or_eq_true, Bool.not_eq_true', decide_eq_true_eq, List.mem_range] at h1
  refine ⟨fun e he hb => ?_, fun j hj => ?_⟩
  · rcases h1.1 e (by simpa using he) with h | h
    · rw [hb] at h; cases h
    · exact h
  · rcases h1.2 j hj with h | h
    · exact .inl (masks_anc ops.toList [] [] (by simp) rfl (fun k j h => by simp at h) i j h)
    · refine .inr fun x hx => ?_
      rw [hx] at h
      exact h

theorem draw_anyB (hΘ : Agree P Θ) (hok : orderOkB ops = true) : ∀ (fuel : Nat) (listed : Array Bool) {E E' : Nat → Slot} {ρ : Nat → Tag} {w : World} {a : Act}, listed.size = ops.size → Closed ops listed → (rem ops listed).length ≤ fuel → Bare E →
    ChainB P Θ n ops (rem ops listed) E E' → Inv n ρ w a.tmps E → (∀ a' w', After n ρ w a E' a' w' → Q .normal a' w') → wpAny P .any ops Q fuel listed a w := by
  have getD_lt : ∀ (listed : Array Bool) (k : Nat), listed.size = ops.size → k < ops.size → listed.getD k false = listed.getD k true := by
    intro listed k hs hk
    simp [Array.getD_eq_getD_getElem?, Array.getElem?_eq_getElem (show k < listed.size by omega)]
  have hready : ∀ (listed : Array Bool), listed.size = ops.size → Region.ready .any ops listed = [] → rem ops listed = [] := by
    intro listed hs hr
    have all : ∀ i, i < ops.size → listed.getD i true = true := by
      intro i
      induction i using Nat.strongRecOn with
      | _ i ih =>
        intro hi
        refine Classical.byContradiction fun hn => ?_
        have hn' : listed.getD i true = false := by cases h : listed.getD i true <;> simp_all
        obtain ⟨o, ho⟩ : ∃ o, ops[i]? = some o := ⟨ops[i], by simp [hi]⟩
        have : i ∈ Region.ready .any ops listed := by
          unfold Region.ready
          rw [List.mem_filter]
          refine ⟨by simpa using hi, ?_⟩
          simp only [ho, Option.map_some, Option.getD_some, Bool.and_eq_true, hn', Bool.not_false, true_and]
          rw [Array.all_eq_true']
          intro e he
          by_cases hb : Region.binds .any e = true
          · have hlt := (orderOkB_spec hok ho).1 e he hb
            have := ih e.on hlt (by omega)
            rw [getD_lt listed e.on hs (by omega), this]
            simp
          · simp [hb]
        rw [hr] at this
        cases this
    unfold rem
    rw [List.filter_eq_nil_iff]
    intro i hi
    simp [all i (by simpa using hi)]
  have hsub : ∀ (listed : Array Bool) (i : Nat), i ∈ Region.ready .any ops listed → i ∈ rem ops listed ∧ ∀ o, ops[i]? = some o → ∀ e ∈ o.after, Region.binds .any e = true → listed.getD e.on false = true := by
    intro listed i hi
    unfold Region.ready at hi
    rw [List.mem_filter] at hi
    obtain ⟨h1, h2⟩ := hi
    simp only [Bool.and_eq_true] at h2
    refine ⟨List.mem_filter.2 ⟨h1, h2.1⟩, fun o ho e he hb => ?_⟩
    have h3 := h2.2
    rw [ho] at h3
    simp only [Option.map_some, Option.getD_some, Array.all_eq_true'] at h3
    have := h3 e he
    simpa [hb] using this
  intro fuel
  induction fuel with
  | zero =>
    intro listed E E' ρ w a hs hc hl hB hch hI hQ
    have hrem : rem ops listed = [] := List.eq_nil_of_length_eq_zero (by omega)
    rw [hrem] at hch
    cases hch
    refine ⟨?_, hQ _ _ ⟨rfl, _, Fr.refl _ _, hI⟩⟩
    refine List.eq_nil_iff_forall_not_mem.2 fun i hi => ?_
    have := (hsub listed i hi).1
    rw [hrem] at this
    cases this
  | succ fuel ih =>
    intro listed E E' ρ w a hs hc hl hB hch hI hQ
    refine ⟨fun hr => ?_, fun i hi => ?_⟩
    · rw [hready listed hs hr] at hch
      cases hch
      exact hQ _ _ ⟨rfl, _, Fr.refl _ _, hI⟩
    · obtain ⟨h1, h2⟩ := hsub listed i hi
      obtain ⟨A, B, hA, hB', hA2⟩ := rem_split h1
      have hmem := List.mem_filter.1 h1
      have hlt : i < ops.size := by simpa using hmem.1
      obtain ⟨y, hy⟩ : ∃ o, ops[i]? = some o := ⟨ops[i], by simp [hlt]⟩
      rw [hA] at hch
      obtain ⟨o, E1, g1, g2, g3⟩ := ChainB.first A hB hch (fun j hj x y' hx hy' => by
        rw [hy] at hy'
        cases hy'
        obtain ⟨q1, q2⟩ := hA2 j hj
        rcases (orderOkB_spec hok hy).2 j q1 with h | h
        · have := Anc.listed hs hc h (fun o ho e he hb => h2 o ho e he hb)
          rw [getD_lt listed j hs (by omega), q2] at this
          cases this
        · exact h x hx)
      refine g2.wp hΘ hB hI g1 fun a' w' ⟨k1, ρ', k2, k3⟩ => ?_
      refine ih (listed.setIfInBounds i true) (by simpa using hs) ?_ ?_ (g2.bare hB) (by rw [hB']; exact g3) k3 (fun a2 w2 h => hQ a2 w2 (After.trans ⟨k1, k2⟩ h))
      · have hset : ∀ (k : Nat) (x : Bool), (listed.setIfInBounds i true).getD k x = if i = k then true else listed.getD k x := by
          intro k x
          simp only [Array.getD_eq_getD_getElem?, Array.getElem?_setIfInBounds]
          split
          · next h => subst h; simp [hs, hlt]
          · rfl
        intro k o' ho' hk e he hb
        rw [hset] at hk ⊢
        split
        · rfl
        · split at hk
          · next h => subst h; exact h2 o' ho' e he hb
          · exact hc k o' ho' hk e he hb
      · rw [hB']
        rw [hA] at hl
        simp only [List.length_append, List.length_cons] at hl ⊢
        omega

theorem ChainB.region {id : Nat} {a : Act} (hΘ : Agree P Θ) (hm : P.follows .mixedOrders = true) (hok : orderOkB ops = true) (hB : Bare E) (h : ChainB P Θ n ops (List.range ops.size) E E')
    (hI : Inv n ρ w a.tmps E) : (Code.region id ops true).wp P (fun e a' w' => e = .normal ∧ After n ρ w a E' a' w') a w := by
  have hI' : Inv n ρ w.drew a.tmps E := hI.grow (Grow.refl hI.lt).drew
  have hrem : rem ops (Array.replicate ops.size false) = List.range ops.size := by
    unfold rem
    rw [List.filter_eq_self]
    intro i hi
    have : i < ops.size := by simpa using hi
    simp [Array.getD_eq_getD_getElem?, this]
  refine wp_region_any hm (draw_anyB hΘ hok ops.size (Array.replicate ops.size false) (by simp) ?_ (by rw [hrem]; simp) hB (by rw [hrem]; exact h) hI' fun a' w' h => ⟨rfl, ?_⟩)
  · intro i o ho hl
    have : i < ops.size := (Array.getElem?_eq_some_iff.1 ho).1
    simp [Array.getD_eq_getD_getElem?, this] at hl
  · exact After.trans ⟨rfl, (Grow.refl hI.lt).drew.fr⟩ h

theorem RawCode.ofB {id : Nat} (hΘ : Agree P Θ) (hm : P.follows .mixedOrders = true) (hok : orderOkB ops = true) (hB : Bare E) (h : ChainB P Θ n ops (List.range ops.size) E E') : RawCode P n (.region id ops true) E E' := by
  intro ρ w a b k cs hI
  obtain ⟨e, a1, w1, ⟨rfl, h3, ρ1, h4, h5⟩, harr⟩ := h.region hΘ hm hok hB hI b k cs
  exact ⟨a1, w1, harr, h3, ρ1, h4, h5⟩

/-! ### How it is written -/

variable {R : (Nat → Slot) → Prop} {i : Nat} {os : List Oper} {k : List Item} {l : Env}

def OpsB (P : Program) (Θ : TypeId → TI) (n : Nat) (R : (Nat → Slot) → Prop) (ops : Array Oper) (i : Nat) (os : List Oper) (k : List Item) (E : Nat → Slot) : Prop :=
  (∀ j, os[j]? = ops[i + j]?) → ∃ E1, ChainB P Θ n ops (List.range' i os.length) E E1 ∧ Run P Θ n R k E1

omit [Tables] in
theorem bareL (h : (l.all fun x => bare x.2) = true) : Bare (lk l) := by
  intro u
  induction l with
  | nil => rfl
  | cons x l ih =>
    obtain ⟨v, s⟩ := x
    simp only [List.all_cons, Bool.and_eq_true] at h
    simp only [lk]
    split
    · exact h.1
    · exact ih h.2

theorem Run.opsB {id : Nat} (hΘ : Agree P Θ) (hm : P.follows .mixedOrders = true) (hB : (l.all fun x => bare x.2) = true) (hok : orderOkB ops = true) (h : OpsB P Θ n R ops 0 ops.toList k (lk l)) : Run P Θ n R (.code (.region id ops true) :: k) (lk l) := by
  obtain ⟨E1, h1, h2⟩ := h (fun j => by simp)
  refine .raw (.ofB hΘ hm hok (bareL hB) ?_) h2
  rw [List.range_eq_range']
  simpa using h1

theorem OpsB.nil (h : Run P Θ n R k E) : OpsB P Θ n R ops i [] k E := fun _ => ⟨E, .nil, h⟩

theorem OpsB.cons {o : Oper} (h1 : StepB P Θ n ops E o E') (h : OpsB P Θ n R ops (i + 1) os k E') : OpsB P Θ n R ops i (o :: os) k E := by
  intro hj
  obtain ⟨E1, g1, g2⟩ := h (fun j => by have := hj (j + 1); simpa [Nat.add_assoc, Nat.add_comm 1 j] using this)
  refine ⟨E1, ?_, g2⟩
  rw [List.length_cons, List.range'_succ]
  exact .cons (by have := hj 0; simpa using this.symm) h1 g1

variable {d : Nat} {op : Op} {ty : TypeId} {pos : String} {af : Array Edge}

theorem OpsB.ev {s : Slot} (h : Ev P Θ (lk l) ⟨some d, op, ty, pos, af, none⟩ s) (hd : (decide (d < n) && !owner (lk l d) && bare s) = true)
    (next : OpsB P Θ n R ops (i + 1) os k (lk ((d, s) :: l))) : OpsB P Θ n R ops i (⟨some d, op, ty, pos, af, none⟩ :: os) k (lk l) := by
  simp only [Bool.and_eq_true, decide_eq_true_eq, Bool.not_eq_true'] at hd
  exact .cons (.q (Wants.none rfl) rfl hd.1.1 hd.1.2 h hd.2) next

theorem OpsB.q {s : Slot} {c : Prop} (h : evq Θ (lk l) ⟨some d, op, ty, pos, af, none⟩ = some (s, c)) (hd : (decide (d < n) && !owner (lk l d) && bare s) = true) (hc : c)
    (next : OpsB P Θ n R ops (i + 1) os k (lk ((d, s) :: l))) : OpsB P Θ n R ops i (⟨some d, op, ty, pos, af, none⟩ :: os) k (lk l) :=
  .ev (evq_sound h hc) hd next

theorem OpsB.sto {q : Nat} {X y : D} {x : Operand} {T : TypeId} {c : Prop} (ha : lk l q = .box X) (hx : opOf (lk l) x = some (y, c)) (hc : c)
    (hf : ((Θ T).fits y && (y.size == X.size) && X.noOwn) = true) (next : OpsB P Θ n R ops (i + 1) os k (lk ((q, .box y) :: l))) :
    OpsB P Θ n R ops i (⟨none, .store T (.tmp q) x, ty, pos, af, none⟩ :: os) k (lk l) := by
  simp only [Bool.and_eq_true, beq_iff_eq] at hf
  exact .cons (.st rfl rfl rfl ha (opOf_sound hx hc) hf.1.1 hf.1.2 hf.2) next

theorem OpsB.evg {s : Slot} {j : Nat} {want : Bool} (hg : guardOf ops (lk l) j want = some true) (h : Ev P Θ (lk l) ⟨some d, op, ty, pos, af, some (j, want)⟩ s) (hd : (decide (d < n) && !owner (lk l d) && bare s) = true)
    (next : OpsB P Θ n R ops (i + 1) os k (lk ((d, s) :: l))) : OpsB P Θ n R ops i (⟨some d, op, ty, pos, af, some (j, want)⟩ :: os) k (lk l) := by
  simp only [Bool.and_eq_true, decide_eq_true_eq, Bool.not_eq_true'] at hd
  exact .cons (.q (guardOf_sound rfl hg) rfl hd.1.1 hd.1.2 h hd.2) next

theorem OpsB.sk {j : Nat} {want : Bool} (hg : guardOf ops (lk l) j want = some false) (hd : (decide (d < n) && !owner (lk l d)) = true)
    (next : OpsB P Θ n R ops (i + 1) os k (lk ((d, .no) :: l))) : OpsB P Θ n R ops i (⟨some d, op, ty, pos, af, some (j, want)⟩ :: os) k (lk l) := by
  simp only [Bool.and_eq_true, decide_eq_true_eq, Bool.not_eq_true'] at hd
  exact .cons (.skip (guardOf_sound rfl hg) rfl hd.1 hd.2) next

theorem OpsB.say {x y : D} (hE : lk l d = .d x) (h : x = y) (next : OpsB P Θ n R ops i os k (lk ((d, .d y) :: l))) : OpsB P Θ n R ops i os k (lk l) := by
  subst h; rwa [lk_same hE] at next

omit [Tables] in
theorem BinD.eqB {T : TypeId} {x y : Operand} {p q : Bool} (hu : P.underlying T = some .bool) : BinD P .eql T x y (.v (.bool p)) (.v (.bool q)) (.v (.bool (p == q))) := binOf_sound (fun _ => .inl hu) rfl trivial
omit [Tables] in
theorem BinD.neB {T : TypeId} {x y : Operand} {p q : Bool} (hu : P.underlying T = some .bool) : BinD P .neq T x y (.v (.bool p)) (.v (.bool q)) (.v (.bool (p != q))) := binOf_sound (fun _ => .inl hu) rfl trivial

/-- Branches that join, what follows being out of sight. -/
theorem Run.joinK {α : Type} {c : Code} (I : α → Prop) (f : α → Env) (h1 : ∀ a, I a → Run P Θ n R k (lk (f a))) (h2 : ∀ k', (∀ a, I a → Run P Θ n R k' (lk (f a))) → Run P Θ n R (.code c :: k') (lk l)) :
    Run P Θ n R (.code c :: k) (lk l) := h2 k h1

abbrev ya := @OpsB.nil
abbrev yb := @OpsB.q
abbrev yc := @OpsB.ev
abbrev yd := @OpsB.sto
abbrev ye := @OpsB.evg
abbrev yf := @OpsB.sk
end Go.Dat
