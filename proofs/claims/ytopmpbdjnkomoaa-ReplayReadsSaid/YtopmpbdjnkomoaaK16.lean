/- Derivations over a function's code; what they show of a call. No conditions. -/
import Derived.Test.YtopmpbdjnkomoaaK15
namespace Go.Dat

variable [Tables]

variable {P : Program} {Θ : TypeId → TI} {n : Nat} {ρ ρ' ρ'' : Nat → Tag} {w w' w'' : World} {tmps tmps' : Array Value} {E E' E1 E2 : Nat → Slot} {t : Nat} {u : Value}

/-- What is known is told in other words. -/
def Gh (n : Nat) (E E' : Nat → Slot) : Prop := ∀ ρ w tmps, Inv n ρ w tmps E → ∃ ρ', Fr ρ w ρ' w ∧ Inv n ρ' w tmps E'

/-- A piece of code that was proved by itself. -/
def RawCode (P : Program) (n : Nat) (c : Code) (E E' : Nat → Slot) : Prop :=
  ∀ ρ w (a : Act) (b : Frame) (k : List Item) (cs : List Frame), Inv n ρ w a.tmps E →
    ∃ a' w', Steps P (lone (b.at a (.code c :: k)) cs w) (lone (b.at a' k) cs w') ∧ a'.defers = a.defers ∧ ∃ ρ', Fr ρ w ρ' w' ∧ Inv n ρ' w' a'.tmps E'

inductive Run (P : Program) (Θ : TypeId → TI) (n : Nat) (R : (Nat → Slot) → Prop) : List Item → (Nat → Slot) → Prop
  | region {id ops draw k E0 E1 loud} : Chain P Θ n ops loud (List.range ops.size) E0 E1 → (draw = true → orderOk ops loud = true) → Run P Θ n R k E1 → Run P Θ n R (.code (.region id ops draw) :: k) E0
  | skip {k E0} : Run P Θ n R k E0 → Run P Θ n R (.code .skip :: k) E0
  | label {l k E0} : Run P Θ n R k E0 → Run P Θ n R (.code (.label l) :: k) E0
  | seq {x y k E0} : Run P Θ n R (.code x :: .code y :: k) E0 → Run P Θ n R (.code (.seq x y) :: k) E0
  | block {id x k E0} : Run P Θ n R (.code x :: .inBlock id :: k) E0 → Run P Θ n R (.code (.block id x) :: k) E0
  | inBlock {id k E0} : Run P Θ n R k E0 → Run P Θ n R (.inBlock id :: k) E0
  | loop {x k E0} : Run P Θ n R (.code x :: .inLoop x :: k) E0 → Run P Θ n R (.code (.loop x) :: k) E0
  | inLoop {x k E0} : Run P Θ n R (.code x :: .inLoop x :: k) E0 → Run P Θ n R (.inLoop x :: k) E0
  | scope {x k E0} : Run P Θ n R (.code x :: .inScope x :: k) E0 → Run P Θ n R (.code (.scope x) :: k) E0
  | inScope {x k E0} : Run P Θ n R k E0 → Run P Θ n R (.inScope x :: k) E0
  | exit {id k k' E0} : exitTo id k = some k' → Run P Θ n R k' E0 → Run P Θ n R (.code (.exit id) :: k) E0
  | goto {l k k' E0} : gotoIn l k = some k' → Run P Θ n R k' E0 → Run P Θ n R (.code (.goto l) :: k) E0
  | cond {c x y k E0 b} : OpD E0 c (.v (.bool b)) → Run P Θ n R (.code (if b then x else y) :: k) E0 → Run P Θ n R (.code (.cond c x y) :: k) E0
  | ret {k E0} : R E0 → Run P Θ n R (.code .ret :: k) E0
  | fin {E0} : R E0 → Run P Θ n R [] E0
  | raw {c k E0 E1} : RawCode P n c E0 E1 → Run P Θ n R k E1 → Run P Θ n R (.code c :: k) E0
  | split {k E0} (Q : (Nat → Slot) → Prop) : (∀ ρ w tmps, Inv n ρ w tmps E0 → ∃ E1 ρ', Q E1 ∧ Fr ρ w ρ' w ∧ Inv n ρ' w tmps E1) → (∀ E1, Q E1 → Run P Θ n R k E1) → Run P Θ n R k E0
  | ghost {k E0 E1} : Gh n E0 E1 → Run P Θ n R k E1 → Run P Θ n R k E0

omit [Tables] in
theorem step_scope {b : Frame} {a : Act} {k : List Item} {cs : List Frame} {c : Code} :
    step P (lone (b.at a (.code (.scope c) :: k)) cs w) = .next (lone (b.at a (.code c :: .inScope c :: k)) cs w) :=
  step_lone_go (by simp [stepG, stepG.exec, Frame.at])
omit [Tables] in
theorem step_inScope {b : Frame} {a : Act} {k : List Item} {cs : List Frame} {c : Code} :
    step P (lone (b.at a (.inScope c :: k)) cs w) = .next (lone (b.at a k) cs w) :=
  step_lone_go (by simp [stepG, stepG.exec, Frame.at])

/-- The frame comes to its return, R being true. -/
def Returns (P : Program) (n : Nat) (R : (Nat → Slot) → Prop) (ρ : Nat → Tag) (w : World) (a : Act) (m : Machine) (b : Frame) (cs : List Frame) : Prop :=
  ∃ a' w' k', Steps P m (lone { b.at a' k' with mode := .returning } cs w') ∧ a'.defers = a.defers ∧ ∃ ρ' E', Fr ρ w ρ' w' ∧ Inv n ρ' w' a'.tmps E' ∧ R E'

theorem Returns.steps {R : (Nat → Slot) → Prop} {a : Act} {m m' : Machine} {b : Frame} {cs : List Frame} (h : Steps P m m') (k : Returns P n R ρ w a m' b cs) : Returns P n R ρ w a m b cs := by
  obtain ⟨a', w', k', h1, h2⟩ := k
  exact ⟨a', w', k', h.trans h1, h2⟩

theorem Run.sound {R : (Nat → Slot) → Prop} {todo : List Item} (hΘ : Agree P Θ) (hm : P.follows .mixedOrders = true) (h : Run P Θ n R todo E) : ∀ {ρ : Nat → Tag} {w : World} {a : Act}, Inv n ρ w a.tmps E →
    ∀ (b : Frame) (cs : List Frame), Returns P n R ρ w a (lone (b.at a todo) cs w) b cs := by
  induction h with
  | region h1 h2 _ ih =>
    intro ρ w a hI b cs
    obtain ⟨e, a1, w1, ⟨rfl, h3, ρ1, h4, h5⟩, harr⟩ := h1.region hΘ hm h2 hI b _ cs
    obtain ⟨a', w', k', g1, g2, ρ', E', g3, g4⟩ := ih h5 b cs
    exact ⟨a', w', k', Steps.trans harr g1, g2.trans h3, ρ', E', h4.trans g3, g4⟩
  | skip _ ih => exact fun hI b cs => .steps (.one step_skip) (ih hI b cs)
  | label _ ih => exact fun hI b cs => .steps (.one step_label) (ih hI b cs)
  | seq _ ih => exact fun hI b cs => .steps (.one step_seq) (ih hI b cs)
  | block _ ih => exact fun hI b cs => .steps (.one step_block) (ih hI b cs)
  | inBlock _ ih => exact fun hI b cs => .steps (.one step_inBlock) (ih hI b cs)
  | loop _ ih => exact fun hI b cs => .steps (.one step_loop) (ih hI b cs)
  | inLoop _ ih => exact fun hI b cs => .steps (.one step_inLoop) (ih hI b cs)
  | scope _ ih => exact fun hI b cs => .steps (.one step_scope) (ih hI b cs)
  | inScope _ ih => exact fun hI b cs => .steps (.one step_inScope) (ih hI b cs)
  | exit h _ ih => exact fun hI b cs => .steps (.one (step_exit h)) (ih hI b cs)
  | goto h _ ih => exact fun hI b cs => .steps (.one (step_goto h)) (ih hI b cs)
  | cond h _ ih => exact fun hI b cs => .steps (.one (step_cond (h.sound hI).v)) (ih hI b cs)
  | ret h => exact fun hI b cs => ⟨_, _, _, .one step_ret, rfl, _, _, Fr.refl _ _, hI, h⟩
  | fin h => exact fun hI b cs => ⟨_, _, _, .one step_end, rfl, _, _, Fr.refl _ _, hI, h⟩
  | raw h1 _ ih =>
    intro ρ w a hI b cs
    obtain ⟨a1, w1, h2, h3, ρ1, h4, h5⟩ := h1 _ _ _ b _ cs hI
    obtain ⟨a', w', k', g1, g2, ρ', E', g3, g4⟩ := ih h5 b cs
    exact ⟨a', w', k', Steps.trans h2 g1, g2.trans h3, ρ', E', h4.trans g3, g4⟩
  | split Q h _ ih =>
    intro ρ w a hI b cs
    obtain ⟨E1, ρ1, h0, h1, h2⟩ := h _ _ _ hI
    obtain ⟨a', w', k', g1, g2, ρ', E', g3, g4⟩ := ih E1 h0 h2 b cs
    exact ⟨a', w', k', g1, g2, ρ', E', h1.trans g3, g4⟩
  | ghost h _ ih =>
    intro ρ w a hI b cs
    obtain ⟨ρ1, h1, h2⟩ := h _ _ _ hI
    obtain ⟨a', w', k', g1, g2, ρ', E', g3, g4⟩ := ih h2 b cs
    exact ⟨a', w', k', g1, g2, ρ', E', h1.trans g3, g4⟩

/-- The frame's results are r. -/
def Ends (P : Program) (fn : Func) (r : D) (E : Nat → Slot) : Prop :=
  ∀ n ρ w tmps, Inv n ρ w tmps E → ∃ v ρ', (results fn tmps).run P w = .ok v w ∧ Fr ρ w ρ' w ∧ (∀ b, ρ' b ≠ .other → b < w.heap.size) ∧ RV ρ' w 0 r v

def init (ds : List D) (i : Nat) : Slot := match ds[i]? with | some d => .d d | none => .un

omit [Tables] in
theorem Rpv.len {S : Nat → Prop} : ∀ {ds : List D} {us : List Value}, Rpv S w ds us → us.length = ds.length
  | [], _, h => by simp only [Rpv] at h; subst h; rfl
  | d :: ds, _, h => by
    simp only [Rpv] at h
    obtain ⟨u, y, cs, rfl, _, _, h3⟩ := h
    simp [Rpv.len h3]

open Classical in
theorem DFun.of_run {f : FuncId} {fn : Func} {c : Code} {ds : List D} {r : D} (hΘ : Agree P Θ) (hm : P.follows .mixedOrders = true) (hf : P.funcs[f]? = some fn) (hb : fn.body = some c) (hn : ds.length ≤ fn.ntmps)
    (h : Run P Θ fn.ntmps (Ends P fn r) [.code c] (init ds)) : DFun P f ds r := by
  intro S w vals hS hT hv
  have hlen := hv.len
  intro cs
  let b : Frame := { (default : Frame) with fn := f, kind := .normal }
  let a : Act := { tmps := vals.toArray ++ Array.replicate (fn.ntmps - vals.toArray.size) undef, defers := [] }
  have henter : Frame.enter P f vals.toArray .normal = b.at a [.code c] := by simp [Frame.enter, Frame.at, hf, hb, b, a]
  have hI : Inv fn.ntmps (tagS S) w a.tmps (init ds) := by
    refine ⟨by simp [a]; omega, fun g hg => hS g (Classical.byContradiction fun hne => hg (by simp [tagS, hne])), by rw [sh_tagS]; exact hT, fun t => ?_⟩
    unfold init
    cases hd : ds[t]? with
    | none => trivial
    | some d =>
      have ht : t < ds.length := (List.getElem?_eq_some_iff.1 hd).1
      obtain ⟨v, g1, g2⟩ := nth_map_vals hv ht
      have hgd : ds.getD t un = d := by simp [hd]
      rw [hgd] at g2
      have hval : a.tmps.getD t undef = v := by
        have : t < vals.length := by omega
        simp only [a, Array.getD_eq_getD_getElem?, Array.getElem?_append, List.size_toArray, this, if_true, List.getElem?_toArray, g1, Option.getD_some]
      rw [hval]
      exact RD.rv (by rw [sh_tagS]; exact g2)
  obtain ⟨a', w', k', h1, h2, ρ', E', h3, h4, h5⟩ := h.sound hΘ hm hI b cs
  obtain ⟨v, ρ2, q1, q2, q3, q4⟩ := h5 _ _ _ _ h4
  refine ⟨.returned v, w', _, ⟨v, ρ2, rfl, ?_, q4⟩, (by rw [henter]; exact h1), rfl, rfl, by simp [Frame.at, h2, a], rfl, fn, hf, q1⟩
  have h6 := h3.trans q2
  have hold : ∀ g, g < w.heap.size → ρ2 g = tagS S g := by
    intro g hg
    by_cases hs : S g
    · rw [h6.shd g (by simp [tagS, hs])]; simp [tagS, hs]
    · rw [h6.oth g hg (by simp [tagS, hs])]; simp [tagS, hs]
  refine ⟨fun g hg => hold g (hS g (Classical.byContradiction fun hne => hg (by simp [tagS, hne]))), fun g hg => ⟨hold g hg, h6.old g hg ?_⟩, q3, h6.os, h6.tape, h6.output, h6.size⟩
  by_cases hs : S g
  · exact .inl (by simp [tagS, hs])
  · exact .inr (by simp [tagS, hs])

end Go.Dat
