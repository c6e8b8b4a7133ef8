/- The operations that leave what is there alone: what each yields. No conditions. -/
import Derived.Test.YtopmpbdjnkomoaaK3
namespace Go.Dat

variable [Tables]

/-! ### Types' rows -/

inductive TD where
  | no | sc
  | st (fs : List (TypeId × Nat))
  | ar (len : Nat) (e : TypeId) (es : Nat)
  | sl (e es bytes : Nat)
  deriving Inhabited

structure TI where
  td : TD
  n : Nat
  z : D
  deriving Inhabited

def TD.isAgg : TD → Bool
  | .st _ => true
  | .ar _ _ _ => true
  | _ => false

def D.isAgg : D → Bool
  | .st _ => true
  | .arr _ _ => true
  | _ => false

def TD.says (P : Program) (T : TypeId) : TD → Prop
  | .no => True
  | .sc => ∃ d, P.underlying T = some d ∧ (match d with | .struct _ | .array _ _ => false | _ => true) = true
  | .st fs => ∃ F, P.underlying T = some (.struct F) ∧ F.toList.map (fun f => (f.type, f.offset)) = fs ∧ ∀ f ∈ F.toList, P.cellsOf f.type ≠ 0
  | .ar len e es => P.underlying T = some (.array len e) ∧ ∃ i, P.info? e = some i ∧ i.size = es
  | .sl e es bytes => P.underlying T = some (.slice e) ∧ ∃ i z, P.info? e = some i ∧ i.size = es ∧ i.bytes = bytes ∧ i.zero = some z ∧ z.cells.size = es ∧ 0 < es

structure TI.ok (P : Program) (T : TypeId) (ti : TI) : Prop where
  info : ∃ i v, P.info? T = some i ∧ i.size = ti.n ∧ i.zero = some v ∧ v.cells.toList = ti.z.flat ∧ VC ti.z v ti.z.flat ∧ ti.z.konst = true
  says : ti.td.says P T

def TI.known (ti : TI) : Bool := match ti.td with | .no => false | _ => true

/-- A table of types. -/
def Agree (P : Program) (Θ : TypeId → TI) : Prop := ∀ T, (Θ T).known = true → (Θ T).ok P T

def TI.fits (ti : TI) (x : D) : Bool := ti.known && (x.isAgg == ti.td.isAgg) && (x.size == ti.n)

variable {P : Program} {Θ : TypeId → TI} {n : Nat} {ρ ρ' : Nat → Tag} {w w' : World} {E : Nat → Slot} {t : Nat} {u : Value}

omit [Tables] in
theorem isAgg_run {T : TypeId} {ti : TI} (h : ti.ok P T) (hk : ti.known = true) : (isAgg T).run P w = .ok ti.td.isAgg w := by
  have hs := h.says
  unfold isAgg
  cases htd : ti.td with
  | no => simp [TI.known, htd] at hk
  | sc =>
    rw [htd] at hs
    obtain ⟨d, h1, h2⟩ := hs
    rw [Sem.run_bind, run_underlying h1]
    cases d <;> simp_all [TD.isAgg]
  | st fs =>
    rw [htd] at hs
    obtain ⟨F, h1, _⟩ := hs
    rw [Sem.run_bind, run_underlying h1]
    rfl
  | ar len e es =>
    rw [htd] at hs
    rw [Sem.run_bind, run_underlying hs.1]
    rfl
  | sl e es b =>
    rw [htd] at hs
    rw [Sem.run_bind, run_underlying hs.1]
    rfl

omit [Tables] in
theorem sizeOf_run {T : TypeId} {ti : TI} (h : ti.ok P T) : (sizeOf T).run P w = .ok ti.n w := by
  obtain ⟨i, v, h1, h2, _⟩ := h.info
  simp [sizeOf, typeInfo, h1, h2]

omit [Tables] in
theorem VC.ofOne {x : D} {v : Value} (h : x.isAgg = false) : VC x v [v] := by
  cases x <;> simp [D.isAgg] at h <;> rfl

omit [Tables] in
theorem VC.ofAgg {x : D} {cs : List Value} (h : x.isAgg = true) : VC x (.agg cs.toArray) cs := by
  cases x <;> simp [D.isAgg] at h <;> rfl

omit [Tables] in
/-- A variable is loaded. -/
theorem loadVar_run {T : TypeId} {x : D} {cs : List Value} {b o : Nat} (h : Agree P Θ) (hf : (Θ T).fits x = true) (hl : cs.length = x.size) (hm : Mem w b o cs) :
    ∃ u, VC x u cs ∧ (loadVar T ⟨b, o, none⟩).run P w = .ok u w := by
  simp only [TI.fits, Bool.and_eq_true, beq_iff_eq] at hf
  obtain ⟨⟨hk, ha⟩, hn⟩ := hf
  have hok := h T hk
  unfold loadVar
  rw [Sem.run_bind, isAgg_run hok hk, Result.andThen_ok]
  cases hx : (Θ T).td.isAgg with
  | true =>
    refine ⟨.agg cs.toArray, VC.ofAgg (by rw [ha, hx]), ?_⟩
    have hc := run_loadCells_list (P := P) w ⟨b, o, none⟩ cs (Mem.at hm)
    simp [sizeOf_run hok, ← hn, ← hl, hc]
  | false =>
    have hs : x.size = 1 := by cases x <;> first | rfl | (simp [D.isAgg, hx] at ha)
    obtain ⟨v, rfl⟩ : ∃ v, cs = [v] := by
      match cs, hl with
      | [v], _ => exact ⟨v, rfl⟩
      | [], h => simp [hs] at h
      | _ :: _ :: _, h => simp [hs] at h
    refine ⟨v, VC.ofOne (by rw [ha, hx]), ?_⟩
    simp [hm.1]

/-! ### What an operation yields -/

/-- o, from such a frame, yields what s says for slot t, in grown memory. -/
def Yields (P : Program) (o : Oper) (a : Act) (ρ : Nat → Tag) (w : World) (E : Nat → Slot) (t : Nat) (s : Slot) : Prop :=
  ∀ (Q : Exit → Act → World → Prop) (K : Act → World → Prop), (∀ v ρ' w', Grow ρ w ρ' w' → RS ρ' w' a.tmps E t v s → K (a.put o.dst v) w') → o.wp P a w K Q

omit [Tables] in
theorem Yields.val {o : Oper} {a : Act} {s : Slot} {v : Value} (h : (execOp a.eval o).run P w = .ok (.value v) w') (g : Grow ρ w ρ' w') (hs : RS ρ' w' a.tmps E t v s) :
    Yields P o a ρ w E t s := by
  intro Q K hK
  unfold Oper.wp
  rw [h]
  exact hK v ρ' w' g hs

theorem Yields.pure {o : Oper} {a : Act} {s : Slot} {v : Value} (hI : Inv n ρ w a.tmps E) (h : (execOp a.eval o).run P w = .ok (.value v) w) (hs : RS ρ w a.tmps E t v s) :
    Yields P o a ρ w E t s := .val h (.refl hI.lt) hs

def BinV (P : Program) (op : BinOp) (T : TypeId) (x y : Operand) (a b z : Value) : Prop :=
  ∀ w, (do eqGuard op T x y a b; binOp op T a b : Sem Value).run P w = .ok z w

/-- The parts of a struct that is built: the fields named, the others as at the zero. -/
def built : List D → List (Nat × D) → List D
  | zs, [] => zs
  | zs, (i, x) :: r => built (zs.set i x) r

inductive OpDs (E : Nat → Slot) : List Operand → List D → Prop
  | nil : OpDs E [] []
  | cons {o x os xs} : OpD E o x → OpDs E os xs → OpDs E (o :: os) (x :: xs)

theorem OpDs.sound {a : Act} {os : List Operand} {xs : List D} (hI : Inv n ρ w a.tmps E) (h : OpDs E os xs) : Rpv (sh ρ) w xs (os.map a.eval) := by
  induction h with
  | nil => simp [Rpv]
  | cons h1 _ ih =>
    simp only [List.map_cons, Rpv]
    obtain ⟨cs, h2, h3⟩ := h1.sound hI
    exact ⟨_, _, cs, rfl, h2, h3, ih⟩

omit [Tables] in
theorem OpDs.stable {E' : Nat → Slot} {os : List Operand} {xs : List D} (h : OpDs E os xs) (hE : ∀ t ∈ os.flatMap operand, E' t = E t) : OpDs E' os xs := by
  induction h with
  | nil => exact .nil
  | cons h1 _ ih =>
    simp only [List.flatMap_cons, List.mem_append] at hE
    exact .cons (h1.stable fun t ht => hE t (.inl ht)) (ih fun t ht => hE t (.inr ht))

omit [Tables] in
theorem Rpv.app {S : Nat → Prop} : ∀ {xs ys : List D} {us vs : List Value}, Rpv S w xs us → Rpv S w ys vs → Rpv S w (xs ++ ys) (us ++ vs)
  | [], _, _, _, h, k => by simp only [Rpv] at h; subst h; simpa using k
  | x :: xs, ys, us, vs, h, k => by
    simp only [Rpv] at h
    obtain ⟨u, y, cs, rfl, h1, h2, h3⟩ := h
    simp only [List.cons_append, Rpv]
    exact ⟨u, _, cs, rfl, h1, h2, Rpv.app h3 k⟩

def Callable (P : Program) (f : FuncId) : Prop := ∃ fn, P.funcs[f]? = some fn ∧ (fn.name == "runtime.NumGoroutine") = false ∧ fn.body.isNone = false

omit [Tables] in
theorem callFunc_run {f : FuncId} {args : Array Value} (h : Callable P f) : (callFunc f args).run P w = .ok (.enter f args) w := by
  obtain ⟨fn, h1, h2, h3⟩ := h
  simp only [callFunc, Sem.run_bind, run_program, Result.andThen_ok, h1, h2, h3, Bool.false_eq_true, if_false, Sem.run_pure]

omit [Tables] in
/-- What a function value is called with. -/
theorem callValue_run {o : Oper} {a : Act} {x : Operand} {args : Array Operand} {ts : Array TypeId} {f : FuncId} {first cap : Array Value}
    (ho : o.op = .call { callee := .value x, args := args, argTypes := ts }) (hx : a.eval x = .func (.func f) first cap) (hf : Callable P f) :
    (execOp a.eval o).run P w = .ok (.enter f (first ++ args.map a.eval ++ cap)) w := by
  simp [execOp, ho, resolve, Deferred.ofValue, hx, invoke, callFunc_run hf]

end Go.Dat
