/- Strings: a byte, a part, the length; nil interfaces; functions of the library. No conditions. -/
import Derived.Test.YtopmpbdjnkomoaaK30
import Derived.Laws.Strings
import Derived.Laws.Slices
import Derived.WideLaws
import Derived.Below
namespace Go.Dat

variable [Tables]

variable {P : Program} {Θ : TypeId → TI} {n : Nat} {E E' : Nat → Slot} {w : World}

theorem Ev.strIx {o : Oper} {T : TypeId} {x ix : Operand} {s : ByteArray} {k : IntKind} {i : Int} {b : UInt8} {c1 c2 : Prop} (hu : P.underlying T = some .string) (ho : o.op = .index T x ix) (h1 : opOf E x = some (.v (.string s), c1))
    (h2 : opOf E ix = some (.v (.int k i), c2)) (h : c1 ∧ c2 ∧ 0 ≤ i ∧ s[i.toNat]? = some b) : Ev P Θ E o (.d (.v (.int .u8 b.toNat))) := by
  obtain ⟨g1, g2, g3, g4⟩ := h
  refine .plain (xs := [(x, .v (.string s)), (ix, .v (.int k i))]) (fun y hy => ?_) ?_
  · simp only [List.mem_cons, List.not_mem_nil, or_false] at hy
    rcases hy with rfl | rfl
    · exact ⟨opOf_sound h1 g1, by simp [ho, Op.operands]⟩
    · exact ⟨opOf_sound h2 g2, by simp [ho, Op.operands]⟩
  · intro S w ev _ hev
    have e1 := (hev (x, .v (.string s)) (by simp)).v
    have e2 := (hev (ix, .v (.int k i)) (by simp)).v
    simp only at e1 e2
    exact ⟨.int .u8 b.toNat, by simp [execOp, ho, e1, e2, Instr.index, asIntOf, run_underlying hu, g3, g4], RD.ofV rfl⟩

theorem Ev.strFrom {o : Oper} {T : TypeId} {x lo : Operand} {s : ByteArray} {k : IntKind} {i : Int} {c1 c2 : Prop} (hu : P.underlying T = some .string) (ho : o.op = .slice T x (some lo) none none) (h1 : opOf E x = some (.v (.string s), c1))
    (h2 : opOf E lo = some (.v (.int k i), c2)) (h : c1 ∧ c2 ∧ 0 ≤ i ∧ i ≤ s.size) : Ev P Θ E o (.d (.v (.string (s.extract i.toNat s.size)))) := by
  obtain ⟨g1, g2, g3, g4⟩ := h
  refine .plain (xs := [(x, .v (.string s)), (lo, .v (.int k i))]) (fun y hy => ?_) ?_
  · simp only [List.mem_cons, List.not_mem_nil, or_false] at hy
    rcases hy with rfl | rfl
    · exact ⟨opOf_sound h1 g1, by simp [ho, Op.operands]⟩
    · exact ⟨opOf_sound h2 g2, by simp [ho, Op.operands]⟩
  · intro S w ev _ hev
    have e1 := (hev (x, .v (.string s)) (by simp)).v
    have e2 := (hev (lo, .v (.int k i)) (by simp)).v
    simp only at e1 e2
    refine ⟨.string (s.extract i.toNat s.size), ?_, RD.ofV rfl⟩
    have hb : (Instr.sliceBounds false s.size s.size (some (.int k i)) none none).run P w = .ok (i.toNat, s.size, s.size) w := by
      simp [Instr.sliceBounds, sliceBound_run g3 (show i.toNat ≤ s.size by omega)]
    simp [execOp, ho, e1, e2, Instr.sliceAt, Instr.slice, run_underlying hu, hb]

theorem Ev.strLen {o : Oper} {x : Operand} {T : TypeId} {s : ByteArray} {c : Prop} (hu : P.underlying T = some .string) (ho : o.op = .call { callee := .builtin .len, args := #[x], argTypes := #[T] }) (h : opOf E x = some (.v (.string s), c)) (hc : c) :
    Ev P Θ E o (.d (.v (.int .i64 s.size))) :=
  .plain (xs := [(x, .v (.string s))]) (fun y hy => by
    simp only [List.mem_singleton] at hy
    subst hy
    exact ⟨opOf_sound h hc, by simp [ho, Op.operands, Call.operands]⟩) (by
    intro S w ev _ hev
    have e1 := (hev (x, .v (.string s)) (by simp)).v
    simp only at e1
    exact ⟨.int .i64 s.size, by simp [execOp, ho, resolve, invoke, builtin, Builtin.len_, e1, run_underlying hu, goInt], RD.ofV rfl⟩)

omit [Tables] in
theorem BinD.neNil {T : TypeId} {x y : Operand} (hu : P.underlying T = some (.interface (P.methodsAt T))) : BinD P .neq T x y (.dead true) (.v .nilIface) (.v (.bool true)) := by
  intro S w u v hu' hv
  obtain ⟨cs, h1, h2⟩ := hu'
  simp only [Rp] at h1
  obtain ⟨v0, rfl, h3, h4⟩ := h1
  simp only [VC] at h2
  obtain rfl : v0 = u := by simpa using h2
  obtain ⟨t, z, rfl⟩ := h4 trivial
  have e2 := hv.v
  subst e2
  refine ⟨.bool true, ?_, RD.ofV rfl⟩
  have hg : (eqGuard .neq T x y (.iface t z) .nilIface).run P w = .ok () w := by unfold eqGuard; split <;> rfl
  rw [Sem.run_bind, hg, Result.andThen_ok, run_neq_held_nil w T t z hu]

omit [Tables] in
theorem BinD.neNilNil {T : TypeId} {x : Operand} (hu : P.underlying T = some (.interface (P.methodsAt T))) : BinD P .neq T x (.const .nilIface) (.v .nilIface) (.v .nilIface) (.v (.bool false)) := by
  intro S w u v hu' hv
  have e1 := hu'.v
  have e2 := hv.v
  subst e1 e2
  refine ⟨.bool false, ?_, RD.ofV rfl⟩
  have hg : (eqGuard .neq T x (.const .nilIface) .nilIface .nilIface).run P w = .ok () w := by unfold eqGuard; simp
  rw [Sem.run_bind, hg, Result.andThen_ok, run_neq_nil_nil w T hu]

/-! ### Functions of the library -/

omit [Tables] in
theorem Rpv.vs {S : Nat → Prop} : ∀ {xs vals : List Value}, Rpv S w (xs.map D.v) vals → vals = xs
  | [], _, h => by simpa [Rpv] using h
  | x :: xs, _, h => by
    simp only [List.map_cons, Rpv] at h
    obtain ⟨u, y, cs, rfl, h1, h2, h3⟩ := h
    rw [Rpv.vs h3, RD.v ⟨cs, h1, h2⟩]

/-- Of a function over plain values, which lays at most new memory. -/
theorem DFun.lib {f : FuncId} {xs : List Value} {r : D} (hr : r.flatv = true) (h : ∀ w, Tables.holds w → Calls P f xs.toArray w fun e w' => ∃ v, e = .returned v ∧ WV w' r v ∧ Go.RowKit.Below w.heap.size w w') : DFun P f (xs.map D.v) r := by
  classical
  intro S w vals hS hT hv
  obtain rfl := Rpv.vs hv
  refine (h w hT.2).mono ?_
  rintro e w' ⟨v, rfl, h1, hb⟩
  refine ⟨v, tagS S, rfl, ⟨fun _ _ => rfl, fun b hb' => ⟨rfl, hb.block b hb'⟩, fun b hb' => ?_, hb.os, hb.tape, hb.output, hb.size⟩, ?_⟩
  · exact Nat.lt_of_lt_of_le (hS b (Classical.byContradiction fun hne => hb' (by simp [tagS, hne]))) hb.size
  · cases r with
    | tup ds =>
      obtain ⟨us, rfl, h1⟩ := h1
      refine ⟨us, rfl, RVs.flatv (ρ := tagS (All w')) (w := w') (t := 0) hr (Rpv.rvs ?_)⟩
      rw [sh_tagS]; exact h1
    | _ => exact (RD.flat hr h1).rv

/-- Branches that join: what follows is shown once. -/
theorem Run.join {R : (Nat → Slot) → Prop} {α : Type} {c : Code} {k : List Item} {l : Env} (I : α → Prop) (f : α → Env) (h1 : ∀ a, I a → Run P Θ n R k (lk (f a))) (h2 : (∀ a, I a → Run P Θ n R k (lk (f a))) → Run P Θ n R (.code c :: k) (lk l)) :
    Run P Θ n R (.code c :: k) (lk l) := h2 h1
end Go.Dat
