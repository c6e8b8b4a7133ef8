/- The operations that leave things alone, by a function: what each yields, and what it asks. No conditions. -/
import Derived.Test.YtopmpbdjnkomoaaK16
namespace Go.Dat

variable [Tables]

variable {P : Program} {Θ : TypeId → TI} {n : Nat} {E : Nat → Slot}

/-! ### Scalars -/

def binInt (op : BinOp) (k : IntKind) (a b : Int) : Option (D × Prop) :=
  match op with
  | .add => some (.v (.int k (k.wrap (a + b))), True)
  | .sub => some (.v (.int k (k.wrap (a - b))), True)
  | .mul => some (.v (.int k (k.wrap (a * b))), True)
  | .quo => some (.v (.int k (k.wrap (a.tdiv b))), b ≠ 0)
  | .rem => some (.v (.int k (a.tmod b)), b ≠ 0)
  | .and => some (.v (.int k (k.wrap (BitVec.ofInt k.bits a &&& BitVec.ofInt k.bits b).toNat)), True)
  | .or => some (.v (.int k (k.wrap (BitVec.ofInt k.bits a ||| BitVec.ofInt k.bits b).toNat)), True)
  | .xor => some (.v (.int k (k.wrap (BitVec.ofInt k.bits a ^^^ BitVec.ofInt k.bits b).toNat)), True)
  | .andNot => some (.v (.int k (k.wrap (BitVec.ofInt k.bits a &&& ~~~ BitVec.ofInt k.bits b).toNat)), True)
  | .eql => some (.v (.bool (a == b)), True)
  | .neq => some (.v (.bool (a != b)), True)
  | .lss => some (.v (.bool (decide (a < b))), True)
  | .leq => some (.v (.bool (decide (a ≤ b))), True)
  | .gtr => some (.v (.bool (decide (b < a))), True)
  | .geq => some (.v (.bool (decide (b ≤ a))), True)
  | _ => none

def binOf (op : BinOp) : D → D → Option (D × Prop)
  | .v (.int k a), .v (.int k' b) =>
    match op with
    | .shl => some (.v (.int k (k.wrap (a * 2 ^ min b.toNat k.bits))), 0 ≤ b)
    | .shr => some (.v (.int k (a.fdiv (2 ^ min b.toNat k.bits))), 0 ≤ b)
    | op => if k = k' then binInt op k a b else none
  | .v (.bool a), .v (.bool b) =>
    match op with
    | .eql => some (.v (.bool (a == b)), True)
    | .neq => some (.v (.bool (a != b)), True)
    | _ => none
  | .v (.string a), .v (.string b) =>
    match op with
    | .eql => some (.v (.bool (a.toList == b.toList)), True)
    | .neq => some (.v (.bool (!(a.toList == b.toList))), True)
    | .add => some (.v (.string (a ++ b)), a.size + b.size ≤ 9223372036854775807)
    | _ => none
  | _, _ => none

omit [Tables] in
theorem BinD.ofV {op : BinOp} {T : TypeId} {x y : Operand} {a b : Value} {z : D} {v : Value} (hz : z = .v v) (h1 : v.oneCell' = true)
    (h : ∀ w, (do eqGuard op T x y a b; binOp op T a b : Sem Value).run P w = .ok v w) : BinD P op T x y (.v a) (.v b) z := by
  intro S w u v' hu hv
  subst hz
  rw [hu.v, hv.v]
  exact ⟨v, h w, RD.ofV h1⟩

omit [Tables] in
theorem eqGuard_int {op : BinOp} {T : TypeId} {x y : Operand} {k k' : IntKind} {a b : Int} {w : World} : (eqGuard op T x y (.int k a) (.int k' b)).run P w = .ok () w := by
  unfold eqGuard; split <;> rfl
omit [Tables] in
theorem eqGuard_bool {op : BinOp} {T : TypeId} {x y : Operand} {a b : Bool} {w : World} : (eqGuard op T x y (.bool a) (.bool b)).run P w = .ok () w := by
  unfold eqGuard; split <;> rfl
omit [Tables] in
theorem eqGuard_string {op : BinOp} {T : TypeId} {x y : Operand} {a b : ByteArray} {w : World} : (eqGuard op T x y (.string a) (.string b)).run P w = .ok () w := by
  unfold eqGuard; split <;> rfl

omit [Tables] in
theorem binInt_sound {op : BinOp} {T : TypeId} {x y : Operand} {k : IntKind} {a b : Int} {z : D} {s : Prop} (h : binInt op k a b = some (z, s)) (hs : s) : BinD P op T x y (.v (.int k a)) (.v (.int k b)) z := by
  cases op <;> simp only [binInt, Option.some.injEq, Prod.mk.injEq, reduceCtorEq] at h <;> obtain ⟨rfl, rfl⟩ := h <;>
    refine BinD.ofV rfl rfl fun w => ?_ <;> rw [Sem.run_bind, eqGuard_int] <;>
    simp [binOp, Op.intArith, Op.intDiv, Op.intBits, Op.intCmp] <;> first | done | (simp at hs; simp [hs])

omit [Tables] in
theorem equalIn_bool {T : TypeId} {a b : Bool} {w : World} (h : P.underlying T = some .bool) (d : Nat) : (Op.equalIn (d + 1) T (.bool a) (.bool b)).run P w = .ok (a == b) w := by
  simp only [Op.equalIn, Sem.run_bind, run_underlying h, Result.andThen_ok, Sem.run_pure]

omit [Tables] in
theorem binOp_eql_bool {T : TypeId} {a b : Bool} {w : World} (h : P.underlying T = some .bool) : (binOp .eql T (.bool a) (.bool b)).run P w = .ok (.bool (a == b)) w := by
  show (do pure (.bool (← Op.equalIn (9999 + 1) T (.bool a) (.bool b))) : Sem Value).run P w = _
  rw [Sem.run_bind, equalIn_bool h]
  rfl

omit [Tables] in
theorem binOp_neq_bool {T : TypeId} {a b : Bool} {w : World} (h : P.underlying T = some .bool) : (binOp .neq T (.bool a) (.bool b)).run P w = .ok (.bool (a != b)) w := by
  show (do pure (.bool (!(← Op.equalIn (9999 + 1) T (.bool a) (.bool b)))) : Sem Value).run P w = _
  rw [Sem.run_bind, equalIn_bool h]
  rfl

omit [Tables] in
theorem binOf_sound {op : BinOp} {T : TypeId} {x y : Operand} {a b z : D} {s : Prop} (hT : (op = .eql ∨ op = .neq) → P.underlying T = some .bool ∨ (∀ p q, a ≠ .v (.bool p) ∨ b ≠ .v (.bool q)))
    (h : binOf op a b = some (z, s)) (hs : s) : BinD P op T x y a b z := by
  unfold binOf at h
  split at h
  · rename_i k a k' b
    split at h
    · simp only [Option.some.injEq, Prod.mk.injEq] at h
      obtain ⟨rfl, rfl⟩ := h
      refine BinD.ofV rfl rfl fun w => ?_
      rw [Sem.run_bind, eqGuard_int]
      have : ¬ b < 0 := by omega
      simp [binOp, Op.shift, this]
    · simp only [Option.some.injEq, Prod.mk.injEq] at h
      obtain ⟨rfl, rfl⟩ := h
      refine BinD.ofV rfl rfl fun w => ?_
      rw [Sem.run_bind, eqGuard_int]
      have : ¬ b < 0 := by omega
      simp [binOp, Op.shift, this]
    · split at h
      · next hk => subst hk; exact binInt_sound h hs
      · cases h
  · rename_i a b
    split at h <;> simp only [Option.some.injEq, Prod.mk.injEq, reduceCtorEq] at h
    · obtain ⟨rfl, rfl⟩ := h
      refine BinD.ofV rfl rfl fun w => ?_
      rw [Sem.run_bind, eqGuard_bool]
      exact binOp_eql_bool ((hT (by simp)).resolve_right (fun h => by have := h a b; simp at this))
    · obtain ⟨rfl, rfl⟩ := h
      refine BinD.ofV rfl rfl fun w => ?_
      rw [Sem.run_bind, eqGuard_bool]
      exact binOp_neq_bool ((hT (by simp)).resolve_right (fun h => by have := h a b; simp at this))
  · rename_i a b
    split at h <;> simp only [Option.some.injEq, Prod.mk.injEq, reduceCtorEq] at h
    · obtain ⟨rfl, rfl⟩ := h
      refine BinD.ofV rfl rfl fun w => ?_
      rw [Sem.run_bind, eqGuard_string]
      rfl
    · obtain ⟨rfl, rfl⟩ := h
      refine BinD.ofV rfl rfl fun w => ?_
      rw [Sem.run_bind, eqGuard_string]
      rfl
    · obtain ⟨rfl, rfl⟩ := h
      refine BinD.ofV rfl rfl fun w => ?_
      rw [Sem.run_bind, eqGuard_string]
      have hmax : IntKind.i64.max = 9223372036854775807 := by decide
      have : ¬ (9223372036854775807 < (a.size : Int) + (b.size : Int)) := by omega
      show (Op.stringOp .add a b).run P w = _
      simp [Op.stringOp, hmax, this]
  · cases h

end Go.Dat
