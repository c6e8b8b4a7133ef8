/- A table's rows out of a program's own facts. No conditions. -/
import Derived.Test.YtopmpbdjnkomoaaK20
namespace Go.Dat

variable [Tables]

variable {P : Program} {T : TypeId} {ti : TI}

def valOf (z : D) : Value :=
  match z with
  | .st _ => .agg z.flat.toArray
  | .arr _ _ => .agg z.flat.toArray
  | _ => z.flat.getD 0 undef

omit [Tables] in
theorem ok_of {v : Value} (h : (P.info? T).map (fun i => (i.size, i.zero)) = some (ti.n, some v)) (hz : v.cells.toList = ti.z.flat)
    (hv : v = valOf ti.z) (hk : ti.z.konst = true) (hs : ti.td.says P T) : ti.ok P T := by
  refine ⟨?_, hs⟩
  cases hi : P.info? T with
  | none => rw [hi] at h; cases h
  | some i =>
    rw [hi] at h
    simp only [Option.map_some, Option.some.injEq, Prod.mk.injEq] at h
    refine ⟨i, v, rfl, h.1, h.2, hz, ?_, hk⟩
    subst hv
    cases hq : ti.z with
    | st ds => rfl
    | arr es ds => rfl
    | v x => rfl
    | lst k es xs => rw [hq] at hk; cases k <;> cases xs <;> first | rfl | cases hk
    | _ => rw [hq] at hk; cases hk

def plainDesc : TypeDesc → Bool
  | .struct _ => false
  | .array _ _ => false
  | _ => true
omit [Tables] in
theorem says_sc {d : TypeDesc} (h : P.underlying T = some d) (hd : plainDesc d = true) : TD.says P T .sc := ⟨d, h, by cases d <;> first | rfl | cases hd⟩
omit [Tables] in
theorem says_st {F : Array Field} {fs : List (TypeId × Nat)} (h : P.underlying T = some (.struct F)) (hf : F.toList.map (fun f => (f.type, f.offset)) = fs) (hn : F.toList.all (fun f => P.cellsOf f.type != 0) = true) : TD.says P T (.st fs) :=
  ⟨F, h, hf, fun f hm => by have := List.all_eq_true.1 hn f hm; simpa using this⟩
omit [Tables] in
theorem says_ar {len e es : Nat} (h : P.underlying T = some (.array len e)) (hi : (P.info? e).map (·.size) = some es) : TD.says P T (.ar len e es) := by
  refine ⟨h, ?_⟩
  cases hq : P.info? e with
  | none => rw [hq] at hi; cases hi
  | some i => rw [hq] at hi; exact ⟨i, rfl, by simpa using hi⟩
omit [Tables] in
theorem says_sl {e es b : Nat} (h : P.underlying T = some (.slice e)) (hi : (P.info? e).map (fun i => (i.size, i.bytes, i.zero.map (·.cells.size))) = some (es, b, some es)) (hp : 0 < es) : TD.says P T (.sl e es b) := by
  refine ⟨h, ?_⟩
  cases hq : P.info? e with
  | none => rw [hq] at hi; cases hi
  | some i =>
    rw [hq] at hi
    simp only [Option.map_some, Option.some.injEq, Prod.mk.injEq] at hi
    obtain ⟨h1, h2, h3⟩ := hi
    cases hz : i.zero with
    | none => rw [hz] at h3; cases h3
    | some z => rw [hz] at h3; exact ⟨i, z, rfl, h1, h2, hz, by simpa using h3, hp⟩

end Go.Dat
