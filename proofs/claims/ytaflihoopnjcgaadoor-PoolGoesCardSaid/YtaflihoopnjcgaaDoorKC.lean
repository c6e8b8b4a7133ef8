/- Texts K21, K22, K23, K24, K25, K26, K27, K28, K29, K30, K31, K32, K33, K34, K35, K36 in one file. No conditions. -/
import Derived.Test.YtaflihoopnjcgaaDoorKB
import Derived.Laws.StructEq
import Derived.Lib.SliceRun
import Derived.Deep.Slices
import Derived.Below
import Derived.OpenShut
import Derived.WideShapes
import Derived.ChangeShapes
import Derived.ChangeMaps5
import Derived.RowKit
import Derived.Laws.Strings
import Derived.Laws.Slices
import Derived.WideLaws
import Derived.ChangeKeysEq

namespace Go.Dat

variable [Tables]

variable {P : Program} {T : TypeId} {ti : TI}

def valOf (z : D) : Value :=
  match z with
  | .st _ => .agg z.flat.toArray
  | .arr _ _ => .agg z.flat.toArray
  | _ => z.flat.getD 0 undef

omit [Tables] in
theorem ok_of {v : Value} (h : (P.info? T).map (fun i => (i.size, i.zero)) = some (ti.n, some v)) (hz : v.cells.toList = ti.z.flat)
    (hv : v = valOf ti.z) (hk : ti.z.konst = true) (hs : ti.td.says P T) : ti.ok P T := by
  refine ⟨?_, hs⟩
  cases hi : P.info? T with
  | none => rw [hi] at h; cases h
  | some i =>
    rw [hi] at h
    simp only [Option.map_some, Option.some.injEq, Prod.mk.injEq] at h
    refine ⟨i, v, rfl, h.1, h.2, hz, ?_, hk⟩
    subst hv
    cases hq : ti.z with
    | st ds => rfl
    | arr es ds => rfl
    | v x => rfl
    | lst k es xs => rw [hq] at hk; cases k <;> cases xs <;> first | rfl | cases hk
    | _ => rw [hq] at hk; cases hk

def plainDesc : TypeDesc → Bool
  | .struct _ => false
  | .array _ _ => false
  | _ => true
omit [Tables] in
theorem says_sc {d : TypeDesc} (h : P.underlying T = some d) (hd : plainDesc d = true) : TD.says P T .sc := ⟨d, h, by cases d <;> first | rfl | cases hd⟩
omit [Tables] in
theorem says_st {F : Array Field} {fs : List (TypeId × Nat)} (h : P.underlying T = some (.struct F)) (hf : F.toList.map (fun f => (f.type, f.offset)) = fs) (hn : F.toList.all (fun f => P.cellsOf f.type != 0) = true) : TD.says P T (.st fs) :=
  ⟨F, h, hf, fun f hm => by have := List.all_eq_true.1 hn f hm; simpa using this⟩
omit [Tables] in
theorem says_ar {len e es : Nat} (h : P.underlying T = some (.array len e)) (hi : (P.info? e).map (·.size) = some es) : TD.says P T (.ar len e es) := by
  refine ⟨h, ?_⟩
  cases hq : P.info? e with
  | none => rw [hq] at hi; cases hi
  | some i => rw [hq] at hi; exact ⟨i, rfl, by simpa using hi⟩
omit [Tables] in
theorem says_sl {e es b : Nat} (h : P.underlying T = some (.slice e)) (hi : (P.info? e).map (fun i => (i.size, i.bytes, i.zero.map (·.cells.size))) = some (es, b, some es)) (hp : 0 < es) : TD.says P T (.sl e es b) := by
  refine ⟨h, ?_⟩
  cases hq : P.info? e with
  | none => rw [hq] at hi; cases hi
  | some i =>
    rw [hq] at hi
    simp only [Option.map_some, Option.some.injEq, Prod.mk.injEq] at hi
    obtain ⟨h1, h2, h3⟩ := hi
    cases hz : i.zero with
    | none => rw [hz] at h3; cases h3
    | some z => rw [hz] at h3; exact ⟨i, z, rfl, h1, h2, hz, by simpa using h3, hp⟩

end Go.Dat

namespace Go.Dat

variable [Tables]

variable {P : Program} {Θ : TypeId → TI} {n : Nat} {E E' : Nat → Slot} {R : (Nat → Slot) → Prop} {ops : Array Oper} {ld : List Nat} {i : Nat} {os : List Oper} {k : List Item} {l : Env}

theorem Run.condT {c : Operand} {x y : Code} {s : Prop} (h : opOf (lk l) c = some (.v (.bool true), s)) (hs : s) (next : Run P Θ n R (.code x :: k) (lk l)) : Run P Θ n R (.code (.cond c x y) :: k) (lk l) :=
  .cond (b := true) (opOf_sound h hs) next
theorem Run.condF {c : Operand} {x y : Code} {s : Prop} (h : opOf (lk l) c = some (.v (.bool false), s)) (hs : s) (next : Run P Θ n R (.code y :: k) (lk l)) : Run P Θ n R (.code (.cond c x y) :: k) (lk l) :=
  .cond (b := false) (opOf_sound h hs) next
theorem Run.condB {c : Operand} {x y : Code} {s : Prop} {b : Bool} (h : opOf (lk l) c = some (.v (.bool b), s)) (hs : s) (h1 : b = true → Run P Θ n R (.code x :: k) (lk l)) (h2 : b = false → Run P Θ n R (.code y :: k) (lk l)) :
    Run P Θ n R (.code (.cond c x y) :: k) (lk l) := by
  cases b with
  | true => exact .condT h hs (h1 rfl)
  | false => exact .condF h hs (h2 rfl)

omit [Tables] in
theorem lk_same {d : Nat} {s : Slot} (h : lk l d = s) : lk ((d, s) :: l) = lk l := by
  funext u
  simp only [lk]
  by_cases hu : d = u
  · subst hu; simp [h]
  · simp [hu]

theorem OpsAt.br {o : Oper} {j d : Nat} {want b : Bool} (_hg : o.guard = some (j, want)) (_h : (ops[j]?).bind (·.dst) = some d) (hE : lk l d = .d (.v (.bool b)))
    (h1 : b = true → OpsAt P Θ n R ops ld i (o :: os) k (lk ((d, .d (.v (.bool true))) :: l))) (h2 : b = false → OpsAt P Θ n R ops ld i (o :: os) k (lk ((d, .d (.v (.bool false))) :: l))) :
    OpsAt P Θ n R ops ld i (o :: os) k (lk l) := by
  cases b with
  | true => have := h1 rfl; rwa [lk_same hE] at this
  | false => have := h2 rfl; rwa [lk_same hE] at this

/-- A test's slot, told as true or false. -/
theorem OpsAt.test {d : Nat} {b : Bool} (hE : lk l d = .d (.v (.bool b)))
    (h1 : b = true → OpsAt P Θ n R ops ld i os k (lk ((d, .d (.v (.bool true))) :: l))) (h2 : b = false → OpsAt P Θ n R ops ld i os k (lk ((d, .d (.v (.bool false))) :: l))) :
    OpsAt P Θ n R ops ld i os k (lk l) := by
  cases b with
  | true => have := h1 rfl; rwa [lk_same hE] at this
  | false => have := h2 rfl; rwa [lk_same hE] at this

/-- A slot's datum in other words. -/
theorem OpsAt.say {d : Nat} {x y : D} (hE : lk l d = .d x) (h : x = y) (next : OpsAt P Θ n R ops ld i os k (lk ((d, .d y) :: l))) : OpsAt P Θ n R ops ld i os k (lk l) := by
  subst h; rwa [lk_same hE] at next
theorem Run.say {d : Nat} {x y : D} (hE : lk l d = .d x) (h : x = y) (next : Run P Θ n R k (lk ((d, .d y) :: l))) : Run P Θ n R k (lk l) := by
  subst h; rwa [lk_same hE] at next
theorem Run.sayB {d : Nat} {x y : D} (hE : lk l d = .box x) (h : x = y) (next : Run P Θ n R k (lk ((d, .box y) :: l))) : Run P Θ n R k (lk l) := by
  subst h; rwa [lk_same hE] at next
theorem OpsAt.sayB {d : Nat} {x y : D} (hE : lk l d = .box x) (h : x = y) (next : OpsAt P Θ n R ops ld i os k (lk ((d, .box y) :: l))) : OpsAt P Θ n R ops ld i os k (lk l) := by
  subst h; rwa [lk_same hE] at next

theorem Ends.tmpE {fn : Func} {t : Nat} {x r : D} (h : fn.results = #[.tmp t]) (hE : E t = .d x) (hx : x = r) : Ends P fn r E := hx ▸ .tmp h hE
theorem Ends.viewE {fn : Func} {t s : Nat} {nl e es xs r} (h : fn.results = #[.tmp t]) (hE : E t = .view s []) (hs : E s = .d (.own nl e es xs)) (hx : .own nl e es xs = r) : Ends P fn r E := hx ▸ .view h hE hs
theorem Ends.tupE {fn : Func} {ds : List D} {c : Prop} {r : D} (hΘ : Agree P Θ) (h : resOf Θ E fn.results.toList = some (ds, c)) (hc : c) (h1 : (ds.length == 1) = false) (hx : .tup ds = r) : Ends P fn r E := hx ▸ .tup hΘ h hc h1
theorem Ends.cellE {fn : Func} {a : Nat} {T : TypeId} {s p x r} (hΘ : Agree P Θ) (h : fn.results = #[.cell a T]) (hE : adrOf E a = some (s, p, x)) (hf : ((Θ T).fits (x.get p) && (x.get p).pl) = true) (hx : x.get p = r) : Ends P fn r E := hx ▸ .cell hΘ h hE hf

end Go.Dat

namespace Go.Dat

variable [Tables]

variable {P : Program} {Θ : TypeId → TI} {n : Nat} {E E' : Nat → Slot} {R : (Nat → Slot) → Prop} {ops : Array Oper} {ld : List Nat} {i : Nat} {os : List Oper} {k : List Item} {l l' : Env}

theorem Run.at {todo : List Item} (h : l = l') (next : Run P Θ n R todo (lk l')) : Run P Θ n R todo (lk l) := h ▸ next

/-- A loop: I says what holds of the ghost a at a round's head, f what the slots hold. -/
theorem Run.loopL {α : Type} {x : Code} (I : α → Prop) (f : α → Env) (μ : α → Nat) (a : α) (h0 : I a)
    (h : ∀ a, I a → (∀ a', I a' → μ a' < μ a → Run P Θ n R (.inLoop x :: k) (lk (f a'))) → Run P Θ n R (.code x :: .inLoop x :: k) (lk (f a))) : Run P Θ n R (.code (.loop x) :: k) (lk (f a)) := by
  have key : ∀ m a, μ a = m → I a → Run P Θ n R (.code x :: .inLoop x :: k) (lk (f a)) := by
    intro m
    induction m using Nat.strongRecOn with
    | _ m ih =>
      intro a hm hI
      exact h a hI fun a' hI' hlt => .inLoop (ih (μ a') (hm ▸ hlt) a' rfl hI')
  exact .loop (key _ a rfl h0)

/-- A nil slice is one of the frame's own. -/
theorem Run.ownNil {todo : List Item} (s e es : Nat) {es' : Nat} (hE : lk l s = .d (.lst .nl es' [])) (h : Run P Θ n R todo (lk ((s, .d (.own true e es [])) :: l))) : Run P Θ n R todo (lk l) := by
  refine .ghost (fun ρ w tmps hI => ?_) h
  refine ⟨ρ, Fr.refl _ _, hI.size, hI.lt, hI.tab, fun u => ?_⟩
  by_cases hu : s = u
  · subst hu
    simp only [lk, if_true]
    have h1 := hI.slot s
    rw [hE] at h1
    obtain ⟨cs, h2, h3⟩ := (RV.plain (x := .lst .nl es' []) rfl).1 h1
    simp only [Rp] at h2
    obtain ⟨a, l0, c, rfl, h4, _⟩ := h2
    simp only [Hdr] at h4
    obtain ⟨rfl, rfl, rfl, _⟩ := h4
    simp only [VC] at h3
    have hv : tmps.getD s undef = .slice none 0 0 := by simpa using h3.symm
    rw [hv]
    exact RV.ofOwn ⟨[], World.ownsRow_nil w 0 e es, by simp [Rpa], by simp, by simp [Value.ownBlock]⟩
  · simp only [lk, hu, if_false]
    refine (hI.slot u).keep hI (fun b hb => ⟨hb, rfl⟩) (fun b r hb => ⟨hb, rfl⟩) (fun b hb => ⟨hb, rfl⟩) (fun s' hs' => ?_) (.inr ⟨fun _ _ => rfl, Nat.le_refl _⟩)
    have how := hI.refOwner hs'
    have h1 : s ≠ s' := by rintro rfl; rw [hE] at how; simp [owner] at how
    exact ⟨by simp [h1], rfl, fun _ _ => rfl⟩

omit [Tables] in
theorem wrap64_in (x : Int) (h : -9223372036854775808 ≤ x ∧ x ≤ 9223372036854775807) : IntKind.i64.wrap x = x := by
  simp only [IntKind.wrap, IntKind.bits, IntKind.signed]
  simp
  omega

omit [Tables] in
theorem getD_pre {pre post : List D} {x d : D} : (pre ++ x :: post).getD pre.length d = x := by simp

end Go.Dat

namespace Go.Dat

variable [Tables]

variable {P : Program} {Θ : TypeId → TI} {n : Nat} {E E' : Nat → Slot} {w : World}

/-- What two data of a type are told to be, the same or not. -/
def EqT (P : Program) (d : Nat) (T : TypeId) (a b : D) (r : Bool) : Prop := ∀ (S : Nat → Prop) w u v, RD S w a u → RD S w b v → (Op.equalIn d T u v).run P w = .ok r w

omit [Tables] in
theorem EqT.int {d : Nat} {T : TypeId} {k k0 : IntKind} {x y : Int} (h : P.underlying T = some (.int k0)) : EqT P (d + 1) T (.v (.int k x)) (.v (.int k y)) (x == y) := by
  intro S w u v hu hv
  rw [hu.v, hv.v]
  exact run_equalIn_int w d T k k0 x y h
omit [Tables] in
theorem EqT.bool {d : Nat} {T : TypeId} {x y : Bool} (h : P.underlying T = some .bool) : EqT P (d + 1) T (.v (.bool x)) (.v (.bool y)) (x == y) := by
  intro S w u v hu hv
  rw [hu.v, hv.v]
  exact run_equalIn_bool w d T x y h
omit [Tables] in
theorem EqT.string {d : Nat} {T : TypeId} {x y : ByteArray} (h : P.underlying T = some .string) : EqT P (d + 1) T (.v (.string x)) (.v (.string y)) (x.toList == y.toList) := by
  intro S w u v hu hv
  rw [hu.v, hv.v]
  exact run_equalIn_string w d T x y h

omit [Tables] in
theorem part_run {S : Nat → Prop} {T : TypeId} {a : D} {p c q : List Value} (hΘ : Agree P Θ) (hf : (Θ T).fits a = true) (h : Rp S w a c) : ∃ u, (part T (p ++ (c ++ q)).toArray p.length).run P w = .ok u w ∧ RD S w a u := by
  have hl := Rp.len _ h
  simp only [TI.fits, Bool.and_eq_true, beq_iff_eq] at hf
  obtain ⟨⟨hk, ha⟩, hn⟩ := hf
  have hok := hΘ T hk
  unfold part
  rw [Sem.run_bind, isAgg_run hok hk, Result.andThen_ok]
  cases hx : (Θ T).td.isAgg with
  | true =>
    refine ⟨.agg c.toArray, ?_, c, h, VC.ofAgg (by rw [ha, hx])⟩
    simp [sizeOf_run hok, ← hn, ← hl]
  | false =>
    have hs : a.size = 1 := by cases a <;> first | rfl | (simp [D.isAgg, hx] at ha)
    rw [hs] at hl
    match c, hl with
    | [v], _ => exact ⟨v, by simp, [v], h, VC.ofOne (by rw [ha, hx])⟩

inductive EqFs (P : Program) (Θ : TypeId → TI) (d : Nat) : Nat → List (TypeId × Nat) → List D → List D → Bool → Prop
  | nil {o} : EqFs P Θ d o [] [] [] true
  | cons {o T fs a as b bs r1 r2} : ((Θ T).fits a && ((Θ T).fits b && (a.size == b.size))) = true → EqT P d T a b r1 → EqFs P Θ d (o + a.size) fs as bs r2 → EqFs P Θ d o ((T, o) :: fs) (a :: as) (b :: bs) (r1 && r2)

omit [Tables] in
theorem EqFs.run {S : Nat → Prop} (hΘ : Agree P Θ) {d : Nat} : ∀ {F : List Field} {o : Nat} {fs : List (TypeId × Nat)} {as bs : List D} {r : Bool} {p q c c' : List Value}, EqFs P Θ d o fs as bs r → F.map (fun f => (f.type, f.offset)) = fs → (∀ f ∈ F, f.name ≠ "_") →
    p.length = o → q.length = o → Rps S w as c → Rps S w bs c' → (Op.eqFields d (p ++ c).toArray (q ++ c').toArray F).run P w = .ok r w := by
  intro F
  induction F with
  | nil =>
    intro o fs as bs r p q c c' h hF hn hp hq h1 h2
    simp only [List.map_nil] at hF
    subst hF
    cases h
    simp [Op.eqFields]
  | cons f F ih =>
    intro o fs as bs r p q c c' h hF hn hp hq h1 h2
    subst hF
    cases h with
    | @cons _ _ _ a as b bs r1 r2 hf he hr =>
    simp only [Rps] at h1 h2
    obtain ⟨x1, y1, rfl, g1, g2⟩ := h1
    obtain ⟨x2, y2, rfl, g3, g4⟩ := h2
    simp only [Bool.and_eq_true, beq_iff_eq] at hf
    obtain ⟨hf1, hf2, hf3⟩ := hf
    obtain ⟨u, e1, e2⟩ := part_run (p := p) (q := y1) hΘ hf1 g1
    obtain ⟨v, e3, e4⟩ := part_run (p := q) (q := y2) hΘ hf2 g3
    have hnm := hn f (by simp)
    rw [hp] at e1
    rw [hq] at e3
    simp only [Op.eqFields, hnm, ne_eq, not_false_eq_true, if_true, Sem.run_bind, e1, e3, Result.andThen_ok, he S w u v e2 e4]
    cases r1 with
    | false => simp
    | true =>
      have := ih (p := p ++ x1) (q := q ++ x2) (c := y1) (c' := y2) hr rfl (fun f hf => hn f (by simp [hf])) (by simp [hp, Rp.len _ g1]) (by simp [hq, Rp.len _ g3, hf3]) g2 g4
      simp only [List.append_assoc] at this
      simpa using this

omit [Tables] in
theorem EqT.st {d : Nat} {T : TypeId} {fs : List (TypeId × Nat)} {as bs : List D} {r : Bool} (hΘ : Agree P Θ) (ht : (Θ T).td = .st fs) (hp : P.stoodInHeld T = false) (hn : ((P.fieldsOf T).toList.all fun f => f.name != "_") = true)
    (h : EqFs P Θ d 0 fs as bs r) : EqT P (d + 1) T (.st as) (.st bs) r := by
  intro S w u v hu hv
  obtain ⟨c, h1, h2⟩ := hu
  obtain ⟨c', h3, h4⟩ := hv
  simp only [VC] at h2 h4
  subst h2 h4
  simp only [Rp] at h1 h3
  obtain ⟨F, g1, g2, _⟩ := hΘ.says ht
  have hF : P.fieldsOf T = F := by simp [Program.fieldsOf, g1]
  rw [run_equalIn_struct w d T _ _ (by rw [hF, g1]) hp, hF]
  have := EqFs.run (p := []) (q := []) hΘ h g2 (fun f hf => by rw [hF] at hn; simpa using List.all_eq_true.1 hn f hf) rfl rfl h1 h3
  simpa using this

omit [Tables] in
theorem BinD.eqSt {T : TypeId} {x y : Operand} {as bs : List D} {r : Bool} (hg : P.eqGuardType P.depth T = false) (h : EqT P 10000 T (.st as) (.st bs) r) : BinD P .eql T x y (.st as) (.st bs) (.v (.bool r)) := by
  intro S w u v hu hv
  have h0 := h S w u v hu hv
  obtain ⟨c, h1, h2⟩ := hu
  obtain ⟨c', h3, h4⟩ := hv
  simp only [VC] at h2 h4
  subst h2 h4
  refine ⟨.bool r, ?_, RD.ofV rfl⟩
  rw [Sem.run_bind, run_eqGuard_agg w _ _ _ _ _ _ hg, Result.andThen_ok, run_eql_struct, h0]
  rfl
omit [Tables] in
theorem BinD.neSt {T : TypeId} {x y : Operand} {as bs : List D} {r : Bool} (hg : P.eqGuardType P.depth T = false) (h : EqT P 10000 T (.st as) (.st bs) r) : BinD P .neq T x y (.st as) (.st bs) (.v (.bool (!r))) := by
  intro S w u v hu hv
  have h0 := h S w u v hu hv
  obtain ⟨c, h1, h2⟩ := hu
  obtain ⟨c', h3, h4⟩ := hv
  simp only [VC] at h2 h4
  subst h2 h4
  refine ⟨.bool (!r), ?_, RD.ofV rfl⟩
  rw [Sem.run_bind, run_eqGuard_agg w _ _ _ _ _ _ hg, Result.andThen_ok, run_neq_struct, h0]
  rfl

theorem Ev.bins {o : Oper} {bop : BinOp} {T T2 : TypeId} {x y : Operand} {a b z : D} {c1 c2 : Prop} (ho : o.op = .binOp bop T x y T2) (h1 : opOf E x = some (a, c1)) (h2 : opOf E y = some (b, c2)) (h : c1 ∧ c2)
    (h3 : BinD P bop T x y a b z) : Ev P Θ E o (.d z) := .bin ho (opOf_sound h1 h.1) (opOf_sound h2 h.2) h3

theorem Ev.binB {o : Oper} {bop : BinOp} {T T2 : TypeId} {x y : Operand} {p q : Bool} {z : D} {c1 c2 c3 : Prop} (hu : P.underlying T = some .bool) (ho : o.op = .binOp bop T x y T2) (h1 : opOf E x = some (.v (.bool p), c1)) (h2 : opOf E y = some (.v (.bool q), c2))
    (h3 : binOf bop (.v (.bool p)) (.v (.bool q)) = some (z, c3)) (h : c1 ∧ c2 ∧ c3) : Ev P Θ E o (.d z) :=
  .bin ho (opOf_sound h1 h.1) (opOf_sound h2 h.2.1) (binOf_sound (fun _ => .inl hu) h3 h.2.2)

/-- A slice is compared with nil. -/
def nilOf : SK → Option Bool
  | .nl => some true
  | .opn => some false
  | .clip => some false
  | .any => none

omit [Tables] in
theorem BinD.eqNil {T e : TypeId} {x y : Operand} {k : SK} {es es' : Nat} {xs : List D} {r : Bool} (ht : P.underlying T = some (.slice e)) (hk : nilOf k = some r) : BinD P .eql T x y (.lst k es xs) (.lst .nl es' []) (.v (.bool r)) := by
  intro S w u v hu hv
  obtain ⟨c, h1, h2⟩ := hu
  obtain ⟨c', h3, h4⟩ := hv
  simp only [VC] at h2 h4
  simp only [Rp] at h1 h3
  obtain ⟨a, l, cp, rfl, h5, _⟩ := h1
  obtain ⟨a', l', cp', rfl, h6, _⟩ := h3
  simp only [Hdr] at h6
  obtain ⟨rfl, rfl, rfl, _⟩ := h6
  simp only [List.cons.injEq, and_true] at h2 h4
  subst h2 h4
  refine ⟨.bool r, ?_, RD.ofV rfl⟩
  have hr : a.isNone = r := by cases k <;> simp_all [nilOf, Hdr] <;> cases a <;> simp_all
  subst hr
  have hg : (eqGuard .eql T x y (.slice a l cp) (.slice none 0 0)).run P w = .ok () w := by unfold eqGuard; split <;> rfl
  rw [Sem.run_bind, hg, Result.andThen_ok]
  exact Lib.run_eql_slice_nil w T e a l cp 0 0 ht

/-! ### Contracts for slices of whatever make -/

omit [Tables] in
theorem Rpv.kinds {S : Nat → Prop} {es : Nat} {xs : List D} : ∀ {pre post : List D} {vals : List Value}, Rpv S w (pre ++ .lst .any es xs :: post) vals →
    (xs = [] ∧ Rpv S w (pre ++ .lst .nl es xs :: post) vals) ∨ Rpv S w (pre ++ .lst .opn es xs :: post) vals
  | d :: pre, post, vals, h => by
    simp only [List.cons_append, Rpv] at h ⊢
    obtain ⟨u, y, cs, rfl, h1, h2, h3⟩ := h
    rcases Rpv.kinds h3 with ⟨h4, h5⟩ | h5
    · exact .inl ⟨h4, u, y, cs, rfl, h1, h2, h5⟩
    · exact .inr ⟨u, y, cs, rfl, h1, h2, h5⟩
  | [], post, vals, h => by
    simp only [List.nil_append, Rpv] at h ⊢
    obtain ⟨u, y, cs, rfl, ⟨a, l, c, h1, h2, h3⟩, h4, h5⟩ := h
    simp only [Hdr] at h2
    cases a with
    | none =>
      obtain ⟨h6, h7, h8⟩ := h2
      obtain ⟨rfl, rfl⟩ := h8 rfl
      have : xs = [] := List.eq_nil_of_length_eq_zero h6.symm
      exact .inl ⟨this, u, y, cs, rfl, ⟨none, 0, 0, h1, by simp [Hdr, this], h3⟩, h4, h5⟩
    | some ad => exact .inr ⟨u, y, cs, rfl, ⟨some ad, l, c, h1, ⟨rfl, h2.1, h2.2.1⟩, h3⟩, h4, h5⟩

theorem DFun.kinds {f : FuncId} {pre post : List D} {es : Nat} {xs : List D} {r : D} (h1 : xs = [] → DFun P f (pre ++ .lst .nl es xs :: post) r) (h2 : DFun P f (pre ++ .lst .opn es xs :: post) r) :
    DFun P f (pre ++ .lst .any es xs :: post) r := by
  intro S w vals hS hT hv
  rcases Rpv.kinds hv with ⟨h3, h4⟩ | h4
  · exact h1 h3 S w vals hS hT h4
  · exact h2 S w vals hS hT h4

/-! ### Slice expressions -/

theorem Ev.bs {o : Oper} {T len e es b : Nat} {parts : Array (Nat × Operand)} {xs : List D} {c : Prop} (ho : o.op = .buildSlice T len parts) (hx : opsOf E (parts.toList.map (·.2)) = some (xs, c)) (ht : (Θ T).td = .sl e es b)
    (hb : bsOk (parts.toList.map (·.1)) len es xs = true) (hc : c) : Ev P Θ E o (.d (.lst .any es xs)) := by
  simp only [bsOk, Bool.and_eq_true, beq_iff_eq, List.all_eq_true, decide_eq_true_eq] at hb
  exact .buildShared ho (opsOf_sound hx hc) hb.1.1 ht hb.1.2 hb.2

def bndOf (E : Nat → Slot) : Option Operand → Nat → Option (Nat × Prop)
  | none, d => some (d, True)
  | some x, _ => match opOf E x with
    | some (.v (.int _ v), s) => some (v.toNat, s ∧ 0 ≤ v)
    | _ => none

omit [Tables] in
theorem bndOf_sound {x d i c} (h : bndOf E x d = some (i, c)) (hc : c) : Bnd E x d i := by
  cases x with
  | none => cases h; exact .no
  | some x =>
    simp only [bndOf] at h
    split at h
    · next k v s h1 => cases h; exact .at (opOf_sound h1 hc.1) hc.2
    · cases h

/-- Of a slice of the frame's own. -/
theorem Ev.subV {o : Oper} {T : TypeId} {k : Nat} {lo hi : Option Operand} {s p nl e es xs e' b i j} {c1 c2 : Prop} (ho : o.op = .slice T (.tmp k) lo hi none) (hv : vwOf E k = some (s, p, nl, e, es, xs)) (ht : (Θ T).td = .sl e' es b)
    (h1 : bndOf E lo 0 = some (i, c1)) (h2 : bndOf E hi xs.length = some (j, c2)) (h : c1 ∧ c2 ∧ i ≤ j ∧ j ≤ xs.length) : Ev P Θ E o (.sub s p i j) :=
  .subView ho (vwOf_sound hv) ht (bndOf_sound h1 h.1) (bndOf_sound h2 h.2.1) h.2.2.1 h.2.2.2

omit [Tables] in
theorem Hdr.any {k : SK} {a : Option Addr} {l c n : Nat} (h : Hdr k a l c n) : l = n ∧ n ≤ c ∧ (a = none → l = 0 ∧ c = 0) := by
  cases k with
  | nl => obtain ⟨rfl, rfl, rfl, rfl⟩ := h; simp
  | opn => obtain ⟨h1, rfl, h3⟩ := h; exact ⟨rfl, h3, fun h => by rw [h] at h1; cases h1⟩
  | clip => obtain ⟨h1, rfl, h3⟩ := h; exact ⟨rfl, by omega, fun h => by rw [h] at h1; cases h1⟩
  | any => exact h

omit [Tables] in
theorem Ev.subL_ {S : Nat → Prop} {w : World} {es : Nat} : ∀ {xs : List D} {a : Addr} (i j : Nat), Rpx S w es a xs → Rpx S w es ⟨a.block, a.off + es * i, none⟩ ((xs.take j).drop i)
  | [], a, i, j, _ => by simp [Rpx]
  | x :: xs, a, i, 0, _ => by simp [Rpx]
  | x :: xs, a, 0, j + 1, h => by
    simp only [Rpx] at h
    obtain ⟨c, h1, h2, h3, h4, h5, h6⟩ := h
    have := Ev.subL_ (xs := xs) 0 j h6
    simp only [List.take_succ_cons, List.drop_zero, Rpx, Nat.mul_zero, Nat.add_zero] at this ⊢
    exact ⟨c, h1, trivial, h3, h4, h5, this⟩
  | x :: xs, a, i + 1, j + 1, h => by
    simp only [Rpx] at h
    obtain ⟨c, h1, h2, h3, h4, h5, h6⟩ := h
    have := Ev.subL_ (xs := xs) i j h6
    simp only [List.take_succ_cons, List.drop_succ_cons]
    have e : a.off + es * (i + 1) = a.off + es + es * i := by rw [Nat.mul_succ]; omega
    rw [e]
    exact this

/-- Of a shared one. -/
theorem Ev.subL {o : Oper} {T : TypeId} {x : Operand} {lo hi : Option Operand} {k es xs e' b i j} {c0 c1 c2 : Prop} (hΘ : Agree P Θ) (ho : o.op = .slice T x lo hi none) (hx : opOf E x = some (.lst k es xs, c0)) (ht : (Θ T).td = .sl e' es b)
    (h1 : bndOf E lo 0 = some (i, c1)) (h2 : bndOf E hi xs.length = some (j, c2)) (h : c0 ∧ c1 ∧ c2 ∧ i ≤ j ∧ j ≤ xs.length) : Ev P Θ E o (.d (.lst .any es ((xs.take j).drop i))) := by
  obtain ⟨g0, g1, g2, g3, g4⟩ := h
  have hl : ∃ L : List (Operand × D), (∀ y ∈ L, OpD E y.1 y.2 ∧ y.1 ∈ o.op.operands.toList) ∧ ∀ (S : Nat → Prop) (w : World) (ev : Operand → Value), (∀ y ∈ L, RD S w y.2 (ev y.1)) → (lo = none ∧ i = 0) ∨ ∃ y k v, lo = some y ∧ ev y = .int k v ∧ 0 ≤ v ∧ v.toNat = i := by
    cases lo with
    | none => exact ⟨[], by simp, fun _ _ _ _ => .inl ⟨rfl, by simpa [bndOf] using (congrArg (·.1) (Option.some.inj h1)).symm⟩⟩
    | some y =>
      simp only [bndOf] at h1
      split at h1
      · next k' v s h3 =>
        cases h1
        exact ⟨[(y, .v (.int k' v))], by simp; exact ⟨opOf_sound h3 g1.1, by simp [ho, Op.operands]⟩, fun S w ev hev => .inr ⟨y, k', v, rfl, (hev (y, .v (.int k' v)) (by simp)).v, g1.2, rfl⟩⟩
      · cases h1
  have hh : ∃ L : List (Operand × D), (∀ y ∈ L, OpD E y.1 y.2 ∧ y.1 ∈ o.op.operands.toList) ∧ ∀ (S : Nat → Prop) (w : World) (ev : Operand → Value), (∀ y ∈ L, RD S w y.2 (ev y.1)) → (hi = none ∧ j = xs.length) ∨ ∃ y k v, hi = some y ∧ ev y = .int k v ∧ 0 ≤ v ∧ v.toNat = j := by
    cases hi with
    | none => exact ⟨[], by simp, fun _ _ _ _ => .inl ⟨rfl, by simpa [bndOf] using (congrArg (·.1) (Option.some.inj h2)).symm⟩⟩
    | some y =>
      simp only [bndOf] at h2
      split at h2
      · next k' v s h3 =>
        cases h2
        exact ⟨[(y, .v (.int k' v))], by simp; exact ⟨opOf_sound h3 g2.1, by simp [ho, Op.operands]⟩, fun S w ev hev => .inr ⟨y, k', v, rfl, (hev (y, .v (.int k' v)) (by simp)).v, g2.2, rfl⟩⟩
      · cases h2
  obtain ⟨L1, l1, l2⟩ := hl
  obtain ⟨L2, m1, m2⟩ := hh
  refine .plain (xs := (x, .lst k es xs) :: (L1 ++ L2)) (fun y hy => ?_) ?_
  · simp only [List.mem_cons, List.mem_append] at hy
    rcases hy with rfl | hy | hy
    · exact ⟨opOf_sound hx g0, by simp [ho, Op.operands]⟩
    · exact l1 y hy
    · exact m1 y hy
  · intro S w ev _ hev
    have q1 := l2 S w ev fun y hy => hev y (by simp [hy])
    have q2 := m2 S w ev fun y hy => hev y (by simp [hy])
    obtain ⟨cs, r1, r2⟩ := hev (x, .lst k es xs) (by simp)
    simp only [Rp] at r1
    obtain ⟨ad, l, cap, rfl, r3, r4⟩ := r1
    simp only [VC] at r2
    have he : ev x = .slice ad l cap := by simpa using r2.symm
    have hl := r3.any
    obtain ⟨rfl, hc, hn⟩ := hl
    have hr := slice_run (P := P) (w := w) (ad := ad) (l := xs.length) (cap := cap) (i := i) (j := j) (f := ev) (hΘ.says ht) q1 q2 g3 (by omega)
    have hlen : ((xs.take j).drop i).length = j - i := by simp; omega
    refine ⟨_, by simp only [execOp, ho, Option.map_none, Sem.run_bind]; rw [he, hr]; simp; rfl, [_], ?_, rfl⟩
    simp only [Rp]
    refine ⟨_, _, _, rfl, ⟨hlen.symm, by omega, fun h0 => ?_⟩, fun ad' had => ?_⟩
    · have : ad = none := by
        split at h0
        · exact h0
        · simpa using h0
      have := hn this
      omega
    · by_cases hci : cap = i
      · rw [if_pos hci] at had
        have : (xs.take j).drop i = [] := List.eq_nil_of_length_eq_zero (by rw [hlen]; omega)
        rw [this]
        simp [Rpx]
      · rw [if_neg hci] at had
        cases ad with
        | none => simp at had
        | some ad =>
          simp only [Option.map_some, Option.some.injEq] at had
          have hx2 := Ev.subL_ i j (r4 ad rfl)
          by_cases he2 : (xs.take j).drop i = []
          · rw [he2]; simp [Rpx]
          · have hsp : ad.spot = none := by
              cases xs with
              | nil => simp at he2
              | cons y xs => have := r4 ad rfl; simp only [Rpx] at this; obtain ⟨_, _, h, _⟩ := this; exact h
            have : ad' = ⟨ad.block, ad.off + es * i, none⟩ := by
              rw [← had]
              unfold Addr.add
              obtain ⟨bb, oo, sp⟩ := ad
              simp only at hsp
              subst hsp
              split
              · next h0 => rw [Nat.mul_comm es i, h0]; simp
              · simp [Nat.mul_comm]
            rw [this]
            exact hx2

/-! ### min, max, conversions of integers -/

theorem Ev.max2 {o : Oper} {x y : Operand} {ts : Array TypeId} {k : IntKind} {a b : Int} {c1 c2 : Prop} (ho : o.op = .call { callee := .builtin .max, args := #[x, y], argTypes := ts }) (h1 : opOf E x = some (.v (.int k a), c1)) (h2 : opOf E y = some (.v (.int k b), c2))
    (h : c1 ∧ c2) : Ev P Θ E o (.d (.v (.int k (if b > a then b else a)))) := by
  refine .plain (xs := [(x, .v (.int k a)), (y, .v (.int k b))]) (fun z hz => ?_) ?_
  · simp only [List.mem_cons, List.not_mem_nil, or_false] at hz
    rcases hz with rfl | rfl
    · exact ⟨opOf_sound h1 h.1, by simp [ho, Op.operands, Call.operands]⟩
    · exact ⟨opOf_sound h2 h.2, by simp [ho, Op.operands, Call.operands]⟩
  · intro S w ev _ hev
    have e1 := (hev (x, .v (.int k a)) (by simp)).v
    have e2 := (hev (y, .v (.int k b)) (by simp)).v
    exact ⟨.int k (if b > a then b else a), by simp [execOp, ho, resolve, invoke, builtin, Builtin.max_, Builtin.max2, e1, e2], RD.ofV rfl⟩
theorem Ev.min2 {o : Oper} {x y : Operand} {ts : Array TypeId} {k : IntKind} {a b : Int} {c1 c2 : Prop} (ho : o.op = .call { callee := .builtin .min, args := #[x, y], argTypes := ts }) (h1 : opOf E x = some (.v (.int k a), c1)) (h2 : opOf E y = some (.v (.int k b), c2))
    (h : c1 ∧ c2) : Ev P Θ E o (.d (.v (.int k (if b < a then b else a)))) := by
  refine .plain (xs := [(x, .v (.int k a)), (y, .v (.int k b))]) (fun z hz => ?_) ?_
  · simp only [List.mem_cons, List.not_mem_nil, or_false] at hz
    rcases hz with rfl | rfl
    · exact ⟨opOf_sound h1 h.1, by simp [ho, Op.operands, Call.operands]⟩
    · exact ⟨opOf_sound h2 h.2, by simp [ho, Op.operands, Call.operands]⟩
  · intro S w ev _ hev
    have e1 := (hev (x, .v (.int k a)) (by simp)).v
    have e2 := (hev (y, .v (.int k b)) (by simp)).v
    exact ⟨.int k (if b < a then b else a), by simp [execOp, ho, resolve, invoke, builtin, Builtin.min_, Builtin.min2, e1, e2], RD.ofV rfl⟩

theorem Ev.conv {o : Oper} {x : Operand} {src dst : TypeId} {k k1 k2 : IntKind} {a : Int} {c : Prop} (ho : o.op = .convert src dst x) (h1 : opOf E x = some (.v (.int k a), c)) (hs : P.underlying src = some (.int k1)) (hd : P.underlying dst = some (.int k2)) (hc : c) :
    Ev P Θ E o (.d (.v (.int k2 (k2.wrap a)))) := by
  refine .cv ho (opOf_sound h1 hc) fun S w u hu => ?_
  rw [hu.v]
  refine ⟨.int k2 (k2.wrap a), ?_, RD.ofV rfl⟩
  simp [convert, run_underlying hs, run_underlying hd, Conv.intToInt]

theorem Ev.mkI {o : Oper} {T e es b : Nat} {l c : Operand} {kl kc : IntKind} {m m' : Int} {c1 c2 : Prop} (ho : o.op = .makeSlice T l c) (h1 : opOf E l = some (.v (.int kl m), c1)) (h2 : opOf E c = some (.v (.int kc m'), c2)) (ht : (Θ T).td = .sl e es b)
    (hk : (Θ e).known = true) (h : c1 ∧ c2 ∧ m' = m ∧ 0 ≤ m ∧ m.toNat * b ≤ 281474976710656 ∧ m.toNat ≤ maxLen) : Ev P Θ E o (.d (.own false e es (List.replicate m.toNat (Θ e).z))) := by
  obtain ⟨g1, g2, rfl, g3, g4, g5⟩ := h
  exact .mk ho (opOf_sound h1 g1) (opOf_sound h2 g2) ht hk rfl g3 g4 g5

theorem Ev.lenS {o : Oper} {k T s p i j e' es' b} (ho : o.op = .call { callee := .builtin .len, args := #[.tmp k], argTypes := #[T] }) (h : E k = .sub s p i j) (ht : (Θ T).td = .sl e' es' b) : Ev P Θ E o (.d (.v (.int .i64 ((j - i : Nat) : Int)))) := .lenSub ho h ht

theorem OpsAt.appL {R : (Nat → Slot) → Prop} {ops : Array Oper} {ld : List Nat} {i : Nat} {os : List Oper} {K : List Item} {l : Env} {d q s : Nat} {x : Operand} {T : TypeId} {sk : SK} {nl e es xs ys b} {c : Prop} {ty : TypeId} {pos : String} {af : Array Edge} (hv : vwOf (lk l) q = some (s, [], nl, e, es, xs)) (hs : lk l s = .d (.own nl e es xs))
    (hx : opOf (lk l) x = some (.lst sk es ys, c)) (ht : (Θ T).td = .sl e es b) (hd : (decide (d < n) && !owner (lk l d) && (d != s)) = true) (hi : ld.contains i = true) (hc : c)
    (hb : (xs.length + ys.length) * b ≤ 140737488355328) (hm : xs.length + ys.length ≤ maxLen)
    (next : OpsAt P Θ n R ops ld (i + 1) os K (lk ((d, .d (.own (nl && ys.isEmpty) e es (xs ++ ys))) :: (s, .un) :: killL (refersTo s) l))) :
    OpsAt P Θ n R ops ld i (⟨some d, .call { callee := .builtin .append, args := #[.tmp q, x], argTypes := #[T, T] }, ty, pos, af, none⟩ :: os) K (lk l) :=
  .app hv hs (.lst (opOf_sound hx hc)) ht hd hb hm hi next

/-- A shared slice is of whatever make. -/
theorem Run.any {R : (Nat → Slot) → Prop} {todo : List Item} {l : Env} (s : Nat) {k : SK} {es : Nat} {xs : List D} (hE : lk l s = .d (.lst k es xs)) (h : Run P Θ n R todo (lk ((s, .d (.lst .any es xs)) :: l))) : Run P Θ n R todo (lk l) := by
  refine .ghost (fun ρ w tmps hI => ⟨ρ, Fr.refl _ _, hI.size, hI.lt, hI.tab, fun u => ?_⟩) h
  by_cases hu : s = u
  · subst hu
    simp only [lk, if_true]
    have h1 := hI.slot s
    rw [hE] at h1
    obtain ⟨cs, h2, h3⟩ := (RV.plain (x := .lst k es xs) rfl).1 h1
    simp only [Rp] at h2
    obtain ⟨a, l0, c, rfl, h4, h5⟩ := h2
    exact (RV.plain (x := .lst .any es xs) rfl).2 ⟨[.slice a l0 c], by simp only [Rp]; exact ⟨a, l0, c, rfl, h4.any, h5⟩, h3⟩
  · simp only [lk, hu, if_false]
    refine (hI.slot u).keep hI (fun b hb => ⟨hb, rfl⟩) (fun b r hb => ⟨hb, rfl⟩) (fun b hb => ⟨hb, rfl⟩) (fun s' hs' => ?_) (.inr ⟨fun _ _ => rfl, Nat.le_refl _⟩)
    have how := hI.refOwner hs'
    have h1 : s ≠ s' := by rintro rfl; rw [hE] at how; simp [owner] at how
    exact ⟨by simp [h1], rfl, fun _ _ => rfl⟩

theorem Run.raw' {P : Program} {Θ : TypeId → TI} {R : (Nat → Slot) → Prop} {c : Code} {k : List Item} {l l' : Env} (h : RawCode P n c (lk l) (lk l')) (next : Run P Θ n R k (lk l')) : Run P Θ n R (.code c :: k) (lk l) := .raw h next

end Go.Dat

namespace Go.Dat

variable [Tables]

variable {P : Program} {Θ : TypeId → TI} {n : Nat} {ρ ρ' : Nat → Tag} {w w' : World} {tmps : Array Value} {E E' : Nat → Slot} {t : Nat} {u : Value}

/-- Places in elements of the own slice in slot s. -/
def isElt (s : Nat) : Slot → Bool
  | .elt s' _ _ _ => s' == s
  | .un => false
  | .no => false
  | .d _ => false
  | .box _ => false
  | .ref _ _ => false
  | .view _ _ => false
  | .sub _ _ _ _ => false
  | .wk _ => false
  | .mp _ _ => false
  | .mq _ => false

omit [Tables] in
theorem isElt_owner {s} (x : Slot) (h : isElt s x = true) : owner x = false := by cases x <;> simp_all [isElt, owner]

/-- An own slice's elements are others, as many. -/
theorem Inv.recell {s nl e es xs xs' g l c} (hI : Inv n ρ w tmps E) (hE : E s = .d (.own nl e es xs)) (hv : tmps.getD s undef = .slice (some ⟨g, 0, none⟩) l c) (hg : ρ g = .sl s []) (hheap : ∀ b, b ≠ g → w'.heap[b]? = w.heap[b]?) (hsz : w'.heap.size = w.heap.size)
    (hnew : ROwn ρ w' (.sl s []) nl e es xs' (.slice (some ⟨g, 0, none⟩) l c)) (hl : xs'.length = xs.length) : Inv n ρ w' tmps (upd (kill (isElt s) E) s (.d (.own nl e es xs'))) := by
  have hsh : ∀ b, ρ b = .sh → ρ b = .sh ∧ w'.heap[b]? = w.heap[b]? := fun b hb => ⟨hb, hheap b (by rintro rfl; rw [hg] at hb; cases hb)⟩
  have hbx : ∀ t b, ρ b = .bx t → ρ b = .bx t ∧ w'.heap[b]? = w.heap[b]? := fun t b hb => ⟨hb, hheap b (by rintro rfl; rw [hg] at hb; cases hb)⟩
  refine ⟨hI.size, fun b hb => by rw [hsz]; exact hI.lt b hb, hI.tab.mono hsh, fun u => ?_⟩
  by_cases h1' : s = u
  · subst h1'
    simp only [upd, if_true]
    rw [hv]
    exact RV.ofOwn hnew
  · simp only [upd, h1', if_false]
    by_cases hun : kill (isElt s) E u = .un
    · rw [hun]; trivial
    obtain ⟨k1, k2⟩ := kill_eq hun
    rw [k1]
    have hslot := hI.slot u
    have hown' : ∀ {p nl' e' es' xs0 v}, OwnAt w tmps E s p nl' e' es' xs0 v → p = [] ∧ nl' = nl ∧ e' = e ∧ es' = es ∧ xs0 = xs ∧
        OwnAt w' tmps (upd (kill (isElt s) E) s (.d (.own nl e es xs'))) s p nl e es xs' v := by
      intro p nl' e' es' xs0 v h
      rcases h with ⟨q1, q2, q3⟩ | ⟨x', b', q1, _⟩
      · rw [hE] at q1; cases q1
        exact ⟨q2, rfl, rfl, rfl, rfl, .inl ⟨by simp [upd], q2, q3⟩⟩
      · rw [hE] at q1; cases q1
    by_cases hr : refers (E u) = some s
    · cases hEu : E u with
      | ref s' q' =>
        rw [hEu] at hr hslot
        simp only [refers, Option.some.injEq] at hr
        subst hr
        obtain ⟨x', b', q1, _⟩ := hslot
        rw [hE] at q1; cases q1
      | view s' q' =>
        rw [hEu] at hr hslot
        simp only [refers, Option.some.injEq] at hr
        subst hr
        obtain ⟨nl', e', es', xs0, h⟩ := hslot
        exact ⟨_, _, _, _, (hown' h).2.2.2.2.2⟩
      | elt s' p' i' q' =>
        rw [hEu] at hr k2
        simp only [refers, Option.some.injEq] at hr
        subst hr
        simp [isElt] at k2
      | sub s' p' i' j' =>
        rw [hEu] at hr hslot
        simp only [refers, Option.some.injEq] at hr
        subst hr
        obtain ⟨nl', e', es', xs0, a', l', c', h, t1, t2, t3⟩ := hslot
        obtain ⟨rfl, rfl, rfl, rfl, rfl, hnew'⟩ := hown' h
        exact ⟨_, _, _, _, _, _, _, hnew', t1, by omega, t3⟩
      | mq s' =>
        rw [hEu] at hr hslot
        simp only [refers, Option.some.injEq] at hr
        subst hr
        obtain ⟨_, _, q1, _⟩ := hslot
        rw [hE] at q1; cases q1
      | _ => rw [hEu] at hr; simp [refers] at hr
    · refine hslot.keep hI hsh (fun b r hb => ⟨hb, hheap b (by rintro rfl; rw [hg] at hb; cases hb; exact h1' rfl)⟩) (hbx u) (fun s' hs' => ?_) (.inl (by rw [← k1]; exact kill_nwk))
      have h2' : s' ≠ s := by rintro rfl; exact hr hs'
      have ho' := hI.refOwner hs'
      have h4' : isElt s (E s') = false := by
        cases hb : isElt s (E s') with
        | false => rfl
        | true => have := isElt_owner _ hb; rw [this] at ho'; cases ho'
      exact ⟨by simp [upd, h2'.symm, kill, h4', isWk_owner ho'], rfl, fun b hb => (hbx s' b hb).2⟩

omit [Tables] in
theorem Rpa.ones {S : Nat → Prop} {es : Nat} : ∀ {xs : List D} {vs : List Value}, Rpa S w es xs vs → ∀ u ∈ vs, u.oneCell' = true
  | [], vs, h, u, hu => by simp only [Rpa] at h; subst h; cases hu
  | x :: xs, vs, h, u, hu => by
    simp only [Rpa] at h
    obtain ⟨c, y, rfl, _, h2, h3⟩ := h
    rcases List.mem_append.1 hu with hu | hu
    · exact Rp.one x h2 u hu
    · exact Rpa.ones h3 u hu

/-- Cells are written into a part of an own slice. -/
theorem Inv.splice {s i nl e es xs ys} {cs : List Value} (hI : Inv n ρ w tmps E) (hE : E s = .d (.own nl e es xs)) (hy : Rpa (sh ρ) w es ys cs) (hc : cs.length = ys.length * es) (hi : i + ys.length ≤ xs.length) (h0 : 0 < ys.length) :
    ∃ g l c w', tmps.getD s undef = .slice (some ⟨g, 0, none⟩) l c ∧ (storeCells ⟨g, es * i, none⟩ cs).run P w = .ok () w' ∧ Fr ρ w ρ w' ∧
      Inv n ρ w' tmps (upd (kill (isElt s) E) s (.d (.own nl e es (xs.take i ++ (ys ++ xs.drop (i + ys.length)))))) := by
  have h1 := hI.slot s
  rw [hE] at h1
  obtain ⟨cells, ⟨o1, o2⟩, o3, o4, o5⟩ := RV.own h1
  rcases o2 with ⟨_, o2⟩ | ⟨g, cap, cur, o2, _, p1, p2, p3, p4, p5⟩
  · omega
  have hg : ρ g = .sl s [] := o5 g (by rw [o2]; rfl)
  have hsp : xs = xs.take i ++ ((xs.drop i).take ys.length ++ xs.drop (i + ys.length)) := by
    rw [← List.drop_drop, List.take_append_drop, List.take_append_drop]
  have o3' := o3
  rw [hsp] at o3'
  obtain ⟨A, r, rfl, q2, q3, q4⟩ := o3'.split
  obtain ⟨M, B, rfl, q6, q7, q8⟩ := q4.split
  have hA : A.length = es * i := by rw [q2, List.length_take, Nat.min_eq_left (by omega), Nat.mul_comm]
  have hM : M.length = cs.length := by rw [q6, hc, List.length_take, List.length_drop, Nat.min_eq_left (by omega)]
  generalize hR : cur.toList.drop (xs.length * es) = R
  have hcurl : cur.toList = A ++ M ++ (B ++ R) := by
    have h := List.take_append_drop (xs.length * es) cur.toList
    rw [p5, hR] at h
    rw [← h]
    simp
  have hst := run_storeCells_at P g (es * i) e cs 0 cur w p1 (by
    have := congrArg List.length hcurl
    simp only [List.length_append, Array.length_toList] at this
    omega) (Rpa.ones hy)
  have hcells : cur.toList.take (es * i + 0) ++ cs ++ cur.toList.drop (es * i + 0 + cs.length) = A ++ cs ++ (B ++ R) := by
    rw [Nat.add_zero, ← hA, ← hM, hcurl]
    exact mid_splice _ _ _ _
  rw [hcells] at hst
  generalize hW : w.setRow g (A ++ cs ++ (B ++ R)).toArray = w' at hst
  have hheap : ∀ b, b ≠ g → w'.heap[b]? = w.heap[b]? := fun b hb => by rw [← hW]; exact setRow_other w g b _ hb
  have hnb : w'.heap[g]? = some (.cells (A ++ cs ++ (B ++ R)).toArray e (0, 0)) := by rw [← hW]; exact setRow_heap w g _ _ e _ p1
  have hsh : ∀ b, sh ρ b → sh ρ b ∧ w'.heap[b]? = w.heap[b]? := fun b hb => ⟨hb, hheap b (by rintro rfl; simp [sh, hg] at hb)⟩
  have hlen : (xs.take i ++ (ys ++ xs.drop (i + ys.length))).length = xs.length := by simp; omega
  refine ⟨g, xs.length, cap, w', o2, hst, ⟨fun _ h => h, fun _ _ h => h, fun b _ hb => hheap b (by rintro rfl; rw [hg] at hb; rcases hb with h | h <;> cases h), by rw [← hW]; rfl, by rw [← hW]; rfl, by rw [← hW]; rfl, by rw [← hW]; simp⟩, ?_⟩
  refine hI.recell hE o2 hg hheap (by rw [← hW]; simp) ?_ hlen
  refine ⟨A ++ (cs ++ B), ⟨?_, .inr ⟨g, cap, _, by rw [hlen], Nat.zero_le _, hnb, by omega, p3, ?_, ?_⟩⟩, ?_, by rw [o2] at o4; exact o4, by rw [o2] at o5; exact o5⟩
  · rw [hlen, ← o1]; simp [hM]
  · have := congrArg List.length hcurl
    simp only [List.length_append, Array.length_toList] at this
    simp only [List.size_toArray, List.length_append]
    omega
  · rw [hlen]
    have hl : (A ++ (cs ++ B)).length = xs.length * es := by rw [← o1]; simp [hM]
    rw [← hl]
    have : A ++ cs ++ (B ++ R) = (A ++ (cs ++ B)) ++ R := by simp
    simp only [this]
    exact List.take_left
  · exact Rpa.app (Rpa.mono hsh _ q3) (Rpa.app (Rpa.mono hsh _ hy) (Rpa.mono hsh _ q8))

/-- A part of an own slice, as an operand. -/
inductive Part (E : Nat → Slot) (s : Nat) (n : Nat) : Nat → Nat → Nat → Prop
  | sub {q i j} : E q = .sub s [] i j → Part E s n q i j
  | view {q} : (q = s ∨ E q = .view s []) → Part E s n q 0 n

theorem Part.sound {a : Act} {q i j s nl e es xs} (hI : Inv n ρ w a.tmps E) (hE : E s = .d (.own nl e es xs)) (h : Part E s xs.length q i j) :
    i ≤ j ∧ j ≤ xs.length ∧ ∃ ad c, a.eval (.tmp q) = .slice ad (j - i) c ∧ (i < j → ∃ g l c, a.tmps.getD s undef = .slice (some ⟨g, 0, none⟩) l c ∧ ad = some ⟨g, es * i, none⟩) := by
  have own : ∀ {v}, OwnAt w a.tmps E s [] nl e es xs v → v = a.tmps.getD s undef := fun h => by
    rcases h with ⟨_, _, h⟩ | ⟨x, b, h, _⟩
    · exact h
    · rw [hE] at h; cases h
  cases h with
  | sub h =>
    have h1 := hI.slot q
    rw [h] at h1
    obtain ⟨nl', e', es', xs', ad, l, c, k1, k2, k3, a', c', k4, k5⟩ := h1
    have k0 : nl' = nl ∧ e' = e ∧ es' = es ∧ xs' = xs := by
      rcases k1 with ⟨q1, _⟩ | ⟨x, b, q1, _⟩ <;> rw [hE] at q1 <;> cases q1
      simp
    obtain ⟨rfl, rfl, rfl, rfl⟩ := k0
    refine ⟨k2, k3, a', c', k4, fun hij => ?_⟩
    obtain ⟨g, rfl, rfl⟩ := k5 hij
    exact ⟨g, l, c, (own k1).symm, rfl⟩
  | view h =>
    have hown : OwnAt w a.tmps E s [] nl e es xs (a.tmps.getD q undef) := by
      rcases h with rfl | h
      · exact .inl ⟨hE, rfl, rfl⟩
      · have h1 := hI.slot q
        rw [h] at h1
        obtain ⟨nl', e', es', xs', h1⟩ := h1
        have k0 : nl' = nl ∧ e' = e ∧ es' = es ∧ xs' = xs := by
          rcases h1 with ⟨q1, _⟩ | ⟨x, b, q1, _⟩ <;> rw [hE] at q1 <;> cases q1
          simp
        obtain ⟨rfl, rfl, rfl, rfl⟩ := k0
        exact h1
    obtain ⟨cells, ⟨o1, o2⟩, _⟩ := hown.own hI
    refine ⟨Nat.zero_le _, Nat.le_refl _, ?_⟩
    rcases o2 with ⟨o2, o3⟩ | ⟨g, cap, cur, o2, _⟩
    · refine ⟨none, 0, ?_, fun h => by omega⟩
      show a.tmps.getD q undef = _
      rw [o2, o3]
    · refine ⟨some ⟨g, 0, none⟩, cap, ?_, fun _ => ⟨g, xs.length, cap, ?_, rfl⟩⟩
      · show a.tmps.getD q undef = _
        rw [o2]; rfl
      · rw [← own hown, o2]

/-- copy(part, src). -/
theorem RawOp.copy {o : Oper} {d q s i j : Nat} {x : Operand} {T T2 : TypeId} {nl e es xs ys b} (hΘ : Agree P Θ) (hd : o.dst = some d) (hn : d < n) (hod : owner (E d) = false) (ho : o.op = .call { callee := .builtin .copy, args := #[.tmp q, x], argTypes := #[T, T2] })
    (hE : E s = .d (.own nl e es xs)) (hq : Part E s xs.length q i j) (hx : Src E x es ys) (ht : (Θ T).td = .sl e es b) :
    RawOp P n E o (upd (upd (kill (isElt s) E) s (.d (.own nl e es (xs.take i ++ (ys.take (min ys.length (j - i)) ++ xs.drop (i + min ys.length (j - i))))))) d (.d (.v (.int .i64 ((min ys.length (j - i) : Nat) : Int))))) := by
  intro ρ w a Q hI
  obtain ⟨hu, iT, z, i1, i2, i3, i4, i5, i6⟩ := hΘ.says ht
  obtain ⟨k1, k2, ad, c, k3, k4⟩ := hq.sound hI hE
  obtain ⟨ad2, c2, news, g1, g2, g3, g4⟩ := hx.sound hI
  have hds : d ≠ s := by rintro rfl; rw [hE] at hod; cases hod
  have hsz : (sizeOf e).run P w = .ok es w := by simp [sizeOf, typeInfo, i1, i2]
  generalize hm : min ys.length (j - i) = m
  have hkill : owner (upd (kill (isElt s) E) s (.d (.own nl e es (xs.take i ++ (ys.take m ++ xs.drop (i + m))))) d) = false := by
    simp only [upd, hds.symm, if_false, kill]
    split
    · rfl
    · exact hod
  have hd' : d < a.tmps.size := by rw [hI.size]; exact hn
  have hmin : Nat.min ys.length (j - i) = m := hm
  by_cases h0 : m = 0
  · have hfc : (Builtin.firstCells es 0 (.slice ad2 ys.length c2)).run P w = .ok #[] w := by
      cases ad2 with
      | none => simp [Builtin.firstCells]
      | some a2 => have := run_firstCells_some (P := P) (w := w) es 0 a2 ys.length c2 [] (by simp) (by simp); simpa using this
    have hI' : Inv n ρ w a.tmps (upd (kill (isElt s) E) s (.d (.own nl e es (xs.take i ++ (ys.take m ++ xs.drop (i + m)))))) := by
      have he : upd (kill (isElt s) E) s (.d (.own nl e es (xs.take i ++ (ys.take m ++ xs.drop (i + m))))) = kill (isElt s) E := by
        funext u
        simp only [upd]
        split
        · next h => subst h; rw [h0]; simp [kill, hE, isElt, isWk]
        · rfl
      rw [he]
      exact hI.less (kill_less (fun s' h => isElt_owner s' h) hI)
    refine oper_val (v := .int .i64 ((m : Nat) : Int)) (w' := w) ?_ ?_
    · have hl : (Builtin.lenOf (.slice ad2 ys.length c2)).run P w = .ok ys.length w := by simp [Builtin.lenOf]
      have hst : (if let some a := ad then storeCells a [] 0 else pure () : Sem Unit).run P w = .ok () w := by cases ad <;> simp [storeCells]
      simp only [execOp, ho, resolve, invoke, builtin, Sem.run_bind, Sem.run_pure, Result.andThen_ok, List.map_toArray, List.map_cons, List.map_nil, k3, g1, Builtin.copy_]
      simp only [List.getElem?_toArray, List.getElem?_cons_zero, List.getElem?_cons_succ, Sem.run_bind, run_underlying hu, Result.andThen_ok, hl, hmin, h0, hsz, hfc]
      cases ad <;> simp [storeCells, goInt]
    · rw [put_some hd]
      exact ⟨rfl, ρ, Fr.refl _ _, hI'.put hn hkill (RD.ofV rfl).rv⟩
  · have hij : i < j := by omega
    obtain ⟨g, l, c', q1, rfl⟩ := k4 hij
    have hy : ys ≠ [] := by rintro rfl; simp at hm; omega
    obtain ⟨b2, o2, rfl, hmem⟩ := g4.resolve_left hy
    have hyl : (ys.take m).length = m := by rw [List.length_take]; omega
    have hsp : ys = ys.take m ++ ys.drop m := (List.take_append_drop m ys).symm
    rw [hsp] at g3
    obtain ⟨A, B, rfl, r1, r2, r3⟩ := g3.split
    rw [hyl] at r1
    obtain ⟨g', l', c'', w', t1, t2, t3, t4⟩ := hI.splice (P := P) (i := i) hE r2 (by rw [r1, hyl]) (by rw [hyl]; omega) (by rw [hyl]; omega)
    rw [q1] at t1
    cases t1
    rw [hyl] at t4
    have hfc : (Builtin.firstCells es m (.slice (some ⟨b2, o2, none⟩) ys.length c2)).run P w = .ok A.toArray w :=
      run_firstCells_some (P := P) (w := w) es m _ _ _ A r1 (Mem.at (Mem.app.1 hmem).1)
    refine oper_val (v := .int .i64 ((m : Nat) : Int)) (w' := w') ?_ ?_
    · have hl : (Builtin.lenOf (.slice (some ⟨b2, o2, none⟩) ys.length c2)).run P w = .ok ys.length w := by simp [Builtin.lenOf]
      simp only [execOp, ho, resolve, invoke, builtin, Sem.run_bind, Sem.run_pure, Result.andThen_ok, List.map_toArray, List.map_cons, List.map_nil, k3, g1, Builtin.copy_]
      simp only [List.getElem?_toArray, List.getElem?_cons_zero, List.getElem?_cons_succ, Sem.run_bind, run_underlying hu, Result.andThen_ok, hl, hmin, hsz, hfc, t2, Sem.run_pure, goInt]
    · rw [put_some hd]
      exact ⟨rfl, ρ, t3, t4.put hn hkill (RD.ofV rfl).rv⟩

/-- clear(part). -/
theorem RawOp.clear {o : Oper} {q s i j : Nat} {T : TypeId} {nl e es xs b} {z : D} (hΘ : Agree P Θ) (hd : o.dst = none) (ho : o.op = .call { callee := .builtin .clear, args := #[.tmp q], argTypes := #[T] })
    (hE : E s = .d (.own nl e es xs)) (hq : Part E s xs.length q i j) (ht : (Θ T).td = .sl e es b) (hk : (Θ e).known = true) (hz : (Θ e).z = z) :
    RawOp P n E o (upd (kill (isElt s) E) s (.d (.own nl e es (xs.take i ++ (List.replicate (j - i) z ++ xs.drop j))))) := by
  intro ρ w a Q hI
  obtain ⟨hu, iT, z', i1, i2, i3, i4, i5, i6⟩ := hΘ.says ht
  obtain ⟨i', v', z1, z2, z3, z4, z5, z6⟩ := (hΘ e hk).info
  rw [i1] at z1; cases z1
  rw [i4] at z3; cases z3
  rw [hz] at z4 z5 z6
  obtain ⟨k1, k2, ad, c, k3, k4⟩ := hq.sound hI hE
  by_cases h0 : j - i = 0
  · have hij : i = j := by omega
    have hI' : Inv n ρ w a.tmps (upd (kill (isElt s) E) s (.d (.own nl e es (xs.take i ++ (List.replicate (j - i) z ++ xs.drop j))))) := by
      have he : upd (kill (isElt s) E) s (.d (.own nl e es (xs.take i ++ (List.replicate (j - i) z ++ xs.drop j)))) = kill (isElt s) E := by
        funext u
        simp only [upd]
        split
        · next h => subst h; rw [h0, hij]; simp [kill, hE, isElt, isWk]
        · rfl
      rw [he]
      exact hI.less (kill_less (fun s' h => isElt_owner s' h) hI)
    refine oper_val (v := .tuple #[]) (w' := w) ?_ ?_
    · simp only [execOp, ho, resolve, invoke, builtin, Sem.run_bind, Sem.run_pure, Result.andThen_ok, List.map_toArray, List.map_cons, List.map_nil, k3, h0, Builtin.clear_]
      cases ad <;> simp [run_underlying hu]
    · rw [put_none hd]
      exact ⟨rfl, ρ, Fr.refl _ _, hI'⟩
  · obtain ⟨g, l, c', q1, rfl⟩ := k4 (by omega)
    have hcells : (Builtin.zeroCells z'.cells (j - i)).toList = (List.replicate (j - i) z'.cells.toList).flatten := made_list z'.cells (by omega) (j - i)
    have hy : Rpa (sh ρ) w es (List.replicate (j - i) z) (Builtin.zeroCells z'.cells (j - i)).toList := by
      rw [hcells, z4]
      exact Rpa.replicate (Rp.konst z z6) (by rw [← z4]; simpa using i5) _
    have hlen : (List.replicate (j - i) z).length = j - i := List.length_replicate
    obtain ⟨g', l', c'', w', t1, t2, t3, t4⟩ := hI.splice (P := P) (i := i) hE hy (by rw [hlen, hcells]; simp [i5]) (by rw [hlen]; omega) (by rw [hlen]; omega)
    rw [q1] at t1
    cases t1
    rw [hlen, show i + (j - i) = j by omega] at t4
    refine oper_val (v := .tuple #[]) (w' := w') ?_ ?_
    · have hzv : (zeroValue e).run P w = .ok z' w := by simp [zeroValue, typeInfo, i1, i4]
      obtain ⟨m, hm⟩ : ∃ m, j - i = m + 1 := ⟨j - i - 1, by omega⟩
      rw [hm] at t2
      simp only [execOp, ho, resolve, invoke, builtin, Sem.run_bind, Sem.run_pure, Result.andThen_ok, List.map_toArray, List.map_cons, List.map_nil, k3, Builtin.clear_]
      simp [run_underlying hu, hzv, hm, t2]
    · rw [put_none hd]
      exact ⟨rfl, ρ, t3, t4⟩

end Go.Dat

namespace Go.Dat

variable [Tables]

variable {P : Program} {Θ : TypeId → TI} {n : Nat} {ρ ρ' : Nat → Tag} {w w' : World} {tmps : Array Value} {E E' : Nat → Slot} {t : Nat} {u : Value}

/-- What was slot s's own is slot d's. -/
theorem Inv.pass {s d nl e es xs xs' nl' e' es'} {v : Value} (hI : Inv n ρ w tmps E) (hn : d < n) (hE : E s = .d (.own nl e es xs)) (hds : d ≠ s) (hv : ROwn ρ w (.sl s []) nl' e' es' xs' v) :
    Inv n (retag ρ s d) w (tmps.setIfInBounds d v) (upd (upd (Dat.free d (Dat.free s E)) s .un) d (.d (.own nl' e' es' xs'))) := by
  have hI1 := (hI.free s).free d
  have hd' : d < tmps.size := by rw [hI.size]; exact hn
  have hrt : ∀ b x, retag ρ s d b = x → x ≠ .other → ρ b ≠ .other := by
    intro b x h hx h2
    simp [retag, h2] at h
    exact hx h.symm
  refine ⟨by simp [hI.size], fun b hb => hI.lt b (hrt b _ rfl hb), hI.tab.mono (fun b hb => ⟨by simp only [sh] at hb; simp [sh, retag, hb], rfl⟩), fun u => ?_⟩
  rw [getD_put _ _ _ _ hd']
  by_cases h1 : d = u
  · subst h1
    simp only [if_true, upd]
    exact RV.ofOwn (hv.mono (fun b hb => ⟨by simp [retag, hb], rfl⟩) (fun b hb => ⟨by simp [retag, hb], rfl⟩))
  · by_cases h2 : s = u
    · subst h2
      simp only [upd, hds, if_false, if_true]
      trivial
    · simp only [upd, h1, h2, if_false]
      refine (hI1.slot u).keep hI1 (fun b hb => ⟨by simp [retag, hb], rfl⟩) (fun b r hb => ⟨?_, rfl⟩) (fun b hb => ⟨?_, rfl⟩) (fun s' hs' => ?_) (.inl kill_nwk)
      · have e1 : u ≠ s := fun h => h2 h.symm
        have e2 : u ≠ d := fun h => h1 h.symm
        simp [retag, hb, e1, e2]
      · have e1 : u ≠ s := fun h => h2 h.symm
        have e2 : u ≠ d := fun h => h1 h.symm
        simp [retag, hb, e1, e2]
      · have hd1 : s' ≠ d := by rintro rfl; exact free_ne hs'
        have hk1 : s' ≠ s := by rintro rfl; exact free_ne (free_refers hs')
        refine ⟨by simp [upd, hd1.symm, hk1.symm], ?_, fun _ _ => rfl⟩
        rw [getD_put _ _ _ _ hd', if_neg (fun h => hd1 h.symm)]

omit [Tables] in
theorem retag_fr {s d : Nat} : Fr ρ w (retag ρ s d) w := ⟨fun b hb => by simp [retag, hb], fun b _ hb => by simp [retag, hb], fun _ _ _ => rfl, rfl, rfl, rfl, Nat.le_refl _⟩

theorem own_value {a : Act} {q s nl e es xs} (hI : Inv n ρ w a.tmps E) (hE : E s = .d (.own nl e es xs)) (hq : q = s ∨ E q = .view s []) : ROwn ρ w (.sl s []) nl e es xs (a.tmps.getD q undef) := by
  have h0 : OwnAt w a.tmps E s [] nl e es xs (a.tmps.getD q undef) := by
    rcases hq with rfl | h
    · exact .inl ⟨hE, rfl, rfl⟩
    · have h1 := hI.slot q
      rw [h] at h1
      obtain ⟨nl', e', es', xs', h1⟩ := h1
      have k0 : nl' = nl ∧ e' = e ∧ es' = es ∧ xs' = xs := by
        rcases h1 with ⟨q1, _⟩ | ⟨x, b, q1, _⟩ <;> rw [hE] at q1 <;> cases q1
        simp
      obtain ⟨rfl, rfl, rfl, rfl⟩ := k0
      exact h1
  exact h0.own hI

/-- s[:j], the whole being given up. -/
theorem RawOp.cut {o : Oper} {d q s j : Nat} {hi : Option Operand} {T : TypeId} {nl e es xs e' b} (hΘ : Agree P Θ) (hd : o.dst = some d) (hn : d < n) (hds : d ≠ s) (ho : o.op = .slice T (.tmp q) none hi none)
    (hE : E s = .d (.own nl e es xs)) (hq : q = s ∨ E q = .view s []) (ht : (Θ T).td = .sl e' es b) (hh : Bnd E hi xs.length j) (hj : j ≤ xs.length) :
    RawOp P n E o (upd (upd (free d (free s E)) s .un) d (.d (.own nl e es (xs.take j)))) := by
  intro ρ w a Q hI
  have hown := own_value hI hE hq
  have hhi := hh.sound (a := a) rfl hI
  obtain ⟨cells, ⟨o1, o2⟩, o3, o4, o5⟩ := hown
  have hsp : xs = xs.take j ++ xs.drop j := (List.take_append_drop j xs).symm
  have o3' := o3
  rw [hsp] at o3'
  obtain ⟨A, B, q1, q2, q3, q4⟩ := o3'.split
  have htl : (xs.take j).length = j := by rw [List.length_take]; omega
  rcases o2 with ⟨o2, o2'⟩ | ⟨g, cap, cur, o2, _, p1, p2, p3, p4, p5⟩
  · have hj0 : j = 0 := by omega
    subst hj0
    rw [o2] at o4 o5
    have hr := slice_run (P := P) (w := w) (ad := none) (l := 0) (cap := 0) (i := 0) (j := 0) (lo := none) (f := a.eval) (hΘ.says ht) (.inl ⟨rfl, rfl⟩) (by rw [o2'] at hhi; exact hhi) (Nat.le_refl _) (Nat.le_refl _)
    have hv : ROwn ρ w (.sl s []) nl e es (xs.take 0) (.slice none 0 0) := ⟨[], ⟨by simp, .inl ⟨rfl, by simp⟩⟩, by simp [Rpa], o4, o5⟩
    refine oper_val (v := .slice none 0 0) (w' := w) ?_ ?_
    · simp only [execOp, ho, Option.map_none, Sem.run_bind] at hr ⊢
      rw [eval_tmp, o2, hr]
      simp
    · rw [put_some hd]
      exact ⟨rfl, _, retag_fr, hI.pass hn hE hds hv⟩
  · rw [o2] at o4 o5
    have hr := slice_run (P := P) (w := w) (ad := some ⟨g, 0, none⟩) (l := xs.length) (cap := cap) (i := 0) (j := j) (lo := none) (f := a.eval) (hΘ.says ht) (.inl ⟨rfl, rfl⟩) hhi (Nat.zero_le _) (by omega)
    have hv : ROwn ρ w (.sl s []) nl e es (xs.take j) (.slice (some ⟨g, 0, none⟩) j cap) := by
      refine ⟨A, ⟨q2, .inr ⟨g, cap, cur, by rw [htl], Nat.zero_le _, p1, by omega, p3, p4, ?_⟩⟩, q3, ?_, o5⟩
      · have : cur.toList.take ((xs.take j).length * es) = (cur.toList.take (xs.length * es)).take ((xs.take j).length * es) := by
          rw [List.take_take, Nat.min_eq_left (Nat.mul_le_mul_right _ (by omega))]
        rw [this, p5, q1, ← q2, List.take_left]
      · rw [o4]; simp
    refine oper_val (v := .slice (some ⟨g, 0, none⟩) j cap) (w' := w) ?_ ?_
    · simp only [execOp, ho, Option.map_none, Sem.run_bind] at hr ⊢
      rw [eval_tmp, o2, hr]
      by_cases hc : cap = 0 <;> simp [hc, Addr.add]
    · rw [put_some hd]
      exact ⟨rfl, _, retag_fr, hI.pass hn hE hds hv⟩

/-! ### Functions that may write over what they are handed -/

/-- The contract of a function some of whose arguments are its own from then on. -/
def OFun (P : Program) (f : FuncId) (args : List D) (r : D) : Prop :=
  ∀ (ρ : Nat → Tag) (w : World) (vals : List Value), (∀ b, ρ b ≠ .other → b < w.heap.size) → TabS (sh ρ) w → vals.length = args.length → (∀ i, i < args.length → RV ρ w i (args.getD i un) (vals.getD i undef)) →
    Calls P f vals.toArray w fun e w' => ∃ v ρ', e = .returned v ∧ Fr ρ w ρ' w' ∧ (∀ b, ρ' b ≠ .other → b < w'.heap.size) ∧ RV ρ' w' 0 r v

theorem OFun.ofRun {f : FuncId} {fn : Func} {c : Code} {ds : List D} {r : D} (hΘ : Agree P Θ) (hm : P.follows .mixedOrders = true) (hf : P.funcs[f]? = some fn) (hb : fn.body = some c) (hn : (decide (ds.length ≤ fn.ntmps)) = true)
    (h : Run P Θ fn.ntmps (Ends P fn r) [.code c] (lk (initL 0 ds))) : OFun P f ds r := by
  intro ρ w vals hlt hT hlen hv
  have hn' : ds.length ≤ fn.ntmps := by simpa using hn
  intro cs
  let b : Frame := { (default : Frame) with fn := f, kind := .normal }
  let a : Act := { tmps := vals.toArray ++ Array.replicate (fn.ntmps - vals.toArray.size) undef, defers := [] }
  have henter : Frame.enter P f vals.toArray .normal = b.at a [.code c] := by simp [Frame.enter, Frame.at, hf, hb, b, a]
  have hI : Inv fn.ntmps ρ w a.tmps (lk (initL 0 ds)) := by
    refine ⟨by simp [a]; omega, hlt, hT, fun t => ?_⟩
    rw [lk_initL]
    simp only [Nat.not_lt_zero, if_false, Nat.sub_zero, init]
    cases hd : ds[t]? with
    | none => trivial
    | some d =>
      have ht : t < ds.length := (List.getElem?_eq_some_iff.1 hd).1
      have h1 := hv t ht
      have hgd : ds.getD t un = d := by simp [hd]
      have hval : a.tmps.getD t undef = vals.getD t undef := by
        have : t < vals.length := by omega
        simp only [a, Array.getD_eq_getD_getElem?, Array.getElem?_append, List.size_toArray, this, if_true, List.getElem?_toArray, List.getD_eq_getElem?_getD]
      rw [hgd] at h1
      rw [hval]
      exact h1
  obtain ⟨a', w', k', h1, h2, ρ', E', h3, h4, h5⟩ := h.sound hΘ hm hI b cs
  obtain ⟨v, ρ2, q1, q2, q3, q4⟩ := h5 _ _ _ _ h4
  exact ⟨.returned v, w', _, ⟨v, ρ2, rfl, h3.trans q2, q3, q4⟩, (by rw [henter]; exact h1), rfl, rfl, by simp [Frame.at, h2, a], rfl, fn, hf, q1⟩

def tagC (ρ : Nat → Tag) (s : Nat) (b : Nat) : Tag :=
  match ρ b with
  | .sh => .sh
  | .sl s' p => if s' = s ∧ p = [] then .sl 0 [] else .other
  | _ => .other

/-- A call whose first argument is given up. -/
theorem RawOp.callOwn {o : Oper} {d q s : Nat} {fo : Operand} {args : Array Operand} {ts : Array TypeId} {rest : List Operand} {f : FuncId} {nl e es xs ds r} (hd : o.dst = some d) (hn : d < n) (hds : d ≠ s) (ho : o.op = .call { callee := .value fo, args := args, argTypes := ts })
    (hargs : args.toList = .tmp q :: rest) (hfo : OpD E fo (.fn (.func f) [] [])) (hE : E s = .d (.own nl e es xs)) (hq : q = s ∨ E q = .view s []) (hrest : OpDs E rest ds) (hc : Callable P f) (hf : OFun P f (.own nl e es xs :: ds) r) :
    RawOp P n E o (upd (upd (free d (free s E)) s .un) d (.d r)) := by
  intro ρ w a Q hI
  have hown := own_value hI hE hq
  obtain ⟨c1, h1, h2⟩ := hfo.sound hI
  simp only [Rp] at h1
  obtain ⟨us, ts', rfl, h3, h4⟩ := h1
  simp only [Rpv] at h3 h4
  subst h3 h4
  simp only [VC] at h2
  have he : a.eval fo = .func (.func f) #[] #[] := by simpa using h2.symm
  unfold Oper.wp
  rw [callValue_run ho he hc]
  have hmap : #[] ++ args.map a.eval ++ #[] = (a.tmps.getD q undef :: rest.map a.eval).toArray := by
    apply Array.ext'
    simp [hargs, eval_tmp]
  rw [hmap]
  have hvals := hrest.sound hI
  have hlen := hvals.len
  have hsh : ∀ b, sh ρ b → sh (tagC ρ s) b ∧ w.heap[b]? = w.heap[b]? := fun b hb => ⟨by simp only [sh] at hb; simp [sh, tagC, hb], rfl⟩
  refine (hf (tagC ρ s) w _ (fun b hb => hI.lt b (fun h => hb (by simp [tagC, h]))) (hI.tab.mono hsh) (by simp [hlen]) (fun i hi => ?_)).mono ?_
  · cases i with
    | zero => exact RV.ofOwn (hown.mono hsh (fun b hb => ⟨by simp [tagC, hb], rfl⟩))
    | succ i =>
      simp only [List.length_cons] at hi
      obtain ⟨v, g1, g2⟩ := nth_map_vals hvals (i := i) (by omega)
      have hgv : (a.tmps.getD q undef :: rest.map a.eval).getD (i + 1) undef = v := by
        rw [List.getD_eq_getElem?_getD, List.getElem?_cons_succ, g1]; rfl
      rw [hgv]
      have hgd : (D.own nl e es xs :: ds).getD (i + 1) un = ds.getD i un := by simp
      rw [hgd]
      exact (g2.mono hsh).rv
  · rintro ex w' ⟨v, ρ', rfl, hfr, hlt, hr⟩
    let ρ2 : Nat → Tag := fun b => if b < w.heap.size ∧ ρ b ≠ .sl s [] then retag ρ s d b else match ρ' b with | .sl 0 p => .sl d p | .sh => .sh | _ => .other
    have hd' : d < a.tmps.size := by rw [hI.size]; exact hn
    have hkeep : ∀ b, ρ b ≠ .other → ρ b ≠ .sl s [] → ρ2 b = retag ρ s d b := fun b h1 h2 => by simp only [ρ2]; rw [if_pos ⟨hI.lt b h1, h2⟩]
    have hheap : ∀ b, b < w.heap.size → ρ b ≠ .sl s [] → w'.heap[b]? = w.heap[b]? := fun b h1 h2 => hfr.old b h1 (by
      unfold tagC
      cases hb : ρ b with
      | sl s' p =>
        simp only
        split
        · next h => obtain ⟨rfl, rfl⟩ := h; exact absurd hb h2
        · exact .inr rfl
      | _ => simp)
    have hold : ∀ b, b < w.heap.size → ρ b ≠ .sl s [] → ρ' b = .sh → ρ b = .sh := fun b h1 h2 h3 => by
      refine Classical.byContradiction fun h4 => ?_
      have h5 : tagC ρ s b = .other := by
        unfold tagC
        cases hb : ρ b with
        | sl s' p =>
          simp only
          split
          · next h => obtain ⟨rfl, rfl⟩ := h; exact absurd hb h2
          · rfl
        | sh => exact absurd hb h4
        | _ => rfl
      have := hfr.oth b h1 h5
      rw [this] at h3; cases h3
    have hold2 : ∀ b, b < w.heap.size → ρ b ≠ .sl s [] → ∀ p, ρ' b ≠ .sl 0 p := fun b h1 h2 p h3 => by
      by_cases h4 : ρ b = .sh
      · have := hfr.shd b (by simp [tagC, h4])
        rw [this] at h3; cases h3
      · have h5 : tagC ρ s b = .other := by
          unfold tagC
          cases hb : ρ b with
          | sl s' p =>
            simp only
            split
            · next h => obtain ⟨rfl, rfl⟩ := h; exact absurd hb h2
            · rfl
          | sh => exact absurd hb h4
          | _ => rfl
        have := hfr.oth b h1 h5
        rw [this] at h3; cases h3
    show (a.put o.dst v).defers = a.defers ∧ ∃ ρ', Fr ρ w ρ' w' ∧ Inv n ρ' w' (a.put o.dst v).tmps _
    rw [put_some hd]
    refine ⟨rfl, ρ2, ⟨fun b hb => ?_, fun b hl hb => ?_, fun b hl hb => hheap b hl (by rintro h; rw [h] at hb; rcases hb with h | h <;> cases h), hfr.os, hfr.tape, hfr.output, hfr.size⟩, ?_⟩
    · rw [hkeep b (by simp [hb]) (by simp [hb])]; simp [retag, hb]
    · simp only [ρ2]; rw [if_pos ⟨hl, by simp [hb]⟩]; simp [retag, hb]
    have hI1 := (hI.free s).free d
    refine ⟨by simp [hI.size], fun b hb => ?_, hI.tab.mono (fun b hb => ⟨by simp only [sh] at hb ⊢; rw [hkeep b (by simp [hb]) (by simp [hb])]; simp [retag, hb], hheap b (hI.lt b (by simp only [sh] at hb; simp [hb])) (by simp only [sh] at hb; simp [hb])⟩), fun u => ?_⟩
    · by_cases hb1 : b < w.heap.size
      · exact Nat.lt_of_lt_of_le hb1 hfr.size
      · refine hlt b fun h => hb ?_
        simp only [ρ2]
        rw [if_neg (fun h => hb1 h.1), h]
    rw [getD_put _ _ _ _ hd']
    by_cases h1 : d = u
    · subst h1
      simp only [if_true, upd]
      refine RV.mono (fun b hb => ⟨?_, rfl⟩) (fun b r hb => ⟨?_, rfl⟩) hr
      · simp only [ρ2]
        split
        · next h => have := hold b h.1 h.2 hb; simp [retag, this]
        · rw [hb]
      · simp only [ρ2]
        split
        · next h => exact absurd hb (hold2 b h.1 h.2 _)
        · simp only [hb]
    · by_cases h2 : s = u
      · subst h2
        simp only [upd, hds, if_false, if_true]
        trivial
      · simp only [upd, h1, h2, if_false]
        have e1 : u ≠ s := fun h => h2 h.symm
        have e2 : u ≠ d := fun h => h1 h.symm
        refine (hI1.slot u).keep hI1 (fun b hb => ⟨?_, ?_⟩) (fun b r hb => ⟨?_, ?_⟩) (fun b hb => ⟨?_, ?_⟩) (fun s' hs' => ?_) (.inl kill_nwk)
        · rw [hkeep b (by simp [hb]) (by simp [hb])]; simp [retag, hb]
        · exact hheap b (hI.lt b (by simp [hb])) (by simp [hb])
        · rw [hkeep b (by simp [hb]) (by simp [hb, e1])]; simp [retag, hb, e1, e2]
        · exact hheap b (hI.lt b (by simp [hb])) (by simp [hb, e1])
        · rw [hkeep b (by simp [hb]) (by simp [hb])]; simp [retag, hb, e1, e2]
        · exact hheap b (hI.lt b (by simp [hb])) (by simp [hb])
        · have hd1 : s' ≠ d := by rintro rfl; exact free_ne hs'
          have hk1 : s' ≠ s := by rintro rfl; exact free_ne (free_refers hs')
          refine ⟨by simp [upd, hd1.symm, hk1.symm], ?_, fun b hb => hheap b (hI.lt b (by simp [hb])) (by simp [hb])⟩
          rw [getD_put _ _ _ _ hd', if_neg (fun h => hd1 h.symm)]

/-! ### How these are written -/

section
variable {R : (Nat → Slot) → Prop} {ops : Array Oper} {ld : List Nat} {i : Nat} {os : List Oper} {K : List Item} {l : Env} {Θ : TypeId → TI} {ty : TypeId} {pos : String} {af : Array Edge}

omit [Tables] in
theorem free_free {d s : Nat} : Dat.free d (Dat.free s (lk l)) = lk (killL (fun x => refersTo d x || refersTo s x) l) := by
  unfold Dat.free killL
  rw [kill_lk, kill_lk]
  congr 1
  simp only [List.map_map]
  apply List.map_congr_left
  rintro ⟨u, x⟩ _
  simp only [Function.comp]
  cases h1 : refersTo s x <;> cases h2 : refersTo d x <;> cases h3 : isWk x <;> simp [h2, h3, show isWk .un = false from rfl, show ∀ t, refersTo t .un = false from fun _ => rfl]

omit [Tables] in
theorem isElt_some {s : Nat} (x : Slot) (h : isElt s x = true) : ∃ q, refers x = some q := by cases x <;> simp_all [isElt, refers]

omit [Tables] in
theorem Keeps.pass {o : Oper} {d s : Nat} {nl e es xs} {X : Slot} (hd : o.dst = some d) (hs : E s = .d (.own nl e es xs)) : Keeps E o (upd (upd (Dat.free d (Dat.free s E)) s .un) d X) := by
  intro u x hu hne
  have h1 : d ≠ u := by rintro rfl; exact hne hd
  have h2 : s ≠ u := by rintro rfl; rw [hs] at hu; cases hu
  rw [upd_ne h1, upd_ne h2]
  exact kill_v refersTo_some (kill_v refersTo_some hu)
omit [Tables] in
theorem Keeps.copy {o : Oper} {d s : Nat} {nl e es xs} {X Y : Slot} (hd : o.dst = some d) (hs : E s = .d (.own nl e es xs)) : Keeps E o (upd (upd (kill (isElt s) E) s Y) d X) := by
  intro u x hu hne
  have h1 : d ≠ u := by rintro rfl; exact hne hd
  have h2 : s ≠ u := by rintro rfl; rw [hs] at hu; cases hu
  rw [upd_ne h1, upd_ne h2]
  exact kill_v isElt_some hu
omit [Tables] in
theorem Keeps.clear {o : Oper} {s : Nat} {nl e es xs} {Y : Slot} (hs : E s = .d (.own nl e es xs)) : Keeps E o (upd (kill (isElt s) E) s Y) := by
  intro u x hu _
  have h2 : s ≠ u := by rintro rfl; rw [hs] at hu; cases hu
  rw [upd_ne h2]
  exact kill_v isElt_some hu

theorem OpsAt.rw_ {o : Oper} {l' : Env} (h : RawOp P n (lk l) o (lk l')) (hk : Keeps (lk l) o (lk l')) (hg : o.guard = none) (hi : ld.contains i = true) (next : OpsAt P Θ n R ops ld (i + 1) os K (lk l')) : OpsAt P Θ n R ops ld i (o :: os) K (lk l) :=
  .loud (.raw h hk) hg hi next

theorem OpsAt.cut {d q s j : Nat} {hi : Option Operand} {T : TypeId} {nl e es xs e' b} {c : Prop} (hΘ : Agree P Θ) (hv : vwOf (lk l) q = some (s, [], nl, e, es, xs)) (hs : lk l s = .d (.own nl e es xs)) (ht : (Θ T).td = .sl e' es b) (hh : bndOf (lk l) hi xs.length = some (j, c))
    (hd : (decide (d < n) && (d != s)) = true) (hl : ld.contains i = true) (hc : c ∧ j ≤ xs.length)
    (next : OpsAt P Θ n R ops ld (i + 1) os K (lk ((d, .d (.own nl e es (xs.take j))) :: (s, .un) :: killL (fun x => refersTo d x || refersTo s x) l))) :
    OpsAt P Θ n R ops ld i (⟨some d, .slice T (.tmp q) none hi none, ty, pos, af, none⟩ :: os) K (lk l) := by
  simp only [Bool.and_eq_true, decide_eq_true_eq, bne_iff_ne, ne_eq] at hd
  refine .rw_ ?_ ?_ rfl hl next
  rotate_left
  · have := Keeps.pass (o := ⟨some d, .slice T (.tmp q) none hi none, ty, pos, af, none⟩) (X := .d (.own nl e es (xs.take j))) rfl hs
    rw [free_free] at this
    exact this
  have hq : q = s ∨ lk l q = .view s [] := by
    rcases vwOf_sound hv with ⟨h, _⟩ | ⟨_, h, _⟩
    · exact .inr h
    · exact .inl h
  have := RawOp.cut (P := P) (n := n) (o := ⟨some d, .slice T (.tmp q) none hi none, ty, pos, af, none⟩) hΘ rfl hd.1 hd.2 rfl hs hq ht (bndOf_sound hh hc.1) hc.2
  rw [free_free] at this
  exact this

theorem OpsAt.callOwn {d q s : Nat} {fo : Operand} {args : Array Operand} {ts : Array TypeId} {rest : List Operand} {f : FuncId} {nl e es xs ds r} {c1 c2 : Prop} (hargs : args.toList = .tmp q :: rest) (hv : vwOf (lk l) q = some (s, [], nl, e, es, xs)) (hs : lk l s = .d (.own nl e es xs))
    (hfo : opOf (lk l) fo = some (.fn (.func f) [] [], c1)) (hrest : opsOf (lk l) rest = some (ds, c2)) (hd : (decide (d < n) && (d != s)) = true) (hl : ld.contains i = true) (hc : c1 ∧ c2) (hca : Callable P f) (hf : OFun P f (.own nl e es xs :: ds) r)
    (next : OpsAt P Θ n R ops ld (i + 1) os K (lk ((d, .d r) :: (s, .un) :: killL (fun x => refersTo d x || refersTo s x) l))) :
    OpsAt P Θ n R ops ld i (⟨some d, .call { callee := .value fo, args := args, argTypes := ts }, ty, pos, af, none⟩ :: os) K (lk l) := by
  simp only [Bool.and_eq_true, decide_eq_true_eq, bne_iff_ne, ne_eq] at hd
  refine .rw_ ?_ ?_ rfl hl next
  rotate_left
  · have := Keeps.pass (o := ⟨some d, .call { callee := .value fo, args := args, argTypes := ts }, ty, pos, af, none⟩) (X := .d r) rfl hs
    rw [free_free] at this
    exact this
  have hq : q = s ∨ lk l q = .view s [] := by
    rcases vwOf_sound hv with ⟨h, _⟩ | ⟨_, h, _⟩
    · exact .inr h
    · exact .inl h
  have := RawOp.callOwn (P := P) (n := n) (o := ⟨some d, .call { callee := .value fo, args := args, argTypes := ts }, ty, pos, af, none⟩) rfl hd.1 hd.2 rfl hargs (opOf_sound hfo hc.1) hs hq (opsOf_sound hrest hc.2) hca hf
  rw [free_free] at this
  exact this

def bargsOf (E : Nat → Slot) : List Operand → Option (List D × Prop)
  | [] => some ([], True)
  | .tmp k :: os => match vwOf E k with
    | some (_, _, _, _, es, xs) => match bargsOf E os with
      | some (ds, c) => some (.lst .any es xs :: ds, 0 < es ∧ c)
      | none => none
    | none => match opOf E (.tmp k) with
      | some (x, c1) => match bargsOf E os with
        | some (ds, c) => some (x :: ds, c1 ∧ c)
        | none => none
      | none => none
  | o :: os => match opOf E o with
    | some (x, c1) => match bargsOf E os with
      | some (ds, c) => some (x :: ds, c1 ∧ c)
      | none => none
    | none => none

omit [Tables] in
theorem bargsOf_sound {E : Nat → Slot} : ∀ {os : List Operand} {ds : List D} {c : Prop}, bargsOf E os = some (ds, c) → c → BArgs E os ds
  | [], _, _, h, _ => by cases h; exact .nil
  | .tmp k :: os, ds, c, h, hc => by
    simp only [bargsOf] at h
    split at h
    · next h1 =>
      split at h
      · next h2 => cases h; exact .own (vwOf_sound h1) hc.1 (bargsOf_sound h2 hc.2)
      · cases h
    · split at h
      · next h1 =>
        split at h
        · next h2 => cases h; exact .plain (opOf_sound h1 hc.1) (bargsOf_sound h2 hc.2)
        · cases h
      · cases h
  | .const v :: os, ds, c, h, hc => by
    simp only [bargsOf] at h
    split at h
    · next h1 =>
      split at h
      · next h2 => cases h; exact .plain (opOf_sound h1 hc.1) (bargsOf_sound h2 hc.2)
      · cases h
    · cases h
  | .func v :: os, ds, c, h, hc => by
    simp only [bargsOf] at h
    split at h
    · next h1 =>
      split at h
      · next h2 => cases h; exact .plain (opOf_sound h1 hc.1) (bargsOf_sound h2 hc.2)
      · cases h
    · cases h
  | .global v :: os, ds, c, h, hc => by
    simp only [bargsOf] at h
    split at h
    · next h1 =>
      split at h
      · next h2 => cases h; exact .plain (opOf_sound h1 hc.1) (bargsOf_sound h2 hc.2)
      · cases h
    · cases h

theorem Ev.callsB {o : Oper} {E : Nat → Slot} {fo : Operand} {args : Array Operand} {ts : Array TypeId} {f : FuncId} {fs cs ds : List D} {r : D} {c1 c2 : Prop} (ho : o.op = .call { callee := .value fo, args := args, argTypes := ts })
    (h1 : opOf E fo = some (.fn (.func f) fs cs, c1)) (h2 : bargsOf E args.toList = some (ds, c2)) (hr : r.flatv = true) (hc : c1 ∧ c2) (hf : Callable P f) (hd : DFun P f (fs ++ ds ++ cs) r) : Ev P Θ E o (.d r) :=
  .callB ho (opOf_sound h1 hc.1) (bargsOf_sound h2 hc.2) hf hd hr

def partOf (E : Nat → Slot) (q : Nat) : Option (Nat × Option (Nat × Nat)) :=
  match E q with
  | .sub s [] i j => some (s, some (i, j))
  | .view s [] => some (s, none)
  | .d (.own _ _ _ _) => some (q, none)
  | _ => none

omit [Tables] in
theorem partOf_sound {q s ij n'} (h : partOf E q = some (s, ij)) : Part E s n' q (match ij with | some (i, _) => i | none => 0) (match ij with | some (_, j) => j | none => n') := by
  unfold partOf at h
  split at h
  · next h1 => cases h; exact .sub h1
  · next h1 => cases h; exact .view (.inr h1)
  · next h1 => cases h; exact .view (.inl rfl)
  · cases h

def lo? : Option (Nat × Nat) → Nat | some (i, _) => i | none => 0
def hi? (n : Nat) : Option (Nat × Nat) → Nat | some (_, j) => j | none => n

theorem OpsAt.copy {d q s : Nat} {ij : Option (Nat × Nat)} {x : Operand} {T T2 : TypeId} {nl e es xs ys b} (hΘ : Agree P Θ) (hq : partOf (lk l) q = some (s, ij)) (hs : lk l s = .d (.own nl e es xs)) (hx : Src (lk l) x es ys) (ht : (Θ T).td = .sl e es b)
    (hd : (decide (d < n) && !owner (lk l d)) = true) (hl : ld.contains i = true)
    (next : OpsAt P Θ n R ops ld (i + 1) os K (lk ((d, .d (.v (.int .i64 ((min ys.length (hi? xs.length ij - lo? ij) : Nat) : Int)))) ::
      (s, .d (.own nl e es (xs.take (lo? ij) ++ (ys.take (min ys.length (hi? xs.length ij - lo? ij)) ++ xs.drop (lo? ij + min ys.length (hi? xs.length ij - lo? ij)))))) :: killL (isElt s) l))) :
    OpsAt P Θ n R ops ld i (⟨some d, .call { callee := .builtin .copy, args := #[.tmp q, x], argTypes := #[T, T2] }, ty, pos, af, none⟩ :: os) K (lk l) := by
  simp only [Bool.and_eq_true, decide_eq_true_eq, Bool.not_eq_true'] at hd
  refine .rw_ ?_ ?_ rfl hl next
  rotate_left
  · have := Keeps.copy (o := ⟨some d, .call { callee := .builtin .copy, args := #[.tmp q, x], argTypes := #[T, T2] }, ty, pos, af, none⟩) (X := .d (.v (.int .i64 ((min ys.length (hi? xs.length ij - lo? ij) : Nat) : Int)))) (Y := .d (.own nl e es (xs.take (lo? ij) ++ (ys.take (min ys.length (hi? xs.length ij - lo? ij)) ++ xs.drop (lo? ij + min ys.length (hi? xs.length ij - lo? ij)))))) rfl hs
    rw [kill_lk] at this
    exact this
  have hp := partOf_sound (n' := xs.length) hq
  have := RawOp.copy (P := P) (n := n) (o := ⟨some d, .call { callee := .builtin .copy, args := #[.tmp q, x], argTypes := #[T, T2] }, ty, pos, af, none⟩) hΘ rfl hd.1 hd.2 rfl hs hp hx ht
  rw [kill_lk] at this
  cases ij <;> exact this

theorem OpsAt.clear {q s : Nat} {ij : Option (Nat × Nat)} {T : TypeId} {nl e es xs b} (hΘ : Agree P Θ) (hq : partOf (lk l) q = some (s, ij)) (hs : lk l s = .d (.own nl e es xs)) (ht : (Θ T).td = .sl e es b) (hk : (Θ e).known = true) (hl : ld.contains i = true)
    (next : OpsAt P Θ n R ops ld (i + 1) os K (lk ((s, .d (.own nl e es (xs.take (lo? ij) ++ (List.replicate (hi? xs.length ij - lo? ij) (Θ e).z ++ xs.drop (hi? xs.length ij))))) :: killL (isElt s) l))) :
    OpsAt P Θ n R ops ld i (⟨none, .call { callee := .builtin .clear, args := #[.tmp q], argTypes := #[T] }, ty, pos, af, none⟩ :: os) K (lk l) := by
  refine .rw_ ?_ ?_ rfl hl next
  rotate_left
  · have := Keeps.clear (o := ⟨none, .call { callee := .builtin .clear, args := #[.tmp q], argTypes := #[T] }, ty, pos, af, none⟩) (Y := .d (.own nl e es (xs.take (lo? ij) ++ (List.replicate (hi? xs.length ij - lo? ij) (Θ e).z ++ xs.drop (hi? xs.length ij))))) hs
    rw [kill_lk] at this
    exact this
  have hp := partOf_sound (n' := xs.length) hq
  have := RawOp.clear (P := P) (n := n) (o := ⟨none, .call { callee := .builtin .clear, args := #[.tmp q], argTypes := #[T] }, ty, pos, af, none⟩) hΘ rfl rfl hs hp ht hk rfl
  rw [kill_lk] at this
  cases ij <;> exact this

end
end Go.Dat

namespace Go.Dat

variable [Tables]
open Go.Deep

variable {P : Program} {Θ : TypeId → TI}

/-- Whatever reads as a type's value is such a datum. -/
def Opens (P : Program) (T : TypeId) {α : Type} (f : α → D) : Prop :=
  ∀ {H : Type} {enc : TypeId × Value → H} {w : World} {spare : Nat → Bool} {held : Bool} {fuel : Nat} {cs : List Value} {x : DataW H × List MemPlace}, DataW.trod enc P w 0 spare held fuel T cs = some x → ∃ a : α, Rp (fun b => b < w.heap.size) w (f a) cs

omit [Tables] in
theorem Opens.int {T : TypeId} {k : IntKind} (ht : P.underlying T = some (.int k)) : Opens P T (fun n : Int => D.v (.int k n)) := by
  intro H enc w spare held fuel cs x h
  obtain ⟨n, rfl, _⟩ := DataW.trod_int ht h
  exact ⟨n, by simp [Rp, Value.oneCell']⟩

omit [Tables] in
theorem Opens.bool {T : TypeId} (ht : P.underlying T = some .bool) : Opens P T (fun n : Bool => D.v (.bool n)) := by
  intro H enc w spare held fuel cs x h
  obtain ⟨n, rfl, _⟩ := DataW.trod_bool ht h
  exact ⟨n, by simp [Rp, Value.oneCell']⟩

omit [Tables] in
theorem cell_lt {w : World} {a : Addr} {v : Value} (h : w.cell? a = some v) : a.block < w.heap.size := by
  unfold World.cell? at h
  refine Classical.byContradiction fun hn => ?_
  have : w.heap[a.block]? = none := Array.getElem?_eq_none (by omega)
  rw [this] at h
  simp at h

omit [Tables] in
theorem Opens.slice {T e es : Nat} {α : Type} {f : α → D} (ht : P.underlying T = some (.slice e)) (he : Opens P e f) (hc : P.cellsOf e = es) (hs : 0 < es) : Opens P T (fun l : List α => D.lst .any es (l.map f)) := by
  intro H enc w spare held fuel cs x h
  rcases open_slice ht h with ⟨rfl, _⟩ | ⟨a, len, cap, m, n, D', Pl, rfl, _, hl, _, hm, _, hel⟩
  · exact ⟨[], by simp only [Rp]; exact ⟨none, 0, 0, rfl, by simp [Hdr], by simp⟩⟩
  have hlm : len ≤ m := by rw [hm]; split <;> omega
  rw [hc] at hel
  have hspot : 0 < len → a.spot = none := fun h0 => by
    obtain ⟨cs', q1, _⟩ := hel 0 (by omega)
    have q3 := World.cells?_some q1
    have hc0 := q3.2.2 0 hs
    obtain ⟨v, hv⟩ : ∃ v, cs'[0]? = some v := ⟨cs'[0]'(by rw [q3.2.1]; exact hs), by simp⟩
    rw [hv, Nat.zero_mul] at hc0
    simpa [Addr.add] using World.cell?_spot hc0
  have hadd : a.spot = none → ∀ i j, ((a.add i).add j) = ⟨a.block, a.off + i + j, none⟩ := by
    intro hns i j
    obtain ⟨ab, ao, asp⟩ := a
    simp only at hns
    subst hns
    rw [Go.Deep.add_add]
    unfold Addr.add
    split
    · next h0 =>
      have h1 : i = 0 := by omega
      have h2 : j = 0 := by omega
      subst h1 h2
      rfl
    · simp [Nat.add_assoc]
  have key : ∀ k, k ≤ len → ∃ l : List α, l.length = k ∧ Rpx (fun b => b < w.heap.size) w es ⟨a.block, a.off + (len - k) * es, none⟩ (l.map f) := by
    intro k
    induction k with
    | zero => exact fun _ => ⟨[], rfl, by simp [Rpx]⟩
    | succ k ih =>
      intro hk
      obtain ⟨l, g1, g2⟩ := ih (by omega)
      obtain ⟨cs', q1, q2⟩ := hel (len - (k + 1)) (by omega)
      obtain ⟨y, hy⟩ := he q2
      have q3 := World.cells?_some q1
      have hns := hspot (by omega)
      have hcell : ∀ j v, cs'[j]? = some v → w.cell? ⟨a.block, a.off + (len - (k + 1)) * es + j, none⟩ = some v := fun j v hj => by
        have hlt : j < es := by rw [← q3.2.1]; exact (List.getElem?_eq_some_iff.1 hj).1
        have := q3.2.2 j hlt
        rw [hadd hns, hj] at this
        exact this
      refine ⟨y :: l, by simp [g1], ?_⟩
      simp only [List.map_cons, Rpx]
      refine ⟨cs', q3.2.1, trivial, ?_, Mem.ofAt hcell, hy, ?_⟩
      · have hv : cs'[0]? = some (cs'[0]'(by rw [q3.2.1]; exact hs)) := by simp
        exact cell_lt (a := ⟨a.block, _, none⟩) (hcell 0 _ hv)
      · have hoff : a.off + (len - (k + 1)) * es + es = a.off + (len - k) * es := by
          have : len - k = (len - (k + 1)) + 1 := by omega
          rw [this, Nat.succ_mul]; omega
        rw [hoff]
        exact g2
  obtain ⟨l, g1, g2⟩ := key len (Nat.le_refl _)
  refine ⟨l, ?_⟩
  simp only [Rp]
  refine ⟨some a, len, cap, rfl, ⟨by simp [g1], by simp [g1]; omega, by simp⟩, fun ad had => ?_⟩
  cases had
  by_cases h0 : len = 0
  · have : l = [] := List.eq_nil_of_length_eq_zero (by omega)
    subst this
    simp [Rpx]
  · have hns := hspot (by omega)
    obtain ⟨ab, ao, asp⟩ := a
    simp only at hns
    subst hns
    simpa using g2

/-- Structs, field by field. -/
def OpFs (P : Program) (o : Nat) (F : List Field) (tot : Nat) {γ : Type} (g : γ → List D) : Prop :=
  ∀ {H : Type} {enc : TypeId × Value → H} {w : World} {spare : Nat → Bool} {held : Bool} {n : Nat} {cs : List Value}, cs.length = tot →
    (∀ f ∈ F, ∃ x, DataW.trod enc P w 0 spare held n f.type ((cs.drop f.offset).take (P.cellsOf f.type)) = some x) → ∃ a : γ, Rps (fun b => b < w.heap.size) w (g a) (cs.drop o)

omit [Tables] in
theorem OpFs.nil {tot : Nat} : OpFs P tot [] tot (fun _ : Unit => []) := by
  intro H enc w spare held n cs hl _
  exact ⟨(), by simp only [Rps]; exact List.drop_eq_nil_of_le (by omega)⟩

omit [Tables] in
theorem OpFs.cons {o c tot : Nat} {f : Field} {F : List Field} {α γ : Type} {a : α → D} {g : γ → List D} (h : Opens P f.type a) (hc : f.offset = o ∧ P.cellsOf f.type = c) (hF : OpFs P (o + c) F tot g) :
    OpFs P o (f :: F) tot (fun x : α × γ => a x.1 :: g x.2) := by
  intro H enc w spare held n cs hl hf
  obtain ⟨x, hx⟩ := hf f (by simp)
  obtain ⟨y, hy⟩ := h hx
  obtain ⟨z, hz⟩ := hF hl (fun f' hf' => hf f' (by simp [hf']))
  rw [hc.1, hc.2] at hy
  refine ⟨(y, z), ?_⟩
  simp only [Rps]
  refine ⟨_, _, ?_, hy, hz⟩
  rw [← List.drop_drop, List.take_append_drop]

omit [Tables] in
theorem Opens.struct {T tot : Nat} {F : List Field} {γ : Type} {g : γ → List D} (ht : P.underlying T = some (.struct F.toArray)) (hc : P.cellsOf T = tot) (h : OpFs P 0 F tot g) : Opens P T (fun x : γ => D.st (g x)) := by
  intro H enc w spare held fuel cs x hx
  obtain ⟨xs, n, _, _, hl, hlen, hf⟩ := DataW.trod_struct ht hx
  obtain ⟨a, ha⟩ := h (enc := enc) (w := w) (spare := spare) (held := held) (n := n) (cs := cs) (by rw [hl, hc]) (fun f hm => by
    obtain ⟨i, hi, hfi⟩ := List.getElem_of_mem hm
    have h1 := hf i f (by simp [hi, hfi])
    have h2 : i < xs.length := by rw [hlen]; simpa using hi
    exact ⟨xs[i], by rw [h1]; simp [h2]⟩)
  exact ⟨a, by simp only [Rp]; simpa using ha⟩

omit [Tables] in
theorem Opens.as {T : Nat} {α β : Type} {f : α → D} {g : β → D} (h : Opens P T f) (k : ∀ a, ∃ b, f a = g b) : Opens P T g := by
  intro H enc w spare held fuel cs x hx
  obtain ⟨a, ha⟩ := h hx
  obtain ⟨b, hb⟩ := k a
  exact ⟨b, hb ▸ ha⟩

/-- A contract, told as the walk of a row wants it. -/
theorem DFun.walk {f : FuncId} {args : List D} {w : World} {vals : List Value} (h : DFun P f args (.v (.bool true))) (hT : TabS (fun b => b < w.heap.size) w) (hv : Rpv (fun b => b < w.heap.size) w args vals) :
    Calls P f vals.toArray w fun e w' => e = .returned (.bool true) ∧ Go.RowKit.Below w.heap.size w w' := by
  refine (h (fun b => b < w.heap.size) w vals (fun _ hb => hb) hT hv).mono ?_
  rintro e w' ⟨v, ρ', rfl, g, hr⟩
  have := ((RV.plain (x := .v (.bool true)) rfl).1 hr).v
  subst this
  exact ⟨rfl, g.os, g.tape, g.output, g.size, fun k hk => (g.old k hk).2⟩

end Go.Dat

namespace Go.Dat

variable [Tables]
open Go.Deep

variable {P : Program} {Θ : TypeId → TI}

omit [Tables] in
theorem Opens.intR {T : TypeId} {k : IntKind} (ht : P.underlying T = some (.int k)) : Opens P T (fun n : {n : Int // k.min ≤ n ∧ n ≤ k.max} => D.v (.int k n.1)) := by
  intro H enc w spare held fuel cs x h
  obtain ⟨n, rfl, _, hw⟩ := DataW.trod_int ht h
  simp only [Lit.wf, Bool.and_eq_true, decide_eq_true_eq] at hw
  exact ⟨⟨n, hw⟩, by simp [Rp, Value.oneCell']⟩

omit [Tables] in
theorem Opens.string {T : TypeId} (ht : P.underlying T = some .string) : Opens P T (fun s : {s : ByteArray // s.size ≤ 9223372036854775807} => D.v (.string s.1)) := by
  intro H enc w spare held fuel cs x h
  obtain ⟨s, rfl, _, hs⟩ := DataW.trod_string ht h
  exact ⟨⟨s, by unfold maxLen at hs; omega⟩, by simp [Rp, Value.oneCell']⟩

omit [Tables] in
theorem Opens.sliceB {T e es : Nat} {α : Type} {f : α → D} (ht : P.underlying T = some (.slice e)) (he : Opens P e f) (hc : P.cellsOf e = es) (hs : 0 < es) :
    Opens P T (fun l : {l : List α // l.length ≤ 9223372036854775807} => D.lst .any es (l.1.map f)) := by
  intro H enc w spare held fuel cs x h
  obtain ⟨l, hl⟩ := Opens.slice ht he hc hs h
  refine ⟨⟨l, ?_⟩, hl⟩
  have e2 := hl
  simp only [Rp] at e2
  obtain ⟨a, len, cap, q1, q2, _⟩ := e2
  have q3 : len = l.length := by simpa [Hdr] using q2.1
  rcases open_slice ht h with ⟨hcs, _⟩ | ⟨_, _, _, _, _, _, _, hcs, _, hle, hcap, _⟩
  · rw [q1] at hcs
    simp at hcs
    omega
  · rw [q1] at hcs
    simp at hcs
    unfold maxLen at hcap
    omega

omit [Tables] in
theorem Opens.arr {T e es n : Nat} {α : Type} {f : α → D} (ht : P.underlying T = some (.array n e)) (he : Opens P e f) (hc : P.cellsOf e = es) (hT : P.cellsOf T = n * es) :
    Opens P T (fun l : {l : List α // l.length = n} => D.arr es (l.1.map f)) := by
  intro H enc w spare held fuel cs x h
  obtain ⟨xs, m, _, _, hl, hlen, hf⟩ := DataW.trod_array ht h
  rw [hT] at hl
  have key : ∀ k, k ≤ n → ∃ l : List α, l.length = k ∧ Rpa (fun b => b < w.heap.size) w es (l.map f) (cs.drop ((n - k) * es)) := by
    intro k
    induction k with
    | zero => exact fun _ => ⟨[], rfl, by simp only [List.map_nil, Rpa]; exact List.drop_eq_nil_of_le (by simp [hl])⟩
    | succ k ih =>
      intro hk
      obtain ⟨l, g1, g2⟩ := ih (by omega)
      have hi : n - (k + 1) < n := by omega
      obtain ⟨y, hy⟩ : ∃ y, xs[n - (k + 1)]? = some y := ⟨xs[n - (k + 1)]'(by rw [hlen]; exact hi), by simp⟩
      have h1 := hf (n - (k + 1)) hi
      rw [hy, hc] at h1
      obtain ⟨a, ha⟩ := he h1
      refine ⟨a :: l, by simp [g1], ?_⟩
      simp only [List.map_cons, Rpa]
      have hoff : (n - k) * es = (n - (k + 1)) * es + es := by
        have : n - k = (n - (k + 1)) + 1 := by omega
        rw [this, Nat.succ_mul]
      have hle : (n - (k + 1)) * es + es ≤ n * es := by
        rw [← hoff]; exact Nat.mul_le_mul_right _ (by omega)
      refine ⟨_, _, ?_, ?_, ha, g2⟩
      · rw [hoff, ← List.drop_drop, List.take_append_drop]
      · simp [hl]; omega
  obtain ⟨l, g1, g2⟩ := key n (Nat.le_refl _)
  exact ⟨⟨l, g1⟩, by simp only [Rp]; simpa using g2⟩

/-! ### Arguments -/

open Go.WideShapes Go.ChangeShapes Go.RowKit

section
variable {H : Type} {enc : TypeId × Value → H} {w : World} {v : Value} {d : DataW H} {ps : List MemPlace} {base : Nat} {T : TypeId} {α : Type} {f : α → D}

omit [Tables] in
theorem Opens.cell (h : Opens P T f) (hf : ∀ a, (f a).isAgg = false) (hv : v.cells.toList = [v]) (ht : DataW.Trod enc P w 0 (fun _ => true) true T v d ps) : ∃ a, RD (fun b => b < w.heap.size) w (f a) v := by
  obtain ⟨fuel, ht⟩ := ht
  obtain ⟨a, ha⟩ := h ht
  refine ⟨a, _, ha, ?_⟩
  rw [hv]
  exact VC.ofOne (hf a)

omit [Tables] in
theorem Opens.agg {cs : Array Value} (h : Opens P T f) (hf : ∀ a, (f a).isAgg = true) (hv : v = .agg cs) (ht : DataW.Trod enc P w 0 (fun _ => true) true T v d ps) : ∃ a, RD (fun b => b < w.heap.size) w (f a) v := by
  obtain ⟨fuel, ht⟩ := ht
  obtain ⟨a, ha⟩ := h ht
  subst hv
  refine ⟨a, _, ha, ?_⟩
  have := VC.ofAgg (cs := (Value.agg cs).cells.toList) (hf a)
  simpa [Value.cells] using this

omit [Tables] in
theorem Opens.argI {k : IntKind} (h : Opens P T f) (hf : ∀ a, (f a).isAgg = false) (hu : P.underlying T = some (.int k)) (hv : Value.okWide P w .any base T v) (ht : DataW.Trod enc P w 0 (fun _ => true) true T v d ps) : ∃ a, RD (fun b => b < w.heap.size) w (f a) v := by
  obtain ⟨n, rfl⟩ := okWide_int hu hv
  exact h.cell hf rfl ht
omit [Tables] in
theorem Opens.argStr (h : Opens P T f) (hf : ∀ a, (f a).isAgg = false) (hu : P.underlying T = some .string) (hv : Value.okWide P w .any base T v) (ht : DataW.Trod enc P w 0 (fun _ => true) true T v d ps) : ∃ a, RD (fun b => b < w.heap.size) w (f a) v := by
  obtain ⟨n, rfl⟩ := okWide_string hu hv
  exact h.cell hf rfl ht
omit [Tables] in
theorem Opens.argSl {e : TypeId} (h : Opens P T f) (hf : ∀ a, (f a).isAgg = false) (hu : P.underlying T = some (.slice e)) (hv : Value.okWide P w .any base T v) (ht : DataW.Trod enc P w 0 (fun _ => true) true T v d ps) : ∃ a, RD (fun b => b < w.heap.size) w (f a) v := by
  obtain ⟨a, l, c, rfl⟩ := okWide_slice hu hv
  exact h.cell hf rfl ht
omit [Tables] in
theorem Opens.argSt {F : Array Field} (h : Opens P T f) (hf : ∀ a, (f a).isAgg = true) (hu : P.underlying T = some (.struct F)) (hv : Value.okWide P w .any base T v) (ht : DataW.Trod enc P w 0 (fun _ => true) true T v d ps) : ∃ a, RD (fun b => b < w.heap.size) w (f a) v := by
  obtain ⟨cs, rfl, _⟩ := okWide_struct hu hv
  exact h.agg hf rfl ht
omit [Tables] in
theorem Opens.argAr {n : Nat} {e : TypeId} (h : Opens P T f) (hf : ∀ a, (f a).isAgg = true) (hu : P.underlying T = some (.array n e)) (hv : Value.okWide P w .any base T v) (ht : DataW.Trod enc P w 0 (fun _ => true) true T v d ps) : ∃ a, RD (fun b => b < w.heap.size) w (f a) v := by
  simp only [Value.okWide, hu] at hv
  obtain ⟨cs, rfl, _⟩ := hv
  exact h.agg hf rfl ht
omit [Tables] in
theorem Rpv.ofNil {S : Nat → Prop} : Rpv S w [] [] := by simp [Rpv]
omit [Tables] in
theorem Rpv.ofCons {S : Nat → Prop} {x : D} {xs : List D} {us : List Value} (h : RD S w x v) (k : Rpv S w xs us) : Rpv S w (x :: xs) (v :: us) := by
  obtain ⟨cs, h1, h2⟩ := h
  simp only [Rpv]
  exact ⟨v, us, cs, rfl, h1, h2, k⟩
end

end Go.Dat

namespace Go.Dat

variable [Tables]

abbrev wa := @Run.seq
abbrev wb := @OpsAt.nil
abbrev wc := @Run.ops0
abbrev wd := @Run.block
abbrev we := @Run.inBlock
abbrev wf := @Run.skip
abbrev wg := @Run.scope
abbrev wh := @Run.inScope
abbrev wi := @Run.label
abbrev wj := @Run.exit
abbrev wk := @Run.goto
abbrev wl := @OpsAt.q
abbrev wm := @OpsAt.qg
abbrev wn := @OpsAt.ev
abbrev wo := @OpsAt.evg
abbrev wp := @Ev.binI
abbrev wq := @Ev.len
abbrev wr := @Ev.lenV
abbrev ws := @OpsAt.sk
abbrev wt := @Run.condT
abbrev wu := @Run.condF
abbrev wv := @OpsAt.sto
abbrev ww := @OpsAt.asg
abbrev wx := @OpsAt.app
abbrev wy := @OpsAt.appL
abbrev wz := @OpsAt.ext
abbrev wA := @Ev.calls
abbrev wB := @Ev.callsB
abbrev wC := @Ev.bs
abbrev wD := @Run.ret
abbrev wE := @Ends.tmpE
end Go.Dat

namespace Go.Dat

variable [Tables]

variable {P : Program} {Θ : TypeId → TI} {n : Nat} {E E' : Nat → Slot} {w : World}

def wopOf (E : Nat → Slot) : Operand → Option (D × Prop)
  | .tmp k => match E k with
    | .wk x => some (x, x.isTup = false)
    | .box x => some (.pt x.lend, True)
    | .ref s p => match E s with
      | .box x => some (.pt (x.get p).lend, True)
      | _ => none
    | .view s p => match E s with
      | .d (.own _ _ es xs) => some (.lst .any es xs, True)
      | .box x => match x.get p with
        | .own _ _ es xs => some (.lst .any es xs, True)
        | _ => none
      | _ => none
    | .elt s p i q => match E s with
      | .d (.own _ _ _ xs) => some (.pt ((xs.getD i un).get q), True)
      | .box x => match x.get p with
        | .own _ _ _ xs => some (.pt ((xs.getD i un).get q), True)
        | _ => none
      | _ => none
    | .d (.own _ _ es xs) => some (.lst .any es xs, True)
    | .d x => some (x, x.pl = true)
    | _ => none
  | o => opOf E o

omit [Tables] in
theorem wopOf_sound {o : Operand} {x : D} {c : Prop} (h : wopOf E o = some (x, c)) (hc : c) : WOp E o x := by
  unfold wopOf at h
  split at h
  · split at h
    · next h1 => cases h; exact .wk h1 hc
    · next h1 => cases h; exact .adr (p := []) ⟨h1, .inr ⟨rfl, rfl⟩⟩
    · next h1 =>
      split at h
      · next h2 => cases h; exact .adr ⟨h2, .inl h1⟩
      · cases h
    · next h1 =>
      split at h
      · next h2 => cases h; exact .vw (.inl ⟨h1, .inl h2⟩)
      · next h2 =>
        split at h
        · next h3 => cases h; exact .vw (.inl ⟨h1, .inr ⟨_, h2, h3⟩⟩)
        · cases h
      · cases h
    · next h1 =>
      split at h
      · next h2 => cases h; exact .elt ⟨h1, .inl h2⟩
      · next h2 =>
        split at h
        · next h3 => cases h; exact .elt ⟨h1, .inr ⟨_, h2, h3⟩⟩
        · cases h
      · cases h
    · next h1 => cases h; exact .vw (.inr ⟨h1, rfl, rfl⟩)
    · next hE _ => cases h; exact .pl (.tmp (by assumption) hc)
    · cases h
  · exact .pl (opOf_sound h hc)

def wopsOf (E : Nat → Slot) : List Operand → Option (List D × Prop)
  | [] => some ([], True)
  | o :: os => match wopOf E o with
    | none => none
    | some (x, s) => match wopsOf E os with
      | none => none
      | some (xs, s') => some (x :: xs, s ∧ s')

omit [Tables] in
theorem wopsOf_sound : ∀ {os : List Operand} {xs : List D} {c : Prop}, wopsOf E os = some (xs, c) → c → WOps E os xs
  | [], _, _, h, _ => by cases h; exact .nil
  | o :: os, _, _, h, hc => by
    unfold wopsOf at h
    split at h
    · cases h
    · next h1 =>
      split at h
      · cases h
      · next h2 => cases h; exact .cons (wopOf_sound h1 hc.1) (wopsOf_sound h2 hc.2)

/-- What is flat is known for good. -/
def keepS (x : D) : Slot := if x.flatv then .d x else .wk x

theorem Ev.wk1 {o : Oper} {z : D} {xs : List (Operand × D)} (hx : ∀ x ∈ xs, WOp E x.1 x.2 ∧ x.1 ∈ o.op.operands.toList) (hz : ExD P o xs z) : Ev P Θ E o (keepS z) := by
  unfold keepS
  split
  · next hf => exact .wplainF hx hz hf
  · exact .wplain hx hz

theorem Ev.callsF {o : Oper} {fo : Operand} {args : Array Operand} {ts : Array TypeId} {f : FuncId} {fs cs ds : List D} {r : D} {c1 c2 : Prop} (ho : o.op = .call { callee := .value fo, args := args, argTypes := ts })
    (h1 : wopOf E fo = some (.fn (.func f) fs cs, c1)) (h2 : wopsOf E args.toList = some (ds, c2)) (hr : r.fl = true) (hc : c1 ∧ c2) (hf : Callable P f) (hd : DFun P f (fs ++ ds ++ cs) r) : Ev P Θ E o (.d r) :=
  .wcall ho (wopOf_sound h1 hc.1) (wopsOf_sound h2 hc.2) hf hd hr
theorem Ev.callsW {o : Oper} {fo : Operand} {args : Array Operand} {ts : Array TypeId} {f : FuncId} {fs cs ds : List D} {r : D} {c1 c2 : Prop} (ho : o.op = .call { callee := .value fo, args := args, argTypes := ts })
    (h1 : wopOf E fo = some (.fn (.func f) fs cs, c1)) (h2 : wopsOf E args.toList = some (ds, c2)) (hr : r.noOwn = true) (hc : c1 ∧ c2) (hf : Callable P f) (hd : DFun P f (fs ++ ds ++ cs) r) : Ev P Θ E o (.wk r) :=
  .wcallW ho (wopOf_sound h1 hc.1) (wopsOf_sound h2 hc.2) hf hd hr

/-! ### Operations over data wherever they lie -/

omit [Tables] in
theorem ExD_load {o : Oper} {T : TypeId} {x : Operand} {d : D} (hΘ : Agree P Θ) (ho : o.op = .load T x) (hx : ∀ g, x ≠ .global g) (hf : (Θ T).fits d = true) : ExD P o [(x, .pt d)] d := by
  intro S w ev _ h
  obtain ⟨cs, h1, h2⟩ := h (x, .pt d) (by simp)
  simp only [Rp] at h1
  obtain ⟨b, o', us, rfl, h3, h4, h5⟩ := h1
  simp only [VC] at h2
  have he : ev x = .pointer (some ⟨b, o', none⟩) := by simpa using h2.symm
  obtain ⟨u, k1, k2⟩ := loadVar_run (P := P) hΘ hf (Rp.len _ h5) h4
  refine ⟨u, ?_, us, h5, k1⟩
  cases x with
  | global g => exact absurd rfl (hx g)
  | _ => simp [execOp, ho, Instr.loadAt, Instr.sureAddr, he, k2]

omit [Tables] in
theorem ExD_fa {o : Oper} {T f : Nat} {x : Operand} {ds : List D} {fs : List (TypeId × Nat)} {Tf : TypeId} (hΘ : Agree P Θ) (ho : o.op = .fieldAddr T x f) (hf : f < ds.length) (ht : (Θ T).td = .st fs) (hfs : fs[f]? = some (Tf, sizes (ds.take f))) :
    ExD P o [(x, .pt (.st ds))] (.pt (ds.getD f un)) := by
  intro S w ev _ h
  obtain ⟨cs, h1, h2⟩ := h (x, .pt (.st ds)) (by simp)
  simp only [Rp] at h1
  obtain ⟨b, o', us, rfl, h3, h4, h5⟩ := h1
  simp only [VC] at h2
  have he : ev x = .pointer (some ⟨b, o', none⟩) := by simpa using h2.symm
  refine ⟨.pointer (some ⟨b, o' + sizes (ds.take f), none⟩), by simp [execOp, ho, he, fieldAt_run (hΘ.says ht) hfs], [.pointer (some ⟨b, o' + sizes (ds.take f), none⟩)], ?_, by rfl⟩
  obtain ⟨m, k1, k2, _⟩ := Rp.part (p := [f]) (d := .st ds) h5 h4 (by simp [D.okp, hf])
  simp only [Rp]
  exact ⟨b, _, m, rfl, h3, by simpa [D.off] using k1, by simpa [D.get] using k2⟩

omit [Tables] in
theorem ExD_ia {o : Oper} {T : TypeId} {x ix : Operand} {sk es xs ik i e b} (hΘ : Agree P Θ) (ho : o.op = .indexAddr T x ix) (h0 : 0 ≤ i) (hi : i.toNat < xs.length) (ht : (Θ T).td = .sl e es b) :
    ExD P o [(x, .lst sk es xs), (ix, .v (.int ik i))] (.pt (xs.getD i.toNat un)) := by
  intro S w ev _ h
  obtain ⟨cs, h1, h2⟩ := h (x, .lst sk es xs) (by simp)
  have hv := (h (ix, .v (.int ik i)) (by simp)).v
  simp only [Rp] at h1
  obtain ⟨ad, l, c, rfl, h3, h4⟩ := h1
  simp only [VC] at h2
  have he : ev x = .slice ad l c := by simpa using h2.symm
  have hl : l = xs.length := by cases sk <;> simp_all [Hdr]
  subst hl
  cases ad with
  | none =>
    have : xs = [] := by cases sk <;> simp_all [Hdr]
    subst this
    simp at hi
  | some ad =>
    obtain ⟨m, k1, k2, k3, k4, k5⟩ := Rpx.at _ xs (h4 ad rfl) hi
    obtain ⟨b', o', sp⟩ := ad
    simp only at k2 k3 k4
    subst k2
    have hlt : i < (xs.length : Int) := by omega
    simp only at hv
    refine ⟨.pointer (some ⟨b', o' + es * i.toNat, none⟩), by simp [execOp, ho, he, hv, indexAt_slice_run (hΘ.says ht) h0 hlt], [.pointer (some ⟨b', o' + es * i.toNat, none⟩)], ?_, by rfl⟩
    simp only [Rp]
    exact ⟨b', _, m, rfl, k3, k4, k5⟩

omit [Tables] in
theorem ExD_iar {o : Oper} {T : TypeId} {x ix : Operand} {es ds ik i e} (hΘ : Agree P Θ) (ho : o.op = .indexAddr T x ix) (h0 : 0 ≤ i) (hi : i.toNat < ds.length) (ht : (Θ T).td = .ar ds.length e es) :
    ExD P o [(x, .pt (.arr es ds)), (ix, .v (.int ik i))] (.pt (ds.getD i.toNat un)) := by
  intro S w ev _ h
  obtain ⟨cs, h1, h2⟩ := h (x, .pt (.arr es ds)) (by simp)
  have hv := (h (ix, .v (.int ik i)) (by simp)).v
  simp only [Rp] at h1
  obtain ⟨b, o', us, rfl, h3, h4, h5⟩ := h1
  simp only [VC] at h2
  have he : ev x = .pointer (some ⟨b, o', none⟩) := by simpa using h2.symm
  have hlt : i < (ds.length : Int) := by omega
  simp only at hv
  refine ⟨.pointer (some ⟨b, o' + es * i.toNat, none⟩), by simp [execOp, ho, he, hv, indexAt_array_run (hΘ.says ht) h0 hlt], [.pointer (some ⟨b, o' + es * i.toNat, none⟩)], ?_, by rfl⟩
  obtain ⟨m, k1, k2, _⟩ := Rp.part (p := [i.toNat]) (d := .arr es ds) h5 h4 (by simp [D.okp, hi])
  simp only [Rp]
  exact ⟨b, _, m, rfl, h3, by simpa [D.off] using k1, by simpa [D.get] using k2⟩

omit [Tables] in
theorem ExD_nilc {o : Oper} {x : Operand} {d : D} (ho : o.op = .nilCheck x) : ExD P o [(x, .pt d)] (.pt d) := by
  intro S w ev _ h
  have h0 := h (x, .pt d) (by simp)
  obtain ⟨cs, h1, h2⟩ := h0
  have h1' := h1
  simp only [Rp] at h1'
  obtain ⟨b, o', us, rfl, h3, h4, h5⟩ := h1'
  simp only [VC] at h2
  have he : ev x = .pointer (some ⟨b, o', none⟩) := by simpa using h2.symm
  exact ⟨.pointer (some ⟨b, o', none⟩), by simp [execOp, ho, he], _, h1, by rfl⟩

/-- A quiet operation over what may lie anywhere: what it yields, and what it asks. -/
def evw (Θ : TypeId → TI) (E : Nat → Slot) (o : Oper) : Option (Slot × Prop) :=
  match o.op with
  | .load T (.tmp k) => match wopOf E (.tmp k) with
    | some (.pt d, c) => some (keepS d, c ∧ (Θ T).fits d = true)
    | _ => none
  | .fieldAddr T (.tmp k) f => match wopOf E (.tmp k), (Θ T).td with
    | some (.pt (.st ds), c), .st fs => some (keepS (.pt (ds.getD f un)), c ∧ faOk fs ds f = true)
    | _, _ => none
  | .indexAddr T (.tmp k) ix => match wopOf E (.tmp k), opOf E ix, (Θ T).td with
    | some (.lst _ es xs, c), some (.v (.int _ i), c'), .sl _ es' _ => some (keepS (.pt (xs.getD i.toNat un)), c ∧ c' ∧ es = es' ∧ 0 ≤ i ∧ i.toNat < xs.length)
    | some (.pt (.arr es ds), c), some (.v (.int _ i), c'), .ar n _ es' => some (keepS (.pt (ds.getD i.toNat un)), c ∧ c' ∧ es = es' ∧ ds.length = n ∧ 0 ≤ i ∧ i.toNat < ds.length)
    | _, _, _ => none
  | .nilCheck (.tmp k) => match wopOf E (.tmp k) with
    | some (.pt d, c) => some (keepS (.pt d), c)
    | _ => none
  | .makeFunc f first cap => match wopsOf E first.toList, wopsOf E cap.toList with
    | some (fs, c), some (cs, c') => some (.wk (.fn f fs cs), c ∧ c')
    | _, _ => none
  | .extract (.tmp k) i => match E k with
    | .wk (.tup ds) => some (keepS (ds.getD i un), i < ds.length)
    | _ => none
  | .call ⟨.builtin .len, args, ts⟩ => match args.toList, ts.toList with
    | [x], [T] => match wopOf E x, (Θ T).td with
      | some (.lst _ _ xs, c), .sl _ _ _ => some (.d (.v (.int .i64 xs.length)), c)
      | _, _ => none
    | _, _ => none
  | _ => none

theorem evw_sound {o : Oper} {s : Slot} {c : Prop} (hΘ : Agree P Θ) (h : evw Θ E o = some (s, c)) (hc : c) : Ev P Θ E o s := by
  unfold evw at h
  split at h
  · next T k ho =>
    split at h
    · next d c h1 =>
      cases h
      exact .wk1 (xs := [(.tmp k, .pt d)]) (by intro x hx; simp at hx; subst hx; exact ⟨wopOf_sound h1 hc.1, by simp [ho, Op.operands]⟩) (ExD_load hΘ ho (by simp) hc.2)
    · cases h
  · next T k f ho =>
    split at h
    · next ds c fs h1 h2 =>
      cases h
      obtain ⟨c1, Tf, c2⟩ := faOk_sound hc.2
      exact .wk1 (xs := [(.tmp k, .pt (.st ds))]) (by intro x hx; simp at hx; subst hx; exact ⟨wopOf_sound h1 hc.1, by simp [ho, Op.operands]⟩) (ExD_fa hΘ ho c1 h2 c2)
    · cases h
  · next T k ix ho =>
    split at h
    · next sk es xs c ik i c' e es' b h1 h2 h3 =>
      cases h
      obtain ⟨c1, c2, rfl, c3, c4⟩ := hc
      refine .wk1 (xs := [(.tmp k, .lst sk es xs), (ix, .v (.int ik i))]) (by
        intro x hx
        simp only [List.mem_cons, List.not_mem_nil, or_false] at hx
        rcases hx with rfl | rfl
        · exact ⟨wopOf_sound h1 c1, by simp [ho, Op.operands]⟩
        · exact ⟨.pl (opOf_sound h2 c2), by simp [ho, Op.operands]⟩) (ExD_ia hΘ ho c3 c4 h3)
    · next es ds c ik i c' n e es' h1 h2 h3 =>
      cases h
      obtain ⟨c1, c2, rfl, rfl, c3, c4⟩ := hc
      refine .wk1 (xs := [(.tmp k, .pt (.arr es ds)), (ix, .v (.int ik i))]) (by
        intro x hx
        simp only [List.mem_cons, List.not_mem_nil, or_false] at hx
        rcases hx with rfl | rfl
        · exact ⟨wopOf_sound h1 c1, by simp [ho, Op.operands]⟩
        · exact ⟨.pl (opOf_sound h2 c2), by simp [ho, Op.operands]⟩) (ExD_iar hΘ ho c3 c4 h3)
    · cases h
  · next k ho =>
    split at h
    · next d c h1 =>
      cases h
      exact .wk1 (xs := [(.tmp k, .pt d)]) (by intro x hx; simp at hx; subst hx; exact ⟨wopOf_sound h1 hc, by simp [ho, Op.operands]⟩) (ExD_nilc ho)
    · cases h
  · next f first cap ho =>
    split at h
    · next h1 h2 => cases h; exact .wmf ho (wopsOf_sound h1 hc.1) (wopsOf_sound h2 hc.2)
    · cases h
  · next k i ho =>
    split at h
    · next ds h1 =>
      cases h
      unfold keepS
      split
      · next hf => exact .wextF ho h1 hc hf
      · exact .wext ho h1 hc
    · cases h
  · next args ts ho =>
    split at h
    · next x T ha ht =>
      split at h
      · next sk es xs c e es' b h1 h2 =>
        cases h
        have ha' : args = #[x] := by apply Array.ext'; simpa using ha
        have ht' : ts = #[T] := by apply Array.ext'; simpa using ht
        subst ha' ht'
        refine .wplainF (xs := [(x, .lst sk es xs)]) (by intro y hy; simp at hy; subst hy; exact ⟨wopOf_sound h1 hc, by simp [ho, Op.operands, Call.operands]⟩) (ExD_len hΘ ho h2) rfl
      · cases h
    · cases h
  · cases h

section
variable {R : (Nat → Slot) → Prop} {ops : Array Oper} {ld : List Nat} {i : Nat} {os : List Oper} {k : List Item} {l : Env} {d : Nat} {op : Op} {ty : TypeId} {pos : String} {af : Array Edge}

theorem OpsAt.anyw {s : Slot} {c : Prop} (hΘ : Agree P Θ) (h : evw Θ (lk l) ⟨some d, op, ty, pos, af, none⟩ = some (s, c)) (hd : (decide (d < n) && !owner (lk l d)) = true) (hc : c)
    (next : OpsAt P Θ n R ops ld (i + 1) os k (lk ((d, s) :: l))) : OpsAt P Θ n R ops ld i (⟨some d, op, ty, pos, af, none⟩ :: os) k (lk l) :=
  .ev (evw_sound hΘ h hc) hd next
theorem OpsAt.anywg {s : Slot} {c : Prop} {j : Nat} {want : Bool} (hΘ : Agree P Θ) (hg : guardOf ops (lk l) j want = some true) (h : evw Θ (lk l) ⟨some d, op, ty, pos, af, some (j, want)⟩ = some (s, c)) (hd : (decide (d < n) && !owner (lk l d)) = true) (hc : c)
    (next : OpsAt P Θ n R ops ld (i + 1) os k (lk ((d, s) :: l))) : OpsAt P Θ n R ops ld i (⟨some d, op, ty, pos, af, some (j, want)⟩ :: os) k (lk l) :=
  .evg hg (evw_sound hΘ h hc) hd next
end

abbrev xa := @OpsAt.anyw
abbrev xb := @OpsAt.anywg
abbrev xc := @Ev.callsF
abbrev xd := @Ev.callsW
end Go.Dat

namespace Go.Dat

variable [Tables]

variable {P : Program} {Θ : TypeId → TI} {n : Nat} {E E' : Nat → Slot} {w : World}

theorem Ev.strIx {o : Oper} {T : TypeId} {x ix : Operand} {s : ByteArray} {k : IntKind} {i : Int} {b : UInt8} {c1 c2 : Prop} (hu : P.underlying T = some .string) (ho : o.op = .index T x ix) (h1 : opOf E x = some (.v (.string s), c1))
    (h2 : opOf E ix = some (.v (.int k i), c2)) (h : c1 ∧ c2 ∧ 0 ≤ i ∧ s[i.toNat]? = some b) : Ev P Θ E o (.d (.v (.int .u8 b.toNat))) := by
  obtain ⟨g1, g2, g3, g4⟩ := h
  refine .plain (xs := [(x, .v (.string s)), (ix, .v (.int k i))]) (fun y hy => ?_) ?_
  · simp only [List.mem_cons, List.not_mem_nil, or_false] at hy
    rcases hy with rfl | rfl
    · exact ⟨opOf_sound h1 g1, by simp [ho, Op.operands]⟩
    · exact ⟨opOf_sound h2 g2, by simp [ho, Op.operands]⟩
  · intro S w ev _ hev
    have e1 := (hev (x, .v (.string s)) (by simp)).v
    have e2 := (hev (ix, .v (.int k i)) (by simp)).v
    simp only at e1 e2
    exact ⟨.int .u8 b.toNat, by simp [execOp, ho, e1, e2, Instr.index, asIntOf, run_underlying hu, g3, g4], RD.ofV rfl⟩

theorem Ev.strFrom {o : Oper} {T : TypeId} {x lo : Operand} {s : ByteArray} {k : IntKind} {i : Int} {c1 c2 : Prop} (hu : P.underlying T = some .string) (ho : o.op = .slice T x (some lo) none none) (h1 : opOf E x = some (.v (.string s), c1))
    (h2 : opOf E lo = some (.v (.int k i), c2)) (h : c1 ∧ c2 ∧ 0 ≤ i ∧ i ≤ s.size) : Ev P Θ E o (.d (.v (.string (s.extract i.toNat s.size)))) := by
  obtain ⟨g1, g2, g3, g4⟩ := h
  refine .plain (xs := [(x, .v (.string s)), (lo, .v (.int k i))]) (fun y hy => ?_) ?_
  · simp only [List.mem_cons, List.not_mem_nil, or_false] at hy
    rcases hy with rfl | rfl
    · exact ⟨opOf_sound h1 g1, by simp [ho, Op.operands]⟩
    · exact ⟨opOf_sound h2 g2, by simp [ho, Op.operands]⟩
  · intro S w ev _ hev
    have e1 := (hev (x, .v (.string s)) (by simp)).v
    have e2 := (hev (lo, .v (.int k i)) (by simp)).v
    simp only at e1 e2
    refine ⟨.string (s.extract i.toNat s.size), ?_, RD.ofV rfl⟩
    have hb : (Instr.sliceBounds false s.size s.size (some (.int k i)) none none).run P w = .ok (i.toNat, s.size, s.size) w := by
      simp [Instr.sliceBounds, sliceBound_run g3 (show i.toNat ≤ s.size by omega)]
    simp [execOp, ho, e1, e2, Instr.sliceAt, Instr.slice, run_underlying hu, hb]

theorem Ev.strLen {o : Oper} {x : Operand} {T : TypeId} {s : ByteArray} {c : Prop} (hu : P.underlying T = some .string) (ho : o.op = .call { callee := .builtin .len, args := #[x], argTypes := #[T] }) (h : opOf E x = some (.v (.string s), c)) (hc : c) :
    Ev P Θ E o (.d (.v (.int .i64 s.size))) :=
  .plain (xs := [(x, .v (.string s))]) (fun y hy => by
    simp only [List.mem_singleton] at hy
    subst hy
    exact ⟨opOf_sound h hc, by simp [ho, Op.operands, Call.operands]⟩) (by
    intro S w ev _ hev
    have e1 := (hev (x, .v (.string s)) (by simp)).v
    simp only at e1
    exact ⟨.int .i64 s.size, by simp [execOp, ho, resolve, invoke, builtin, Builtin.len_, e1, run_underlying hu, goInt], RD.ofV rfl⟩)

omit [Tables] in
theorem BinD.neNil {T : TypeId} {x y : Operand} (hu : P.underlying T = some (.interface (P.methodsAt T))) : BinD P .neq T x y (.dead true) (.v .nilIface) (.v (.bool true)) := by
  intro S w u v hu' hv
  obtain ⟨cs, h1, h2⟩ := hu'
  simp only [Rp] at h1
  obtain ⟨v0, rfl, h3, h4⟩ := h1
  simp only [VC] at h2
  obtain rfl : v0 = u := by simpa using h2
  obtain ⟨t, z, rfl⟩ := h4 trivial
  have e2 := hv.v
  subst e2
  refine ⟨.bool true, ?_, RD.ofV rfl⟩
  have hg : (eqGuard .neq T x y (.iface t z) .nilIface).run P w = .ok () w := by unfold eqGuard; split <;> rfl
  rw [Sem.run_bind, hg, Result.andThen_ok, run_neq_held_nil w T t z hu]

omit [Tables] in
theorem BinD.neNilNil {T : TypeId} {x : Operand} (hu : P.underlying T = some (.interface (P.methodsAt T))) : BinD P .neq T x (.const .nilIface) (.v .nilIface) (.v .nilIface) (.v (.bool false)) := by
  intro S w u v hu' hv
  have e1 := hu'.v
  have e2 := hv.v
  subst e1 e2
  refine ⟨.bool false, ?_, RD.ofV rfl⟩
  have hg : (eqGuard .neq T x (.const .nilIface) .nilIface .nilIface).run P w = .ok () w := by unfold eqGuard; simp
  rw [Sem.run_bind, hg, Result.andThen_ok, run_neq_nil_nil w T hu]

/-! ### Functions of the library -/

omit [Tables] in
theorem Rpv.vs {S : Nat → Prop} : ∀ {xs vals : List Value}, Rpv S w (xs.map D.v) vals → vals = xs
  | [], _, h => by simpa [Rpv] using h
  | x :: xs, _, h => by
    simp only [List.map_cons, Rpv] at h
    obtain ⟨u, y, cs, rfl, h1, h2, h3⟩ := h
    rw [Rpv.vs h3, RD.v ⟨cs, h1, h2⟩]

/-- Of a function over plain values, which lays at most new memory. -/
theorem DFun.lib {f : FuncId} {xs : List Value} {r : D} (hr : r.flatv = true) (h : ∀ w, Tables.holds w → Calls P f xs.toArray w fun e w' => ∃ v, e = .returned v ∧ WV w' r v ∧ Go.RowKit.Below w.heap.size w w') : DFun P f (xs.map D.v) r := by
  classical
  intro S w vals hS hT hv
  obtain rfl := Rpv.vs hv
  refine (h w hT.2).mono ?_
  rintro e w' ⟨v, rfl, h1, hb⟩
  refine ⟨v, tagS S, rfl, ⟨fun _ _ => rfl, fun b hb' => ⟨rfl, hb.block b hb'⟩, fun b hb' => ?_, hb.os, hb.tape, hb.output, hb.size⟩, ?_⟩
  · exact Nat.lt_of_lt_of_le (hS b (Classical.byContradiction fun hne => hb' (by simp [tagS, hne]))) hb.size
  · cases r with
    | tup ds =>
      obtain ⟨us, rfl, h1⟩ := h1
      refine ⟨us, rfl, RVs.flatv (ρ := tagS (All w')) (w := w') (t := 0) hr (Rpv.rvs ?_)⟩
      rw [sh_tagS]; exact h1
    | _ => exact (RD.flat hr h1).rv

/-- Branches that join: what follows is shown once. -/
theorem Run.join {R : (Nat → Slot) → Prop} {α : Type} {c : Code} {k : List Item} {l : Env} (I : α → Prop) (f : α → Env) (h1 : ∀ a, I a → Run P Θ n R k (lk (f a))) (h2 : (∀ a, I a → Run P Θ n R k (lk (f a))) → Run P Θ n R (.code c :: k) (lk l)) :
    Run P Θ n R (.code c :: k) (lk l) := h2 h1
end Go.Dat

namespace Go.Dat

variable [Tables]

variable {P : Program} {Θ : TypeId → TI} {n : Nat} {ρ ρ' ρ'' : Nat → Tag} {w w' w'' : World} {E E' E1 E2 : Nat → Slot}
variable {ops : Array Oper} {Q : Exit → Act → World → Prop}

def bare (s : Slot) : Bool := (refers s).isNone && !isWk s
def Bare (E : Nat → Slot) : Prop := ∀ u, bare (E u) = true

inductive StepB (P : Program) (Θ : TypeId → TI) (n : Nat) (ops : Array Oper) (E : Nat → Slot) (o : Oper) : (Nat → Slot) → Prop
  | q {d s} : Wants ops E o true → o.dst = some d → d < n → owner (E d) = false → Ev P Θ E o s → bare s = true → StepB P Θ n ops E o (upd E d s)
  | skip {d} : Wants ops E o false → o.dst = some d → d < n → owner (E d) = false → StepB P Θ n ops E o (upd E d .no)
  | st {T k x X y} : o.dst = none → o.guard = none → o.op = .store T (.tmp k) x → E k = .box X → OpD E x y → (Θ T).fits y = true → y.size = X.size → X.noOwn = true → StepB P Θ n ops E o (upd E k (.box y))

inductive ChainB (P : Program) (Θ : TypeId → TI) (n : Nat) (ops : Array Oper) : List Nat → (Nat → Slot) → (Nat → Slot) → Prop
  | nil {E0} : ChainB P Θ n ops [] E0 E0
  | cons {i is o E0 E1 E2} : ops[i]? = some o → StepB P Θ n ops E0 o E1 → ChainB P Θ n ops is E1 E2 → ChainB P Θ n ops (i :: is) E0 E2

/-- The slot that an operation changes. -/
def tgt (o : Oper) : Option Nat :=
  match o.dst with
  | some d => some d
  | none => match o.op with
    | .store _ (.tmp k) _ => some k
    | _ => none

def apart2 (ops : Array Oper) (x y : Oper) : Bool :=
  match tgt x, tgt y with
  | some d, some e => d != e && !(namesOf ops y).contains d && !(namesOf ops x).contains e
  | _, _ => false

omit [Tables] in
theorem Bare.upd {d : Nat} {s : Slot} (h : Bare E) (hs : bare s = true) : Bare (upd E d s) := by
  intro u
  simp only [Dat.upd]
  split
  · exact hs
  · exact h u

omit [Tables] in
theorem Bare.kill {f : Slot → Bool} (h : Bare E) (hf : ∀ s, bare s = true → f s = false) : kill f E = E := by
  funext u
  have h1 := h u
  have h2 := hf _ h1
  simp only [bare, Bool.and_eq_true, Bool.not_eq_true'] at h1
  simp [Dat.kill, h2, h1.2]

theorem StepB.wp {o : Oper} {i : Nat} {a : Act} {K : Act → World → Prop} (hΘ : Agree P Θ) (hB : Bare E) (hI : Inv n ρ w a.tmps E) (h : StepB P Θ n ops E o E') (hi : ops[i]? = some o)
    (hK : ∀ a' w', After n ρ w a E' a' w' → K a' w') : wpOp P ops Q i K a w := by
  cases h with
  | q hw hd hn ho h => exact (Step1.quiet hw hd hn ho h).wp hΘ hI hi hK
  | skip hw hd hn ho => exact (Step1.skip (P := P) (Θ := Θ) hw hd hn ho).wp hΘ hI hi hK
  | @st T k x X y hd hg ho hE hx hf hs hX =>
    have h1 : OpStep P Θ n E o (upd E k (.box y)) := by
      have := OpStep.sto (P := P) (Θ := Θ) (n := n) (p := []) hd ho ⟨hE, .inr ⟨rfl, rfl⟩⟩ hx hf hs hX
      rw [hB.kill (fun s hs => by cases s <;> simp_all [bare, refers, below])] at this
      exact this
    exact (Step1.go (P := P) (Θ := Θ) (Wants.none hg) h1).wp hΘ hI hi hK

omit [Tables] in
theorem StepB.bare [Tables] {o : Oper} (hB : Bare E) (h : StepB P Θ n ops E o E') : Bare E' := by
  cases h with
  | q hw hd hn ho h hs => exact hB.upd hs
  | skip => exact hB.upd rfl
  | st => exact hB.upd rfl

theorem StepB.mv {o : Oper} (h : StepB P Θ n ops E o E') : ∃ d s, tgt o = some d ∧ E' = upd E d s ∧ Dat.bare s = true ∧
    ∀ E2, Bare E → (∀ k ∈ namesOf ops o, E2 k = E k) → E2 d = E d → StepB P Θ n ops E2 o (upd E2 d s) := by
  have key : ∀ {o : Oper} {E2 : Nat → Slot}, Bare E → (∀ k ∈ namesOf ops o, E2 k = E k) → Looks o E E2 := by
    intro o E2 hB h k hk
    refine ⟨h k (by simp [namesOf, hk]), fun s hs => ?_⟩
    have := hB k
    rw [Dat.bare, hs] at this
    cases this
  cases h with
  | @q d s hw hd hn ho h hs =>
    refine ⟨d, s, by simp [tgt, hd], rfl, hs, fun E2 hB hk hdd => .q (hw.stable fun k h => hk k (by simp [namesOf, h])) hd hn (by rw [hdd]; exact ho) (h.stable (key hB hk)) hs⟩
  | @skip d hw hd hn ho =>
    exact ⟨d, .no, by simp [tgt, hd], rfl, rfl, fun E2 hB hk hdd => .skip (hw.stable fun k h => hk k (by simp [namesOf, h])) hd hn (by rw [hdd]; exact ho)⟩
  | @st T k x X y hd hg ho hE hx hf hs hX =>
    refine ⟨k, .box y, by simp [tgt, hd, ho], rfl, rfl, fun E2 hB hk hdd => .st hd hg ho (by rw [hdd]; exact hE) (hx.stable fun k h => hk k ?_) hf hs hX⟩
    simp [namesOf, opTmps, ho, Op.operands, h]

theorem StepB.swap {x y : Oper} (hB : Bare E) (h1 : StepB P Θ n ops E x E1) (h2 : StepB P Θ n ops E1 y E2) (hap : apart2 ops x y = true) :
    ∃ E3, StepB P Θ n ops E y E3 ∧ StepB P Θ n ops E3 x E2 := by
  have hB1 := h1.bare hB
  obtain ⟨d, s, hd, rfl, hs, k1⟩ := h1.mv
  obtain ⟨e, s', he, rfl, hs', k2⟩ := h2.mv
  simp only [apart2, hd, he, Bool.and_eq_true, bne_iff_ne, ne_eq, Bool.not_eq_true', List.contains_eq_mem, decide_eq_false_iff_not] at hap
  obtain ⟨⟨hde, hy⟩, hx⟩ := hap
  refine ⟨upd E e s', k2 E hB1 (fun k hk => (upd_ne (by rintro rfl; exact hy hk)).symm) (upd_ne hde).symm, ?_⟩
  rw [upd_comm hde]
  exact k1 _ hB (fun k hk => upd_ne (by rintro rfl; exact hx hk)) (upd_ne (Ne.symm hde))

theorem ChainB.first {i : Nat} {B : List Nat} : ∀ (A : List Nat) {E E' : Nat → Slot}, Bare E → ChainB P Θ n ops (A ++ i :: B) E E' →
    (∀ j ∈ A, ∀ x y, ops[j]? = some x → ops[i]? = some y → apart2 ops x y = true) →
    ∃ o E1, ops[i]? = some o ∧ StepB P Θ n ops E o E1 ∧ ChainB P Θ n ops (A ++ B) E1 E'
  | [], E, E', hw, h, _ => by
    cases h with
    | cons h1 h3 h4 => exact ⟨_, _, h1, h3, h4⟩
  | j :: A, E, E', hw, h, hA => by
    cases h with
    | @cons _ _ x _ E1 _ h1 h3 h4 =>
      obtain ⟨y, E2, g1, g2, g3⟩ := ChainB.first A (h3.bare hw) h4 (fun k hk => hA k (by simp [hk]))
      obtain ⟨E3, q1, q2⟩ := h3.swap hw g2 (hA j (by simp) x y h1 g1)
      exact ⟨y, E3, g1, q1, .cons h1 q2 g3⟩

/-- Every two operations are in order by the edges, or change places; edges go back. -/
def orderOkB (ops : Array Oper) : Bool :=
  let m := masks ops.toList []
  (List.range ops.size).all fun i =>
    match ops[i]? with
    | none => false
    | some y => y.after.toList.all (fun e => !Region.binds .any e || decide (e.on < i)) &&
      (List.range i).all fun j => (m.getD i 0).testBit j || match ops[j]? with | none => false | some x => apart2 ops x y

omit [Tables] in
theorem orderOkB_spec (h : orderOkB ops = true) {i : Nat} {y : Oper} (hy : ops[i]? = some y) :
    (∀ e ∈ y.after, Region.binds .any e = true → e.on < i) ∧ ∀ j, j < i → Anc ops i j ∨ ∀ x, ops[j]? = some x → apart2 ops x y = true := by
  have hi : i < ops.size := (Array.getElem?_eq_some_iff.1 hy).1
  simp only [orderOkB, List.all_eq_true, List.mem_range] at h
  have h1 := h i hi
  rw [hy] at h1
  simp only [Bool.and_eq_true, List.all_eq_true, Bool.or_eq_true, Bool.not_eq_true', decide_eq_true_eq, List.mem_range] at h1
  refine ⟨fun e he hb => ?_, fun j hj => ?_⟩
  · rcases h1.1 e (by simpa using he) with h | h
    · rw [hb] at h; cases h
    · exact h
  · rcases h1.2 j hj with h | h
    · exact .inl (masks_anc ops.toList [] [] (by simp) rfl (fun k j h => by simp at h) i j h)
    · refine .inr fun x hx => ?_
      rw [hx] at h
      exact h

theorem draw_anyB (hΘ : Agree P Θ) (hok : orderOkB ops = true) : ∀ (fuel : Nat) (listed : Array Bool) {E E' : Nat → Slot} {ρ : Nat → Tag} {w : World} {a : Act}, listed.size = ops.size → Closed ops listed → (rem ops listed).length ≤ fuel → Bare E →
    ChainB P Θ n ops (rem ops listed) E E' → Inv n ρ w a.tmps E → (∀ a' w', After n ρ w a E' a' w' → Q .normal a' w') → wpAny P .any ops Q fuel listed a w := by
  have getD_lt : ∀ (listed : Array Bool) (k : Nat), listed.size = ops.size → k < ops.size → listed.getD k false = listed.getD k true := by
    intro listed k hs hk
    simp [Array.getD_eq_getD_getElem?, Array.getElem?_eq_getElem (show k < listed.size by omega)]
  have hready : ∀ (listed : Array Bool), listed.size = ops.size → Region.ready .any ops listed = [] → rem ops listed = [] := by
    intro listed hs hr
    have all : ∀ i, i < ops.size → listed.getD i true = true := by
      intro i
      induction i using Nat.strongRecOn with
      | _ i ih =>
        intro hi
        refine Classical.byContradiction fun hn => ?_
        have hn' : listed.getD i true = false := by cases h : listed.getD i true <;> simp_all
        obtain ⟨o, ho⟩ : ∃ o, ops[i]? = some o := ⟨ops[i], by simp [hi]⟩
        have : i ∈ Region.ready .any ops listed := by
          unfold Region.ready
          rw [List.mem_filter]
          refine ⟨by simpa using hi, ?_⟩
          simp only [ho, Option.map_some, Option.getD_some, Bool.and_eq_true, hn', Bool.not_false, true_and]
          rw [Array.all_eq_true']
          intro e he
          by_cases hb : Region.binds .any e = true
          · have hlt := (orderOkB_spec hok ho).1 e he hb
            have := ih e.on hlt (by omega)
            rw [getD_lt listed e.on hs (by omega), this]
            simp
          · simp [hb]
        rw [hr] at this
        cases this
    unfold rem
    rw [List.filter_eq_nil_iff]
    intro i hi
    simp [all i (by simpa using hi)]
  have hsub : ∀ (listed : Array Bool) (i : Nat), i ∈ Region.ready .any ops listed → i ∈ rem ops listed ∧ ∀ o, ops[i]? = some o → ∀ e ∈ o.after, Region.binds .any e = true → listed.getD e.on false = true := by
    intro listed i hi
    unfold Region.ready at hi
    rw [List.mem_filter] at hi
    obtain ⟨h1, h2⟩ := hi
    simp only [Bool.and_eq_true] at h2
    refine ⟨List.mem_filter.2 ⟨h1, h2.1⟩, fun o ho e he hb => ?_⟩
    have h3 := h2.2
    rw [ho] at h3
    simp only [Option.map_some, Option.getD_some, Array.all_eq_true'] at h3
    have := h3 e he
    simpa [hb] using this
  intro fuel
  induction fuel with
  | zero =>
    intro listed E E' ρ w a hs hc hl hB hch hI hQ
    have hrem : rem ops listed = [] := List.eq_nil_of_length_eq_zero (by omega)
    rw [hrem] at hch
    cases hch
    refine ⟨?_, hQ _ _ ⟨rfl, _, Fr.refl _ _, hI⟩⟩
    refine List.eq_nil_iff_forall_not_mem.2 fun i hi => ?_
    have := (hsub listed i hi).1
    rw [hrem] at this
    cases this
  | succ fuel ih =>
    intro listed E E' ρ w a hs hc hl hB hch hI hQ
    refine ⟨fun hr => ?_, fun i hi => ?_⟩
    · rw [hready listed hs hr] at hch
      cases hch
      exact hQ _ _ ⟨rfl, _, Fr.refl _ _, hI⟩
    · obtain ⟨h1, h2⟩ := hsub listed i hi
      obtain ⟨A, B, hA, hB', hA2⟩ := rem_split h1
      have hmem := List.mem_filter.1 h1
      have hlt : i < ops.size := by simpa using hmem.1
      obtain ⟨y, hy⟩ : ∃ o, ops[i]? = some o := ⟨ops[i], by simp [hlt]⟩
      rw [hA] at hch
      obtain ⟨o, E1, g1, g2, g3⟩ := ChainB.first A hB hch (fun j hj x y' hx hy' => by
        rw [hy] at hy'
        cases hy'
        obtain ⟨q1, q2⟩ := hA2 j hj
        rcases (orderOkB_spec hok hy).2 j q1 with h | h
        · have := Anc.listed hs hc h (fun o ho e he hb => h2 o ho e he hb)
          rw [getD_lt listed j hs (by omega), q2] at this
          cases this
        · exact h x hx)
      refine g2.wp hΘ hB hI g1 fun a' w' ⟨k1, ρ', k2, k3⟩ => ?_
      refine ih (listed.setIfInBounds i true) (by simpa using hs) ?_ ?_ (g2.bare hB) (by rw [hB']; exact g3) k3 (fun a2 w2 h => hQ a2 w2 (After.trans ⟨k1, k2⟩ h))
      · have hset : ∀ (k : Nat) (x : Bool), (listed.setIfInBounds i true).getD k x = if i = k then true else listed.getD k x := by
          intro k x
          simp only [Array.getD_eq_getD_getElem?, Array.getElem?_setIfInBounds]
          split
          · next h => subst h; simp [hs, hlt]
          · rfl
        intro k o' ho' hk e he hb
        rw [hset] at hk ⊢
        split
        · rfl
        · split at hk
          · next h => subst h; exact h2 o' ho' e he hb
          · exact hc k o' ho' hk e he hb
      · rw [hB']
        rw [hA] at hl
        simp only [List.length_append, List.length_cons] at hl ⊢
        omega

theorem ChainB.region {id : Nat} {a : Act} (hΘ : Agree P Θ) (hm : P.follows .mixedOrders = true) (hok : orderOkB ops = true) (hB : Bare E) (h : ChainB P Θ n ops (List.range ops.size) E E')
    (hI : Inv n ρ w a.tmps E) : (Code.region id ops true).wp P (fun e a' w' => e = .normal ∧ After n ρ w a E' a' w') a w := by
  have hI' : Inv n ρ w.drew a.tmps E := hI.grow (Grow.refl hI.lt).drew
  have hrem : rem ops (Array.replicate ops.size false) = List.range ops.size := by
    unfold rem
    rw [List.filter_eq_self]
    intro i hi
    have : i < ops.size := by simpa using hi
    simp [Array.getD_eq_getD_getElem?, this]
  refine wp_region_any hm (draw_anyB hΘ hok ops.size (Array.replicate ops.size false) (by simp) ?_ (by rw [hrem]; simp) hB (by rw [hrem]; exact h) hI' fun a' w' h => ⟨rfl, ?_⟩)
  · intro i o ho hl
    have : i < ops.size := (Array.getElem?_eq_some_iff.1 ho).1
    simp [Array.getD_eq_getD_getElem?, this] at hl
  · exact After.trans ⟨rfl, (Grow.refl hI.lt).drew.fr⟩ h

theorem RawCode.ofB {id : Nat} (hΘ : Agree P Θ) (hm : P.follows .mixedOrders = true) (hok : orderOkB ops = true) (hB : Bare E) (h : ChainB P Θ n ops (List.range ops.size) E E') : RawCode P n (.region id ops true) E E' := by
  intro ρ w a b k cs hI
  obtain ⟨e, a1, w1, ⟨rfl, h3, ρ1, h4, h5⟩, harr⟩ := h.region hΘ hm hok hB hI b k cs
  exact ⟨a1, w1, harr, h3, ρ1, h4, h5⟩

/-! ### How it is written -/

variable {R : (Nat → Slot) → Prop} {i : Nat} {os : List Oper} {k : List Item} {l : Env}

def OpsB (P : Program) (Θ : TypeId → TI) (n : Nat) (R : (Nat → Slot) → Prop) (ops : Array Oper) (i : Nat) (os : List Oper) (k : List Item) (E : Nat → Slot) : Prop :=
  (∀ j, os[j]? = ops[i + j]?) → ∃ E1, ChainB P Θ n ops (List.range' i os.length) E E1 ∧ Run P Θ n R k E1

omit [Tables] in
theorem bareL (h : (l.all fun x => bare x.2) = true) : Bare (lk l) := by
  intro u
  induction l with
  | nil => rfl
  | cons x l ih =>
    obtain ⟨v, s⟩ := x
    simp only [List.all_cons, Bool.and_eq_true] at h
    simp only [lk]
    split
    · exact h.1
    · exact ih h.2

theorem Run.opsB {id : Nat} (hΘ : Agree P Θ) (hm : P.follows .mixedOrders = true) (hB : (l.all fun x => bare x.2) = true) (hok : orderOkB ops = true) (h : OpsB P Θ n R ops 0 ops.toList k (lk l)) : Run P Θ n R (.code (.region id ops true) :: k) (lk l) := by
  obtain ⟨E1, h1, h2⟩ := h (fun j => by simp)
  refine .raw (.ofB hΘ hm hok (bareL hB) ?_) h2
  rw [List.range_eq_range']
  simpa using h1

theorem OpsB.nil (h : Run P Θ n R k E) : OpsB P Θ n R ops i [] k E := fun _ => ⟨E, .nil, h⟩

theorem OpsB.cons {o : Oper} (h1 : StepB P Θ n ops E o E') (h : OpsB P Θ n R ops (i + 1) os k E') : OpsB P Θ n R ops i (o :: os) k E := by
  intro hj
  obtain ⟨E1, g1, g2⟩ := h (fun j => by have := hj (j + 1); simpa [Nat.add_assoc, Nat.add_comm 1 j] using this)
  refine ⟨E1, ?_, g2⟩
  rw [List.length_cons, List.range'_succ]
  exact .cons (by have := hj 0; simpa using this.symm) h1 g1

variable {d : Nat} {op : Op} {ty : TypeId} {pos : String} {af : Array Edge}

theorem OpsB.ev {s : Slot} (h : Ev P Θ (lk l) ⟨some d, op, ty, pos, af, none⟩ s) (hd : (decide (d < n) && !owner (lk l d) && bare s) = true)
    (next : OpsB P Θ n R ops (i + 1) os k (lk ((d, s) :: l))) : OpsB P Θ n R ops i (⟨some d, op, ty, pos, af, none⟩ :: os) k (lk l) := by
  simp only [Bool.and_eq_true, decide_eq_true_eq, Bool.not_eq_true'] at hd
  exact .cons (.q (Wants.none rfl) rfl hd.1.1 hd.1.2 h hd.2) next

theorem OpsB.q {s : Slot} {c : Prop} (h : evq Θ (lk l) ⟨some d, op, ty, pos, af, none⟩ = some (s, c)) (hd : (decide (d < n) && !owner (lk l d) && bare s) = true) (hc : c)
    (next : OpsB P Θ n R ops (i + 1) os k (lk ((d, s) :: l))) : OpsB P Θ n R ops i (⟨some d, op, ty, pos, af, none⟩ :: os) k (lk l) :=
  .ev (evq_sound h hc) hd next

theorem OpsB.sto {q : Nat} {X y : D} {x : Operand} {T : TypeId} {c : Prop} (ha : lk l q = .box X) (hx : opOf (lk l) x = some (y, c)) (hc : c)
    (hf : ((Θ T).fits y && (y.size == X.size) && X.noOwn) = true) (next : OpsB P Θ n R ops (i + 1) os k (lk ((q, .box y) :: l))) :
    OpsB P Θ n R ops i (⟨none, .store T (.tmp q) x, ty, pos, af, none⟩ :: os) k (lk l) := by
  simp only [Bool.and_eq_true, beq_iff_eq] at hf
  exact .cons (.st rfl rfl rfl ha (opOf_sound hx hc) hf.1.1 hf.1.2 hf.2) next

theorem OpsB.evg {s : Slot} {j : Nat} {want : Bool} (hg : guardOf ops (lk l) j want = some true) (h : Ev P Θ (lk l) ⟨some d, op, ty, pos, af, some (j, want)⟩ s) (hd : (decide (d < n) && !owner (lk l d) && bare s) = true)
    (next : OpsB P Θ n R ops (i + 1) os k (lk ((d, s) :: l))) : OpsB P Θ n R ops i (⟨some d, op, ty, pos, af, some (j, want)⟩ :: os) k (lk l) := by
  simp only [Bool.and_eq_true, decide_eq_true_eq, Bool.not_eq_true'] at hd
  exact .cons (.q (guardOf_sound rfl hg) rfl hd.1.1 hd.1.2 h hd.2) next

theorem OpsB.sk {j : Nat} {want : Bool} (hg : guardOf ops (lk l) j want = some false) (hd : (decide (d < n) && !owner (lk l d)) = true)
    (next : OpsB P Θ n R ops (i + 1) os k (lk ((d, .no) :: l))) : OpsB P Θ n R ops i (⟨some d, op, ty, pos, af, some (j, want)⟩ :: os) k (lk l) := by
  simp only [Bool.and_eq_true, decide_eq_true_eq, Bool.not_eq_true'] at hd
  exact .cons (.skip (guardOf_sound rfl hg) rfl hd.1 hd.2) next

theorem OpsB.say {x y : D} (hE : lk l d = .d x) (h : x = y) (next : OpsB P Θ n R ops i os k (lk ((d, .d y) :: l))) : OpsB P Θ n R ops i os k (lk l) := by
  subst h; rwa [lk_same hE] at next

omit [Tables] in
theorem BinD.eqB {T : TypeId} {x y : Operand} {p q : Bool} (hu : P.underlying T = some .bool) : BinD P .eql T x y (.v (.bool p)) (.v (.bool q)) (.v (.bool (p == q))) := binOf_sound (fun _ => .inl hu) rfl trivial
omit [Tables] in
theorem BinD.neB {T : TypeId} {x y : Operand} {p q : Bool} (hu : P.underlying T = some .bool) : BinD P .neq T x y (.v (.bool p)) (.v (.bool q)) (.v (.bool (p != q))) := binOf_sound (fun _ => .inl hu) rfl trivial

/-- Branches that join, what follows being out of sight. -/
theorem Run.joinK {α : Type} {c : Code} (I : α → Prop) (f : α → Env) (h1 : ∀ a, I a → Run P Θ n R k (lk (f a))) (h2 : ∀ k', (∀ a, I a → Run P Θ n R k' (lk (f a))) → Run P Θ n R (.code c :: k') (lk l)) :
    Run P Θ n R (.code c :: k) (lk l) := h2 k h1

abbrev ya := @OpsB.nil
abbrev yb := @OpsB.q
abbrev yc := @OpsB.ev
abbrev yd := @OpsB.sto
abbrev ye := @OpsB.evg
abbrev yf := @OpsB.sk
end Go.Dat

namespace Go.Dat

variable [Tables]

variable {P : Program} {Θ : TypeId → TI} {n : Nat} {ρ ρ1 : Nat → Tag} {w w' : World} {tmps : Array Value} {E E' : Nat → Slot} {t : Nat} {u : Value}

def mvTag (ρ : Nat → Tag) (x y : Tag) (b : Nat) : Tag := open Classical in if ρ b = x then y else ρ b

omit [Tables] in
theorem mvTag_fr {x y : Tag} (h1 : x ≠ .sh) (h2 : x ≠ .other) : Fr ρ w (mvTag ρ x y) w :=
  ⟨fun b hb => by simp [mvTag, hb, h1.symm], fun b _ hb => by simp [mvTag, hb, h2.symm], fun _ _ _ => rfl, rfl, rfl, rfl, Nat.le_refl _⟩

def gone (s k : Nat) (p : List Nat) (z : Slot) : Bool := below s p z || refersTo k z

omit [Tables] in
theorem gone_owner {s k p} (x : Slot) (h : gone s k p x = true) : owner x = false := by
  simp only [gone, Bool.or_eq_true] at h
  rcases h with h | h
  · exact below_owner x h
  · exact refersTo_owner x h

/-- A place of a box, and a slot, in other words. -/
theorem Inv.reset {s k : Nat} {p : List Nat} {X y : D} {Sl : Slot} (hI : Inv n ρ w tmps E) (hE : E s = .box X) (hks : k ≠ s) (hp : X.okp p) (hsz : y.size = (X.get p).size) (hleaf : ∀ r, (X.get p).okp r → r = [])
    (h1 : ∀ b, ρ b = .sh → ρ1 b = .sh) (h2 : ∀ b, ρ b = .other → ρ1 b = .other) (h3 : ∀ b v r, ρ b = .sl v r → v ≠ k → (v, r) ≠ (s, p) → ρ1 b = .sl v r) (h4 : ∀ b v, ρ b = .bx v → ρ1 b = .bx v)
    (hy : ∀ m b c, tmps.getD s undef = .pointer (some ⟨b, 0, none⟩) → m = [c] → w.cell? ⟨b, X.off p, none⟩ = some c → RB ρ w s p (X.get p) m → RB ρ1 w s p y m) (hone : (X.get p).size = 1)
    (hSl : ∀ E1 : Nat → Slot, E1 s = .box (X.set p y) → RS ρ1 w tmps E1 k (tmps.getD k undef) Sl) :
    Inv n ρ1 w tmps (upd (upd (kill (gone s k p) E) s (.box (X.set p y))) k Sl) := by
  have hsh : ∀ g, ρ g = .sh → ρ1 g = .sh ∧ w.heap[g]? = w.heap[g]? := fun g hg => ⟨h1 g hg, rfl⟩
  have hslot := hI.slot s
  rw [hE] at hslot
  obtain ⟨b, cs, g1, g3, ⟨e, g4⟩, g5⟩ := hslot
  obtain ⟨c1, m, c2, e1, e2, e3, e4⟩ := RB.lens p X g5 hp
  refine ⟨hI.size, fun g hg => hI.lt g (fun ho => hg (h2 g ho)), hI.tab.mono hsh, fun u => ?_⟩
  by_cases hku : k = u
  · subst hku
    simp only [upd, if_true]
    exact hSl _ (by simp [upd, hks])
  by_cases hsu : s = u
  · subst hsu
    simp only [upd, hku, if_false, if_true]
    refine ⟨b, cs, g1, h4 b _ g3, ⟨e, g4⟩, ?_⟩
    rw [e1]
    refine e4 ρ1 w ⟨hsh, fun g r hg hr => ⟨?_, rfl⟩⟩ y m rfl ?_
    · simp only [List.nil_append] at hr
      rw [h3 g s r hg (Ne.symm hks) (by rintro h; cases h; exact hr (List.prefix_refl _)), hg]
    · have hml := RB.len _ e3
      rw [hone] at hml
      obtain ⟨c, rfl⟩ : ∃ c, m = [c] := by
        match m, hml with
        | [c], _ => exact ⟨c, rfl⟩
      simp only [List.nil_append] at e3 ⊢
      refine hy _ b c g1 rfl ?_ e3
      rw [cell_of_row w b _ _ _ _ g4]
      rw [e1, ← e2]
      simp
  simp only [upd, hku, hsu, if_false]
  by_cases hun : kill (gone s k p) E u = .un
  · rw [hun]; trivial
  obtain ⟨k1, k2⟩ := kill_eq hun
  rw [k1]
  simp only [gone, Bool.or_eq_false_iff] at k2
  obtain ⟨k2, k3⟩ := k2
  have hbox : ∀ {q nl' e' es' xs' v}, ¬ p <+: q → OwnAt w tmps E s q nl' e' es' xs' v → OwnAt w tmps (upd (upd (kill (gone s k p) E) s (.box (X.set p y))) k Sl) s q nl' e' es' xs' v := by
    intro q nl' e' es' xs' v hpq h
    rcases h with ⟨h, _⟩ | ⟨x', b', q1, q2, q3, q4, q5⟩
    · rw [hE] at h; cases h
    · rw [hE] at q1; cases q1
      have hqp : ¬ q <+: p := by
        rintro ⟨r, rfl⟩
        have := ((D.okp_app q X r).1 hp).2
        rw [q3] at this
        have hr := own_okp this
        subst hr
        exact hpq (by simp)
      obtain ⟨s1, s2, s3⟩ := D.set_keep p X q hp hsz hpq q2
      exact .inr ⟨X.set p y, b', by simp [upd, hks], s1, by rw [s3 hqp, q3], q4, by rw [s2]; exact q5⟩
  have hE1 : ∀ s', s' ≠ s → s' ≠ k → owner (E s') = true → upd (upd (kill (gone s k p) E) s (.box (X.set p y))) k Sl s' = E s' := by
    intro s' h2 h3 h4
    have h5 : gone s k p (E s') = false := by cases hb : gone s k p (E s') <;> simp_all [gone_owner (s := s) (k := k) (p := p) (E s')]
    simp [upd, h2.symm, h3.symm, kill, h5, isWk_owner h4]
  have hu := hI.slot u
  by_cases hr : refers (E u) = some s
  · cases hEu : E u with
    | ref s' q =>
      rw [hEu] at hr hu k2
      simp only [refers, Option.some.injEq] at hr
      subst hr
      obtain ⟨x', b', q1, q2, q3, q4⟩ := hu
      rw [hE] at q1; cases q1
      by_cases hpq : p = q
      · subst hpq
        obtain ⟨s1, s2, _⟩ := D.set_at (y := y) p X hp
        exact ⟨X.set p y, b', by simp [upd, hks], s1, q3, by rw [s2]; exact q4⟩
      · have hn : ¬ p <+: q := by
          intro hpre
          simp [below, List.isPrefixOf_iff_prefix.2 hpre, hpq] at k2
        obtain ⟨s1, s2, _⟩ := D.set_keep p X q hp hsz hn q2
        exact ⟨X.set p y, b', by simp [upd, hks], s1, q3, by rw [s2]; exact q4⟩
    | view s' q =>
      rw [hEu] at hr hu k2
      simp only [refers, Option.some.injEq] at hr
      subst hr
      obtain ⟨nl', e', es', xs', h⟩ := hu
      refine ⟨nl', e', es', xs', hbox (fun hpre => ?_) h⟩
      simp [below, List.isPrefixOf_iff_prefix.2 hpre] at k2
    | elt s' q i r =>
      rw [hEu] at hr hu k2
      simp only [refers, Option.some.injEq] at hr
      subst hr
      obtain ⟨nl', e', es', xs', g, l, c, h, h'⟩ := hu
      refine ⟨nl', e', es', xs', g, l, c, hbox (fun hpre => ?_) h, h'⟩
      simp [below, List.isPrefixOf_iff_prefix.2 hpre] at k2
    | sub s' q i r =>
      rw [hEu] at hr hu k2
      simp only [refers, Option.some.injEq] at hr
      subst hr
      obtain ⟨nl', e', es', xs', g, l, c, h, h'⟩ := hu
      refine ⟨nl', e', es', xs', g, l, c, hbox (fun hpre => ?_) h, h'⟩
      simp [below, List.isPrefixOf_iff_prefix.2 hpre] at k2
    | mq s' =>
      rw [hEu] at hr hu
      simp only [refers, Option.some.injEq] at hr
      subst hr
      obtain ⟨_, _, q1, _⟩ := hu
      rw [hE] at q1; cases q1
    | _ => rw [hEu] at hr; simp [refers] at hr
  · refine hu.keep hI hsh (fun g r hg => ⟨h3 g u r hg (Ne.symm hku) (by rintro h; cases h; exact hsu rfl), rfl⟩) (fun g hg => ⟨h4 g u hg, rfl⟩) (fun s' hs' => ?_) (.inr ⟨fun _ _ => rfl, Nat.le_refl _⟩)
    have e1 : s' ≠ s := by rintro rfl; exact hr hs'
    have e2 : s' ≠ k := by rintro rfl; simp [refersTo, hs'] at k3
    exact ⟨hE1 s' e1 e2 (hI.refOwner hs'), rfl, fun _ _ => rfl⟩

/-- The own slice at a place of a box becomes a slot's own; the place holds y from now on. -/
theorem Inv.takeOut {s k : Nat} {p : List Nat} {X y : D} {nl e es xs} (hI : Inv n ρ w tmps E) (hE : E s = .box X) (hk : E k = .view s p) (hp : X.okp p) (hX : X.get p = .own nl e es xs) (hsz : y.size = 1)
    (hy : Rp (sh (mvTag ρ (.sl s p) (.sl k []))) w y [tmps.getD k undef]) :
    Inv n (mvTag ρ (.sl s p) (.sl k [])) w tmps (upd (upd (kill (gone s k p) E) s (.box (X.set p y))) k (.d (.own nl e es xs))) := by
  have hks : k ≠ s := by rintro rfl; rw [hE] at hk; cases hk
  have hv : OwnAt w tmps E s p nl e es xs (tmps.getD k undef) := by
    have h := hI.slot k
    rw [hk] at h
    obtain ⟨nl', e', es', xs', h⟩ := h
    rcases h with ⟨h, _⟩ | ⟨x', b', q1, q2, q3, q4, q5⟩
    · rw [hE] at h; cases h
    · rw [hE] at q1; cases q1
      rw [hX] at q3; cases q3
      exact .inr ⟨X, b', hE, q2, hX, q4, q5⟩
  have hown := hv.own hI
  refine hI.reset hE hks hp (by rw [hX, hsz]; rfl) (fun r h => by rw [hX] at h; exact own_okp h) (fun b hb => by simp [mvTag, hb]) (fun b hb => by simp [mvTag, hb]) (fun b v r hb h1 h2 => ?_) (fun b v hb => by simp [mvTag, hb]) (fun m b c hb hm hc hR => ?_) (by rw [hX]; rfl) (fun E1 _ => ?_)
  · simp only [mvTag, hb]
    rw [if_neg]
    rintro h; cases h; exact h2 rfl
  · subst hm
    rcases hv with ⟨h, _⟩ | ⟨x', b', q1, q2, q3, q4, q5⟩
    · rw [hE] at h; cases h
    · rw [hE] at q1; cases q1
      rw [hb] at q4; cases q4
      rw [hc] at q5
      cases q5
      exact RB.ofRp hy
  · exact RV.ofOwn (hown.mono (fun b hb => ⟨by simp [mvTag, hb], rfl⟩) (fun b hb => ⟨by simp [mvTag, hb], rfl⟩))

/-- A slot's own slice becomes that of the place of a box which holds its header. -/
theorem Inv.putIn {s k : Nat} {p : List Nat} {X : D} {nl e es xs} (hI : Inv n ρ w tmps E) (hE : E s = .box X) (hk : E k = .d (.own nl e es xs)) (hp : X.okp p) (hX : X.get p = .v (tmps.getD k undef)) :
    Inv n (mvTag ρ (.sl k []) (.sl s p)) w tmps (upd (upd (kill (gone s k p) E) s (.box (X.set p (.own nl e es xs)))) k (.view s p)) := by
  have hks : k ≠ s := by rintro rfl; rw [hE] at hk; cases hk
  have hown : ROwn ρ w (.sl k []) nl e es xs (tmps.getD k undef) := by
    have h := hI.slot k
    rw [hk] at h
    exact h.own
  have hown' : ROwn (mvTag ρ (.sl k []) (.sl s p)) w (.sl s p) nl e es xs (tmps.getD k undef) := hown.mono (fun b hb => ⟨by simp [mvTag, hb], rfl⟩) (fun b hb => ⟨by simp [mvTag, hb], rfl⟩)
  have hcell : ∃ b, tmps.getD s undef = .pointer (some ⟨b, 0, none⟩) ∧ w.cell? ⟨b, X.off p, none⟩ = some (tmps.getD k undef) := by
    have h := hI.slot s
    rw [hE] at h
    obtain ⟨b, cs, g1, g3, ⟨e0, g4⟩, g5⟩ := h
    obtain ⟨c1, m, c2, e1, e2, e3, _⟩ := RB.lens p X g5 hp
    rw [hX] at e3
    have h3 := (RB.plain (.v (tmps.getD k undef)) rfl).1 e3
    simp only [Rp] at h3
    refine ⟨b, g1, ?_⟩
    rw [cell_of_row w b _ _ _ _ g4, e1, h3.1, ← e2]
    simp
  refine hI.reset hE hks hp (by rw [hX]; rfl) (fun r h => by rw [hX] at h; cases r with | nil => rfl | cons _ _ => simp [D.okp] at h) (fun b hb => by simp [mvTag, hb]) (fun b hb => by simp [mvTag, hb]) (fun b v r hb h1 h2 => ?_) (fun b v hb => by simp [mvTag, hb]) (fun m b c hb hm hc hR => ?_) (by rw [hX]; rfl) (fun E1 hE1 => ?_)
  · simp only [mvTag, hb]
    rw [if_neg]
    rintro h; cases h; exact h1 rfl
  · subst hm
    obtain ⟨b', q1, q2⟩ := hcell
    rw [hb] at q1; cases q1
    rw [hc] at q2; cases q2
    simp only [RB]
    exact ⟨_, rfl, hown'⟩
  · obtain ⟨b', q1, q2⟩ := hcell
    obtain ⟨s1, s2, s3⟩ := D.set_at (y := .own nl e es xs) p X hp
    exact ⟨nl, e, es, xs, .inr ⟨_, b', hE1, s1, s3, q1, by rw [s2]; exact q2⟩⟩

omit [Tables] in
theorem Rp.ofV' {S : Nat → Prop} {v : Value} (h : v.oneCell' = true) : Rp S w (.v v) [v] := by simp [Rp, h]

omit [Tables] in
theorem ROwn.oneV {tg : Tag} {nl e es xs} {v : Value} (h : ROwn ρ w tg nl e es xs v) : v.oneCell' = true ∧ v.cells.toList = [v] := by
  obtain ⟨cells, ⟨_, h2⟩, _⟩ := h
  rcases h2 with ⟨rfl, _⟩ | ⟨g, cap, cur, rfl, _⟩ <;> exact ⟨rfl, rfl⟩

theorem OwnAt.ofView {s k : Nat} {p : List Nat} {X : D} {nl e es xs} (hI : Inv n ρ w tmps E) (hE : E s = .box X) (hk : E k = .view s p) (hX : X.get p = .own nl e es xs) : OwnAt w tmps E s p nl e es xs (tmps.getD k undef) := by
  have h := hI.slot k
  rw [hk] at h
  obtain ⟨nl', e', es', xs', h⟩ := h
  rcases h with ⟨h, _⟩ | ⟨x', b', q1, q2, q3, q4, q5⟩
  · rw [hE] at h; cases h
  · rw [hE] at q1; cases q1
    rw [hX] at q3; cases q3
    exact .inr ⟨X, b', hE, q2, hX, q4, q5⟩

omit [Tables] in
theorem D.set_set {y z : D} : ∀ (p : List Nat) (d : D), d.okp p → (d.set p y).set p z = d.set p z
  | [], _, _ => by simp [D.set]
  | i :: p, .st ds, h => by
    simp only [D.okp] at h
    simp only [D.set, List.set_set, D.st.injEq]
    congr 1
    rw [show (ds.set i ((ds.getD i un).set p y)).getD i un = (ds.getD i un).set p y by simp [h.1]]
    exact D.set_set p _ h.2
  | i :: p, .arr es ds, h => by
    simp only [D.okp] at h
    simp only [D.set, List.set_set, D.arr.injEq, true_and]
    congr 1
    rw [show (ds.set i ((ds.getD i un).set p y)).getD i un = (ds.getD i un).set p y by simp [h.1]]
    exact D.set_set p _ h.2
  | _ :: _, .v _, h => by simp [D.okp] at h
  | _ :: _, .lst _ _ _, h => by simp [D.okp] at h
  | _ :: _, .own _ _ _ _, h => by simp [D.okp] at h
  | _ :: _, .fn _ _ _, h => by simp [D.okp] at h
  | _ :: _, .pt _, h => by simp [D.okp] at h
  | _ :: _, .tup _, h => by simp [D.okp] at h
  | _ :: _, .dead _, h => by simp [D.okp] at h

theorem After.trans' {a : Act} {E1 : Nat → Slot} (h : Fr ρ w ρ1 w) {a' : Act} {w' : World} (k : After n ρ1 w a E1 a' w') : a'.defers = a.defers ∧ ∃ ρ', Fr ρ w ρ' w' ∧ Inv n ρ' w' a'.tmps E1 := by
  obtain ⟨k1, ρ2, k2, k3⟩ := k
  exact ⟨k1, ρ2, h.trans k2, k3⟩

/-- The environment in which the own slice of a box's place is slot k's. -/
def outE (E : Nat → Slot) (s k : Nat) (p : List Nat) (X y z : D) : Nat → Slot := upd (upd (kill (gone s k p) E) s (.box (X.set p y))) k (.d z)

/-- An append to the own slice of a box's place. -/
theorem RawOp.appBox {o : Oper} {d k s : Nat} {p : List Nat} {x : Operand} {X : D} {T : TypeId} {nl e es xs ys b} (hΘ : Agree P Θ) (hE : E s = .box X) (hk : E k = .view s p) (hp : X.okp p) (hX : X.get p = .own nl e es xs)
    (hd : o.dst = some d) (hn : d < n) (hod : owner (outE E s k p X (.dead false) (.own nl e es xs) d) = false) (hdk : d ≠ k) (ho : o.op = .call { callee := .builtin .append, args := #[.tmp k, x], argTypes := #[T, T] })
    (hx : Src (outE E s k p X (.dead false) (.own nl e es xs)) x es ys) (ht : (Θ T).td = .sl e es b) (hb : (xs.length + ys.length) * b ≤ 140737488355328) (hm : xs.length + ys.length ≤ maxLen) :
    RawOp P n E o (upd (upd (free k (outE E s k p X (.dead false) (.own nl e es xs))) k .un) d (.d (.own (nl && ys.isEmpty) e es (xs ++ ys)))) := by
  intro ρ w a Q hI
  have hone := ((OwnAt.ofView hI hE hk hX).own hI).oneV
  have hI1 := hI.takeOut (y := .dead false) hE hk hp hX rfl (by simp only [Rp]; exact ⟨_, rfl, hone.1, by simp⟩)
  have hEk : outE E s k p X (.dead false) (.own nl e es xs) k = .d (.own nl e es xs) := by simp [outE, upd]
  exact Oper.wp_mono (fun a' w' h => After.trans' (mvTag_fr (x := .sl s p) (by simp) (by simp)) h) ((OpStep.app hd hn hod hdk ho hEk (.inl rfl) hx ht hb hm).sound hΘ hI1)

omit [Tables] in
theorem kill_kill {f g : Slot → Bool} {u : Nat} (h : ∀ z, g z = true → f z = true) (hf : f .un = false) : kill f (kill g E) u = kill f E u := by
  have h0 : isWk .un = false := rfl
  unfold kill
  by_cases h2 : isWk (E u) = true
  · simp [h2, hf, h0]
  · by_cases h1 : g (E u) = true
    · simp [h1, h _ h1, hf, h0]
    · simp [h1, h2]

/-- An own slice is stored to a box's place. -/
theorem RawOp.stoOwn {o : Oper} {k j s : Nat} {p : List Nat} {X : D} {T : TypeId} {nl e es xs} (hΘ : Agree P Θ) (hk : Adr E k s p X) (hp : X.okp p) (hj : E j = .d (.own nl e es xs)) (hd : o.dst = none) (ho : o.op = .store T (.tmp k) (.tmp j))
    (hf : (Θ T).fits (.own nl e es xs) = true) (hsz : (X.get p).size = 1) (hno : (X.get p).noOwn = true) :
    RawOp P n E o (upd (upd (kill (gone s j p) E) s (.box (X.set p (.own nl e es xs)))) j (.view s p)) := by
  intro ρ w a Q hI
  have hjs : j ≠ s := by rintro rfl; rw [hk.1] at hj; cases hj
  have hown : ROwn ρ w (.sl j []) nl e es xs (a.tmps.getD j undef) := by
    have h := hI.slot j
    rw [hj] at h
    exact h.own
  have hc : Rp (sh ρ) w (.v (a.tmps.getD j undef)) (a.eval (.tmp j)).cells.toList := by
    show Rp (sh ρ) w (.v (a.tmps.getD j undef)) (a.tmps.getD j undef).cells.toList
    rw [hown.oneV.2]
    exact Rp.ofV' hown.oneV.1
  refine Oper.wp_mono (fun a' w' h => ?_) (step_stoV (y := .v (a.tmps.getD j undef)) hΘ hI hd ho hk hc hf (by rw [hsz]; rfl) hno)
  obtain ⟨rfl, _, ρ1, h1, h2⟩ := h
  obtain ⟨s1, _, s3⟩ := D.set_at (y := .v (a'.tmps.getD j undef)) p X hp
  have hj2 : upd (kill (below s p) E) s (.box (X.set p (.v (a'.tmps.getD j undef)))) j = .d (.own nl e es xs) := by
    rw [upd_ne (Ne.symm hjs)]
    simp [kill, hj, below, isWk]
  have h3 := h2.putIn (s := s) (k := j) (p := p) (X := X.set p (.v (a'.tmps.getD j undef))) (by simp [upd]) hj2 s1 s3
  rw [D.set_set p X hp] at h3
  refine ⟨rfl, mvTag ρ1 (.sl j []) (.sl s p), h1.trans (mvTag_fr (x := .sl j []) (by simp) (by simp)), ?_⟩
  have he : upd (upd (kill (gone s j p) (upd (kill (below s p) E) s (.box (X.set p (.v (a'.tmps.getD j undef)))))) s (.box (X.set p (.own nl e es xs)))) j (.view s p) = upd (upd (kill (gone s j p) E) s (.box (X.set p (.own nl e es xs)))) j (.view s p) := by
    funext u
    simp only [upd]
    by_cases e1 : j = u
    · simp [e1]
    by_cases e2 : s = u
    · simp [e1, e2]
    simp only [e1, e2, if_false]
    have : kill (gone s j p) (upd (kill (below s p) E) s (.box (X.set p (.v (a'.tmps.getD j undef))))) u = kill (gone s j p) (kill (below s p) E) u := by simp [kill, upd, e2]
    rw [this, kill_kill (fun z hz => by simp [gone, hz]) rfl]
  rw [← he]
  exact h3

omit [Tables] in
theorem kill_at {f : Slot → Bool} {u : Nat} {x : Slot} (h : E u = x) : kill f E u = if f x || isWk x then .un else x := by subst h; rfl

omit [Tables] in
theorem upd_eq {d : Nat} {s : Slot} : upd E d s d = s := by simp [upd]

omit [Tables] in
theorem Oper.wp_same {o : Oper} {a : Act} {K : Act → World → Prop} {Q : Exit → Act → World → Prop} (hd : o.dst = none) (h : o.wp P a w K Q) : o.wp P a w (fun a' w' => K a' w' ∧ a'.tmps = a.tmps) Q := by
  unfold Oper.wp at h ⊢
  have hp : ∀ (b : Act) (v : Value), b.put o.dst v = b := fun b v => by rw [hd]; rfl
  generalize (execOp a.eval o).run P w = res at h ⊢
  cases res with
  | ok nx w' =>
    cases nx with
    | value v => exact ⟨h, by rw [hp]⟩
    | skip => exact ⟨h, by rw [hp]⟩
    | «defer» dd => exact ⟨h, by rw [hp]⟩
    | enter f args =>
      refine Calls.mono h ?_
      intro ex w'' hh
      cases ex with
      | returned v => exact ⟨hh, by rw [hp]⟩
      | _ => exact hh
    | row row args => exact Rows.mono h fun v w'' hh => ⟨hh, by rw [hp]⟩
    | _ => exact h
  | halt x w' =>
    cases x with
    | panic v => exact h
    | _ => exact h

theorem Inv.setSlot {k : Nat} {sl : Slot} (hI : Inv n ρ w tmps E) (hn : owner (E k) = false) (h : ∀ E1 : Nat → Slot, (∀ u, u ≠ k → E1 u = E u) → RS ρ w tmps E1 k (tmps.getD k undef) sl) : Inv n ρ w tmps (upd E k sl) := by
  refine ⟨hI.size, hI.lt, hI.tab, fun u => ?_⟩
  by_cases hu : k = u
  · subst hu
    have := h (upd E k sl) (fun u hu => upd_ne (Ne.symm hu))
    simpa only [upd, if_true] using this
  · rw [upd_ne hu]
    refine (hI.slot u).keep hI (fun b hb => ⟨hb, rfl⟩) (fun b r hb => ⟨hb, rfl⟩) (fun b hb => ⟨hb, rfl⟩) (fun s' hs' => ⟨?_, rfl, fun _ _ => rfl⟩) (.inr ⟨fun _ _ => rfl, Nat.le_refl _⟩)
    have how := hI.refOwner hs'
    exact upd_ne (by rintro rfl; rw [hn] at how; cases how)

/-- A store to an element of the own slice of a box's place, whose header slot m holds. -/
theorem RawOp.eltBox {o : Oper} {k m s i : Nat} {p q : List Nat} {x : Operand} {X y : D} {T : TypeId} {nl e es xs} (hΘ : Agree P Θ) (hE : E s = .box X) (hm : E m = .view s p) (hk : E k = .elt s p i q) (hp : X.okp p) (hX : X.get p = .own nl e es xs)
    (hd : o.dst = none) (ho : o.op = .store T (.tmp k) x) (hx : OpD E x y) (hf : (Θ T).fits y = true) (hsz : y.size = ((xs.getD i un).get q).size) :
    RawOp P n E o (upd (upd (kill (gone s m p) E) s (.box (X.set p (.own nl e es (xs.set i ((xs.getD i un).set q y)))))) m (.view s p)) := by
  intro ρ w a Q hI
  have hkm : k ≠ m := by rintro rfl; rw [hk] at hm; cases hm
  have hks : k ≠ s := by rintro rfl; rw [hk] at hE; cases hE
  have hms : m ≠ s := by rintro rfl; rw [hm] at hE; cases hE
  have hv := OwnAt.ofView hI hE hm hX
  have hone := (hv.own hI).oneV
  have hI1 := hI.takeOut (y := .v (a.tmps.getD m undef)) hE hm hp hX rfl (Rp.ofV' hone.1)
  have hgk : gone s m p (E k) = true := by rw [hk]; simp [gone, below, List.isPrefixOf_iff_prefix.2 (List.prefix_refl p)]
  have hE1k : upd (upd (kill (gone s m p) E) s (.box (X.set p (.v (a.tmps.getD m undef))))) m (.d (.own nl e es xs)) k = .un := by
    rw [upd_ne (Ne.symm hkm), upd_ne (Ne.symm hks)]
    simp [kill, hgk]
  have hI2 := hI1.setSlot (k := k) (sl := .elt m [] i q) (by rw [hE1k]; rfl) (fun E1 h1 => by
    have h0 := hI.slot k
    rw [hk] at h0
    obtain ⟨nl', e', es', xs', g, l, c, g1, g2, g3, g4⟩ := h0
    have : nl' = nl ∧ e' = e ∧ es' = es ∧ xs' = xs ∧ a.tmps.getD m undef = .slice (some ⟨g, 0, none⟩) l c := by
      rcases g1 with ⟨h, _⟩ | ⟨x', b', q1, q2, q3, q4, q5⟩
      · rw [hE] at h; cases h
      · rw [hE] at q1; cases q1
        rw [hX] at q3; cases q3
        rcases hv with ⟨h, _⟩ | ⟨x2, b2, r1, r2, r3, r4, r5⟩
        · rw [hE] at h; cases h
        · rw [hE] at r1; cases r1
          rw [q4] at r4; cases r4
          rw [q5] at r5
          exact ⟨rfl, rfl, rfl, rfl, (Option.some.inj r5).symm⟩
    obtain ⟨rfl, rfl, rfl, rfl, hh⟩ := this
    exact ⟨nl', e', es', xs', g, l, c, .inl ⟨by rw [h1 m (Ne.symm hkm)]; simp [upd], rfl, hh.symm⟩, g2, g3, g4⟩)
  have hx2 : OpD (upd (upd (upd (kill (gone s m p) E) s (.box (X.set p (.v (a.tmps.getD m undef))))) m (.d (.own nl e es xs))) k (.elt m [] i q)) x y := by
    have hz : ∀ t ∈ operand x, ∃ z, E t = .d z := by cases hx <;> simp_all [operand]
    refine hx.stable fun t h => ?_
    obtain ⟨z, ht⟩ := hz t h
    have e1 : k ≠ t := by rintro rfl; rw [hk] at ht; cases ht
    have e2 : m ≠ t := by rintro rfl; rw [hm] at ht; cases ht
    have e3 : s ≠ t := by rintro rfl; rw [hE] at ht; cases ht
    rw [upd_ne e1, upd_ne e2, upd_ne e3]
    simp [kill, ht, gone, below, refersTo, refers, isWk]
  have hstep := step_elt (Q := Q) hΘ hI2 hd ho upd_eq ((upd_ne hkm).trans upd_eq) hx2 hf hsz
  refine Oper.wp_mono (fun a' w' h => ?_) (Oper.wp_same hd hstep)
  obtain ⟨⟨h0, ρ1, h1, h2⟩, h3⟩ := h
  obtain ⟨s1, _, s3⟩ := D.set_at (y := .v (a.tmps.getD m undef)) p X hp
  have hE2s : upd (kill (belowE m i q) (upd (upd (upd (kill (gone s m p) E) s (.box (X.set p (.v (a.tmps.getD m undef))))) m (.d (.own nl e es xs))) k (.elt m [] i q))) m (.d (.own nl e es (xs.set i ((xs.getD i un).set q y)))) s = .box (X.set p (.v (a.tmps.getD m undef))) := by
    have : upd (upd (upd (kill (gone s m p) E) s (.box (X.set p (.v (a.tmps.getD m undef))))) m (.d (.own nl e es xs))) k (.elt m [] i q) s = .box (X.set p (.v (a.tmps.getD m undef))) := by rw [upd_ne hks, upd_ne hms]; simp [upd]
    rw [upd_ne hms]
    simp only [kill, this]
    rfl
  have h4 := h2.putIn (s := s) (k := m) (p := p) (X := X.set p (.v (a.tmps.getD m undef))) hE2s upd_eq s1 (by rw [s3, h3])
  rw [D.set_set p X hp] at h4
  refine ⟨h0, mvTag ρ1 (.sl m []) (.sl s p), ((mvTag_fr (ρ := ρ) (x := .sl s p) (y := .sl m []) (by simp) (by simp)).trans h1).trans (mvTag_fr (ρ := ρ1) (x := .sl m []) (y := .sl s p) (by simp) (by simp)), ?_⟩
  refine Eq.mp (congrArg _ ?_) h4
  funext u
  by_cases e1 : m = u
  · simp [upd, e1]
  by_cases e2 : s = u
  · simp [upd, e1, e2]
  rw [upd_ne e1, upd_ne e2, upd_ne e1, upd_ne e2]
  have h0' : isWk .un = false := rfl
  by_cases e3 : k = u
  · subst e3
    have : kill (belowE m i q) (upd (upd (upd (kill (gone s m p) E) s (.box (X.set p (.v (a.tmps.getD m undef))))) m (.d (.own nl e es xs))) k (.elt m [] i q)) k = .elt m [] i q := by simp only [kill, upd_eq]; simp [belowE, isWk]
    have h5 : kill (gone s m p) E k = .un := by simp [kill, hgk]
    rw [h5]
    simp only [kill, upd, if_neg (Ne.symm hkm)] at this ⊢
    rw [this]
    simp [gone, refersTo, refers]
  · have e4 : upd (upd (upd (kill (gone s m p) E) s (.box (X.set p (.v (a.tmps.getD m undef))))) m (.d (.own nl e es xs))) k (.elt m [] i q) u = kill (gone s m p) E u := by rw [upd_ne e3, upd_ne e1, upd_ne e2]
    have e5 : upd (kill (belowE m i q) (upd (upd (upd (kill (gone s m p) E) s (.box (X.set p (.v (a.tmps.getD m undef))))) m (.d (.own nl e es xs))) k (.elt m [] i q))) m (.d (.own nl e es (xs.set i ((xs.getD i un).set q y)))) u = kill (belowE m i q) (kill (gone s m p) E) u := by rw [upd_ne e1, kill_at e4]; rfl
    have e6 : kill (belowE m i q) (kill (gone s m p) E) u = kill (gone s m p) E u := by
      by_cases h6 : kill (gone s m p) E u = .un
      · rw [kill_at h6, h6]; rfl
      · obtain ⟨h7, h8⟩ := kill_eq h6
        have h9 : belowE m i q (E u) = false := by
          cases hEu : E u <;> simp_all [belowE, gone, refersTo, refers]
        have h10 : isWk (kill (gone s m p) E u) = false := kill_nwk
        rw [h7] at h10
        rw [kill_at h7, h9, h10, h7]
        rfl
    have e7 := e5.trans e6
    by_cases h6 : kill (gone s m p) E u = .un
    · rw [kill_at (e7.trans h6), h6]; rfl
    · obtain ⟨h7, h8⟩ := kill_eq h6
      have h10 : isWk (kill (gone s m p) E u) = false := kill_nwk
      rw [h7] at h10
      rw [kill_at (e7.trans h7), h8, h10, h7]
      rfl
/-! ### How it is written -/

omit [Tables] in
theorem killK {l : Env} {f : Slot → Bool} : kill f (lk l) = lk (killL f l) := kill_lk

omit [Tables] in
theorem kill_keepV {f : Slot → Bool} {d : Nat} {x : Value} (hf : f (.d (.v x)) = false) (h : E d = .d (.v x)) : kill f E d = .d (.v x) := by
  rw [kill_at h, hf]; rfl

omit [Tables] in
theorem Keeps.putBox {o : Oper} {s m : Nat} {p : List Nat} {X y : D} {sl : Slot} (hs : E s = .box X) (hm : ∀ x, E m ≠ .d (.v x)) : Keeps E o (upd (upd (kill (gone s m p) E) s (.box y)) m sl) := by
  intro d x h _
  have e1 : m ≠ d := by rintro rfl; exact hm x h
  have e2 : s ≠ d := by rintro rfl; rw [hs] at h; cases h
  rw [upd_ne e1, upd_ne e2]
  exact kill_keepV rfl h

section
variable {R : (Nat → Slot) → Prop} {ops : Array Oper} {ld : List Nat} {i : Nat} {os : List Oper} {K : List Item} {l : Env} {ty : TypeId} {pos : String} {af : Array Edge}

/-- The own slice of a box's place is slot k's, the place being dead. -/
def outL (l : Env) (s k : Nat) (p : List Nat) (X z : D) : Env := (k, .d z) :: (s, .box (X.set p (.dead false))) :: killL (gone s k p) l

theorem OpsAt.appBox {d k s : Nat} {p : List Nat} {x : Operand} {X : D} {T : TypeId} {nl e es xs ys b} (hΘ : Agree P Θ) (hk : lk l k = .view s p) (hE : lk l s = .box X) (hp : X.okp p) (hX : X.get p = .own nl e es xs)
    (hx : Src (lk (outL l s k p X (.own nl e es xs))) x es ys) (ht : (Θ T).td = .sl e es b) (hd : (decide (d < n) && !owner (lk (outL l s k p X (.own nl e es xs)) d) && (d != k)) = true)
    (hb : (xs.length + ys.length) * b ≤ 140737488355328) (hm : xs.length + ys.length ≤ maxLen) (hi : ld.contains i = true)
    (next : OpsAt P Θ n R ops ld (i + 1) os K (lk ((d, .d (.own (nl && ys.isEmpty) e es (xs ++ ys))) :: (k, .un) :: killL (refersTo k) (outL l s k p X (.own nl e es xs))))) :
    OpsAt P Θ n R ops ld i (⟨some d, .call { callee := .builtin .append, args := #[.tmp k, x], argTypes := #[T, T] }, ty, pos, af, none⟩ :: os) K (lk l) := by
  simp only [Bool.and_eq_true, decide_eq_true_eq, Bool.not_eq_true', bne_iff_ne, ne_eq] at hd
  have he : outE (lk l) s k p X (.dead false) (.own nl e es xs) = lk (outL l s k p X (.own nl e es xs)) := by unfold outE; rw [killK]; rfl
  have h1 := RawOp.appBox (P := P) (Θ := Θ) (n := n) (o := ⟨some d, .call { callee := .builtin .append, args := #[.tmp k, x], argTypes := #[T, T] }, ty, pos, af, none⟩) hΘ hE hk hp hX rfl hd.1.1 (by rw [he]; exact hd.1.2) hd.2 rfl (by rw [he]; exact hx) ht hb hm
  rw [he] at h1
  unfold free at h1
  rw [killK, upd_lk, upd_lk] at h1
  refine .rw_ h1 (fun v z h hv => ?_) rfl hi next
  have e1 : d ≠ v := fun h => hv (by rw [h])
  have e2 : k ≠ v := by rintro rfl; rw [hk] at h; cases h
  have e3 : s ≠ v := by rintro rfl; rw [hE] at h; cases h
  show upd (upd (lk (killL (refersTo k) (outL l s k p X (.own nl e es xs)))) k .un) d _ v = _
  rw [upd_ne e1, upd_ne e2, ← killK]
  refine kill_keepV rfl ?_
  show upd (upd (lk (killL (gone s k p) l)) s _) k _ v = _
  rw [upd_ne e2, upd_ne e3, ← killK]
  exact kill_keepV rfl h

theorem OpsAt.stoOwn {k j s : Nat} {p : List Nat} {X : D} {T : TypeId} {nl e es xs} (hΘ : Agree P Θ) (ha : adrOf (lk l) k = some (s, p, X)) (hp : X.okp p) (hj : lk l j = .d (.own nl e es xs))
    (hf : ((Θ T).fits (.own nl e es xs) && ((X.get p).size == 1) && (X.get p).noOwn) = true) (hi : ld.contains i = true)
    (next : OpsAt P Θ n R ops ld (i + 1) os K (lk ((j, .view s p) :: (s, .box (X.set p (.own nl e es xs))) :: killL (gone s j p) l))) :
    OpsAt P Θ n R ops ld i (⟨none, .store T (.tmp k) (.tmp j), ty, pos, af, none⟩ :: os) K (lk l) := by
  simp only [Bool.and_eq_true, beq_iff_eq] at hf
  have hk := adrOf_sound ha
  have h1 := RawOp.stoOwn (P := P) (Θ := Θ) (n := n) (o := ⟨none, .store T (.tmp k) (.tmp j), ty, pos, af, none⟩) hΘ hk hp hj rfl rfl hf.1.1 hf.1.2 hf.2
  have h2 := Keeps.putBox (o := ⟨none, .store T (.tmp k) (.tmp j), ty, pos, af, none⟩) (p := p) (y := X.set p (.own nl e es xs)) (sl := .view s p) (m := j) hk.1 (fun x h => by rw [hj] at h; cases h)
  rw [killK, upd_lk, upd_lk] at h1 h2
  exact .rw_ h1 h2 rfl hi next

theorem OpsAt.eltBox {k m s q0 : Nat} {p q : List Nat} {x : Operand} {X y : D} {T : TypeId} {nl e es xs} {c : Prop} (hΘ : Agree P Θ) (hk : lk l k = .elt s p q0 q) (hE : lk l s = .box X) (hm : lk l m = .view s p) (hp : X.okp p) (hX : X.get p = .own nl e es xs)
    (hx : opOf (lk l) x = some (y, c)) (hc : c) (hf : (Θ T).fits y = true) (hsz : y.size = ((xs.getD q0 un).get q).size) (hi : ld.contains i = true)
    (next : OpsAt P Θ n R ops ld (i + 1) os K (lk ((m, .view s p) :: (s, .box (X.set p (.own nl e es (xs.set q0 ((xs.getD q0 un).set q y))))) :: killL (gone s m p) l))) :
    OpsAt P Θ n R ops ld i (⟨none, .store T (.tmp k) x, ty, pos, af, none⟩ :: os) K (lk l) := by
  have h1 := RawOp.eltBox (P := P) (Θ := Θ) (n := n) (o := ⟨none, .store T (.tmp k) x, ty, pos, af, none⟩) hΘ hE hm hk hp hX rfl rfl (opOf_sound hx hc) hf hsz
  have h2 := Keeps.putBox (o := ⟨none, .store T (.tmp k) x, ty, pos, af, none⟩) (p := p) (y := X.set p (.own nl e es (xs.set q0 ((xs.getD q0 un).set q y)))) (sl := .view s p) (m := m) hE (fun x h => by rw [hm] at h; cases h)
  rw [killK, upd_lk, upd_lk] at h1 h2
  exact .rw_ h1 h2 rfl hi next

/-- A nil slice at a box's place is one of the box's own. -/
theorem Run.ownNilBox {todo : List Item} (s : Nat) (p : List Nat) (e es : Nat) {es' : Nat} {X : D} (hE : lk l s = .box X) (hp : X.okp p) (hX : X.get p = .lst .nl es' []) (h : Run P Θ n R todo (lk ((s, .box (X.set p (.own true e es []))) :: killL (refersTo s) l))) : Run P Θ n R todo (lk l) := by
  refine .ghost (fun ρ w tmps hI => ?_) h
  rw [← upd_lk, ← killK]
  have hI1 := hI.less (kill_less (fun s' h => refersTo_owner (t := s) s' h) hI)
  refine ⟨ρ, Fr.refl _ _, hI.size, hI.lt, hI.tab, fun u => ?_⟩
  by_cases hu : s = u
  · subst hu
    simp only [upd, if_true]
    have h1 := hI.slot s
    rw [hE] at h1
    obtain ⟨b, cs, g1, g3, g4, g5⟩ := h1
    refine ⟨b, cs, g1, g3, g4, ?_⟩
    obtain ⟨c1, m, c2, e1, e2, e3, e4⟩ := RB.lens p X g5 hp
    rw [e1]
    refine e4 ρ w ⟨fun _ h => ⟨h, rfl⟩, fun _ _ _ _ => ⟨rfl, rfl⟩⟩ _ m rfl ?_
    rw [hX] at e3
    have h2 := (RB.plain (.lst .nl es' []) rfl).1 e3
    simp only [Rp] at h2
    obtain ⟨a, l0, c, rfl, h4, _⟩ := h2
    simp only [Hdr] at h4
    obtain ⟨rfl, rfl, rfl, _⟩ := h4
    simp only [RB]
    exact ⟨_, rfl, [], World.ownsRow_nil w 0 e es, by simp [Rpa], by simp, by simp [Value.ownBlock]⟩
  · rw [upd_ne hu]
    refine (hI1.slot u).keep hI1 (fun b hb => ⟨hb, rfl⟩) (fun b r hb => ⟨hb, rfl⟩) (fun b hb => ⟨hb, rfl⟩) (fun s' hs' => ⟨?_, rfl, fun _ _ => rfl⟩) (.inr ⟨fun _ _ => rfl, Nat.le_refl _⟩)
    refine upd_ne ?_
    rintro rfl
    exact free_ne hs'
end
end Go.Dat

namespace Go.Dat

variable [Tables]

variable {P : Program} {Θ : TypeId → TI} {n : Nat} {E : Nat → Slot} {w : World}

omit [Tables] in
theorem ExD_sliceArr {o : Oper} {T e : TypeId} {es : Nat} {x : Operand} {ds : List D} (hΘ : Agree P Θ) (ho : o.op = .slice T x none none none) (ht : (Θ T).td = .ar ds.length e es) :
    ExD P o [(x, .pt (.arr es ds))] (.lst .any es ds) := by
  intro S w ev _ h
  obtain ⟨cs, h1, h2⟩ := h (x, .pt (.arr es ds)) (by simp)
  simp only [Rp] at h1
  obtain ⟨b, o', us, rfl, hS, hm, hr⟩ := h1
  simp only [VC] at h2
  have he : ev x = .pointer (some ⟨b, o', none⟩) := by simpa using h2.symm
  obtain ⟨hu, i, hi, hsz⟩ := hΘ.says ht
  have hb : (Instr.sliceBounds false ds.length ds.length none none none).run P w = .ok (0, ds.length, ds.length) w := by
    simp [Instr.sliceBounds]
  have hse : (sizeOf e).run P w = .ok es w := by simp [sizeOf, typeInfo, hi, hsz]
  refine ⟨.slice (some ⟨b, o', none⟩) ds.length ds.length, ?_, [_], ?_, rfl⟩
  · simp [execOp, ho, he, Instr.sliceAt, Instr.sureAddr, run_underlying hu, hb, hse, Addr.add]
  · simp only [Rp]
    exact ⟨_, _, _, rfl, ⟨rfl, Nat.le_refl _, fun h => by cases h⟩, fun ad had => by cases had; exact Rpx.of hS hr hm⟩

theorem Ev.sliceArr {o : Oper} {T e : TypeId} {es k s : Nat} {p : List Nat} {X : D} {ds : List D} (hΘ : Agree P Θ) (ho : o.op = .slice T (.tmp k) none none none) (hk : adrOf E k = some (s, p, X)) (hX : (X.get p).lend = .arr es ds) (ht : (Θ T).td = .ar ds.length e es) :
    Ev P Θ E o (.wk (.lst .any es ds)) :=
  .wplain (xs := [(.tmp k, .pt (.arr es ds))]) (fun y hy => by
    simp only [List.mem_singleton] at hy
    subst hy
    exact ⟨hX ▸ .adr (adrOf_sound hk), by simp [ho, Op.operands]⟩) (ExD_sliceArr hΘ ho ht)

omit [Tables] in
theorem lends_flat : ∀ (l : List D), (∀ x ∈ l, ∃ v, x = .v v) → lends l = l
  | [], _ => rfl
  | d :: l, h => by
    obtain ⟨v, rfl⟩ := h d (by simp)
    simp only [lends, D.lend, lends_flat l (fun x hx => h x (by simp [hx]))]

omit [Tables] in
theorem Rpa.splitAt {S : Nat → Prop} {es : Nat} : ∀ {ds : List D} {i : Nat} {cs : List Value}, Rpa S w es ds cs → i < ds.length → ∃ p c q, cs = p ++ (c ++ q) ∧ p.length = i * es ∧ Rp S w (ds.getD i un) c
  | [], i, _, _, hi => by simp at hi
  | d :: ds, 0, cs, h, _ => by
    simp only [Rpa] at h
    obtain ⟨x, y, rfl, _, h1, _⟩ := h
    exact ⟨[], x, y, rfl, by simp, by simpa using h1⟩
  | d :: ds, i + 1, cs, h, hi => by
    simp only [Rpa] at h
    obtain ⟨x, y, rfl, h0, _, h2⟩ := h
    obtain ⟨p, c, q, rfl, h3, h4⟩ := Rpa.splitAt h2 (by simpa using hi)
    refine ⟨x ++ p, c, q, by simp, ?_, by simpa using h4⟩
    rw [List.length_append, h0, h3, Nat.add_mul, Nat.one_mul, Nat.add_comm]

/-- An element of an array that is held as a value. -/
theorem Ev.arrIx {o : Oper} {T e : TypeId} {es : Nat} {x ix : Operand} {ds : List D} {y : D} {k : IntKind} {i : Int} {c1 c2 : Prop} (hΘ : Agree P Θ) (ho : o.op = .index T x ix) (h1 : opOf E x = some (.arr es ds, c1)) (h2 : opOf E ix = some (.v (.int k i), c2))
    (ht : (Θ T).td = .ar ds.length e es) (hy : ds.getD i.toNat un = y) (hf : (Θ e).fits y = true) (h : c1 ∧ c2 ∧ 0 ≤ i ∧ i.toNat < ds.length) : Ev P Θ E o (.d y) := by
  obtain ⟨g1, g2, g3, g4⟩ := h
  refine .plain (xs := [(x, .arr es ds), (ix, .v (.int k i))]) (fun z hz => ?_) ?_
  · simp only [List.mem_cons, List.not_mem_nil, or_false] at hz
    rcases hz with rfl | rfl
    · exact ⟨opOf_sound h1 g1, by simp [ho, Op.operands]⟩
    · exact ⟨opOf_sound h2 g2, by simp [ho, Op.operands]⟩
  · intro S w ev _ hev
    obtain ⟨cs, q1, q2⟩ := hev (x, .arr es ds) (by simp)
    have e2 := (hev (ix, .v (.int k i)) (by simp)).v
    simp only [Rp] at q1
    simp only [VC] at q2
    simp only at e2
    obtain ⟨p, c, q, rfl, hl, hr⟩ := Rpa.splitAt q1 g4
    rw [hy] at hr
    obtain ⟨hu, inf, hi, hsz⟩ := hΘ.says ht
    have hse : (sizeOf e).run P w = .ok es w := by simp [sizeOf, typeInfo, hi, hsz]
    obtain ⟨u, p1, p2⟩ := part_run (P := P) (w := w) (p := p) (q := q) hΘ hf hr
    refine ⟨u, ?_, p2⟩
    have hlt : i < ds.length := by omega
    simp only [execOp, ho, q2, e2, Instr.index, asIntOf, Sem.run_bind, Sem.run_pure, Result.andThen_ok, run_underlying hu, g3, hlt, and_self, if_true, hse, ← hl, p1]

section
variable {R : (Nat → Slot) → Prop} {ops : Array Oper} {ld : List Nat} {i : Nat} {os : List Oper} {k : List Item} {l : Env}
theorem OpsAt.sayW {d : Nat} {x y : D} (hE : lk l d = .wk x) (h : x = y) (next : OpsAt P Θ n R ops ld i os k (lk ((d, .wk y) :: l))) : OpsAt P Θ n R ops ld i os k (lk l) := by
  subst h; rwa [lk_same hE] at next

/-- A place that a goto comes back to: I says what holds of the ghost there, f what the slots hold. -/
theorem Run.again {α : Type} {todo : List Item} (I : α → Prop) (f : α → Env) (μ : α → Nat) (a : α) (h0 : I a)
    (h : ∀ a, I a → (∀ a', I a' → μ a' < μ a → Run P Θ n R todo (lk (f a'))) → Run P Θ n R todo (lk (f a))) : Run P Θ n R todo (lk (f a)) := by
  have key : ∀ m a, μ a = m → I a → Run P Θ n R todo (lk (f a)) := by
    intro m
    induction m using Nat.strongRecOn with
    | _ m ih =>
      intro a hm hI
      exact h a hI fun a' hI' hlt => ih (μ a') (hm ▸ hlt) a' rfl hI'
  exact key _ a rfl h0

theorem RawOp.asgSelf {o : Oper} {d q : Nat} {nl e es xs} (hd : o.dst = some d) (ho : o.op = .assign (.tmp q)) (hq : E q = .view d []) (hE : E d = .d (.own nl e es xs)) : RawOp P n E o E := by
  intro ρ w a Q hI
  have hv : a.tmps.getD q undef = a.tmps.getD d undef := by
    have h := hI.slot q
    rw [hq] at h
    obtain ⟨nl', e', es', xs', h⟩ := h
    rcases h with ⟨_, _, h⟩ | ⟨x', b', q1, _⟩
    · exact h
    · rw [hE] at q1; cases q1
  refine oper_val (v := a.eval (.tmp q)) (w' := w) (by simp [execOp, ho]) ?_
  rw [put_some hd]
  refine ⟨rfl, ρ, Fr.refl _ _, ?_⟩
  have : a.tmps.setIfInBounds d (a.tmps.getD q undef) = a.tmps := by
    rw [hv]
    apply Array.ext_getElem?
    intro k
    rw [Array.getElem?_setIfInBounds]
    split
    · next hk =>
      subst hk
      split
      · next hlt => simp [hlt]
      · next hlt => rw [Array.getElem?_eq_none (by omega)]
    · rfl
  show Inv n ρ w (a.tmps.setIfInBounds d (a.tmps.getD q undef)) E
  rw [this]
  exact hI

/-- An own slice is assigned to the slot that holds it. -/
theorem OpsAt.asgSelf {d q : Nat} {nl e es xs} {ty : TypeId} {pos : String} {af : Array Edge} (hq : lk l q = .view d []) (hE : lk l d = .d (.own nl e es xs)) (hi : ld.contains i = true) (next : OpsAt P Θ n R ops ld (i + 1) os k (lk l)) :
    OpsAt P Θ n R ops ld i (⟨some d, .assign (.tmp q), ty, pos, af, none⟩ :: os) k (lk l) :=
  .rw_ (RawOp.asgSelf rfl rfl hq hE) (fun _ _ h _ => h) rfl hi next
end
end Go.Dat

namespace Go.Dat

variable [Tables]

variable {P : Program} {Θ : TypeId → TI} {n : Nat} {E : Nat → Slot} {w : World}

omit [Tables] in
theorem ExD_buildZ {o : Oper} {T e : TypeId} {len es es' : Nat} {ds : List D} (hΘ : Agree P Θ) (ho : o.op = .build T #[]) (ht : (Θ T).td = .ar len e es) (hz : (Θ T).z = .arr es' ds) : ExD P o [] (.arr es' ds) := by
  intro S w ev _ _
  obtain ⟨hu, i, hi, hsz⟩ := hΘ.says ht
  obtain ⟨i', v, h1, h2, h3, h4, h5, h6⟩ := (hΘ T (by simp [TI.known, ht])).info
  rw [hz] at h4 h5 h6
  have hse : (sizeOf e).run P w = .ok es w := by simp [sizeOf, typeInfo, hi, hsz]
  refine ⟨.agg v.cells, ?_, (D.arr es' ds).flat, Rp.konst _ h6, ?_⟩
  · simp [execOp, ho, Instr.build, zeroValue, typeInfo, h1, h3, run_underlying hu, hse, Instr.fill]
  · simp only [VC]
    rw [← h4]

theorem Ev.buildZ {o : Oper} {T e : TypeId} {len es es' : Nat} {ds : List D} (hΘ : Agree P Θ) (ho : o.op = .build T #[]) (ht : (Θ T).td = .ar len e es) (hz : (Θ T).z = .arr es' ds) : Ev P Θ E o (.d (.arr es' ds)) :=
  .plain (xs := []) (fun _ h => by cases h) (ExD_buildZ hΘ ho ht hz)
end Go.Dat

namespace Go.Dat

variable [Tables]

variable {P : Program} {Θ : TypeId → TI} {n : Nat} {E : Nat → Slot} {w : World}

omit [Tables] in
theorem eqItems_run {S : Nat → Prop} (hΘ : Agree P Θ) {d e es m : Nat} {as bs : List D} {c c' : List Value} {r : Nat → Bool} (ha : as.length = m) (hb : bs.length = m) (hf : ∀ i, i < m → (Θ e).fits (as.getD i un) = true ∧ (Θ e).fits (bs.getD i un) = true)
    (h : ∀ i, i < m → EqT P d e (as.getD i un) (bs.getD i un) (r i)) (h1 : Rpa S w es as c) (h2 : Rpa S w es bs c') : ∀ is : List Nat, (∀ i ∈ is, i < m) → (Op.eqItems d e es c.toArray c'.toArray is).run P w = .ok (is.all r) w
  | [], _ => by simp [Op.eqItems]
  | i :: is, hi => by
    have hm := hi i (by simp)
    obtain ⟨p, x, q, rfl, hp, hx⟩ := Rpa.splitAt h1 (i := i) (by omega)
    obtain ⟨p', x', q', rfl, hp', hx'⟩ := Rpa.splitAt h2 (i := i) (by omega)
    obtain ⟨u, e1, e2⟩ := part_run (p := p) (q := q) hΘ (hf i hm).1 hx
    obtain ⟨v, e3, e4⟩ := part_run (p := p') (q := q') hΘ (hf i hm).2 hx'
    have ih := eqItems_run hΘ ha hb hf h h1 h2 is (fun j hj => hi j (by simp [hj]))
    rw [hp] at e1
    rw [hp'] at e3
    simp only [Op.eqItems, Sem.run_bind, e1, e3, Result.andThen_ok, h i hm S w u v e2 e4]
    cases hr : r i with
    | false => simp [hr]
    | true => simpa [hr] using ih

omit [Tables] in
theorem EqT.arr {d T e es m : Nat} {as bs : List D} {r : Nat → Bool} (hΘ : Agree P Θ) (ht : (Θ T).td = .ar m e es) (ha : as.length = m) (hb : bs.length = m) (hf : ∀ i, i < m → (Θ e).fits (as.getD i un) = true ∧ (Θ e).fits (bs.getD i un) = true)
    (h : ∀ i, i < m → EqT P d e (as.getD i un) (bs.getD i un) (r i)) : EqT P (d + 1) T (.arr es as) (.arr es bs) ((List.range m).all r) := by
  intro S w u v hu hv
  obtain ⟨c, h1, h2⟩ := hu
  obtain ⟨c', h3, h4⟩ := hv
  simp only [VC] at h2 h4
  subst h2 h4
  simp only [Rp] at h1 h3
  obtain ⟨hu, i, hi, hsz⟩ := hΘ.says ht
  have hc : P.cellsOf e = es := by simp [Program.cellsOf, hi, hsz]
  rw [run_equalIn_array w d _ _ hu hi, hc]
  exact eqItems_run hΘ ha hb hf h h1 h3 (List.range m) fun i hi => List.mem_range.1 hi

omit [Tables] in
theorem BinD.eqAr {T : TypeId} {x y : Operand} {es es' : Nat} {as bs : List D} {r : Bool} (hg : P.eqGuardType P.depth T = false) (h : EqT P 10000 T (.arr es as) (.arr es' bs) r) : BinD P .eql T x y (.arr es as) (.arr es' bs) (.v (.bool r)) := by
  intro S w u v hu hv
  have h0 := h S w u v hu hv
  obtain ⟨c, h1, h2⟩ := hu
  obtain ⟨c', h3, h4⟩ := hv
  simp only [VC] at h2 h4
  subst h2 h4
  refine ⟨.bool r, ?_, RD.ofV rfl⟩
  rw [Sem.run_bind, run_eqGuard_agg w _ _ _ _ _ _ hg, Result.andThen_ok, run_eql_struct, h0]
  rfl
omit [Tables] in
theorem BinD.neAr {T : TypeId} {x y : Operand} {es es' : Nat} {as bs : List D} {r : Bool} (hg : P.eqGuardType P.depth T = false) (h : EqT P 10000 T (.arr es as) (.arr es' bs) r) : BinD P .neq T x y (.arr es as) (.arr es' bs) (.v (.bool (!r))) := by
  intro S w u v hu hv
  have h0 := h S w u v hu hv
  obtain ⟨c, h1, h2⟩ := hu
  obtain ⟨c', h3, h4⟩ := hv
  simp only [VC] at h2 h4
  subst h2 h4
  refine ⟨.bool (!r), ?_, RD.ofV rfl⟩
  rw [Sem.run_bind, run_eqGuard_agg w _ _ _ _ _ _ hg, Result.andThen_ok, run_neq_struct, h0]
  rfl
end Go.Dat
