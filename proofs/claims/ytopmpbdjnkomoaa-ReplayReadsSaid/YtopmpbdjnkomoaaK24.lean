/- Structs are compared; a slice with nil; operands of several kinds. No conditions. -/
import Derived.Test.YtopmpbdjnkomoaaK23
import Derived.Laws.StructEq
import Derived.Lib.SliceRun
namespace Go.Dat

variable [Tables]

variable {P : Program} {Θ : TypeId → TI} {n : Nat} {E E' : Nat → Slot} {w : World}

/-- What two data of a type are told to be, the same or not. -/
def EqT (P : Program) (d : Nat) (T : TypeId) (a b : D) (r : Bool) : Prop := ∀ (S : Nat → Prop) w u v, RD S w a u → RD S w b v → (Op.equalIn d T u v).run P w = .ok r w

omit [Tables] in
theorem EqT.int {d : Nat} {T : TypeId} {k k0 : IntKind} {x y : Int} (h : P.underlying T = some (.int k0)) : EqT P (d + 1) T (.v (.int k x)) (.v (.int k y)) (x == y) := by
  intro S w u v hu hv
  rw [hu.v, hv.v]
  exact run_equalIn_int w d T k k0 x y h
omit [Tables] in
theorem EqT.bool {d : Nat} {T : TypeId} {x y : Bool} (h : P.underlying T = some .bool) : EqT P (d + 1) T (.v (.bool x)) (.v (.bool y)) (x == y) := by
  intro S w u v hu hv
  rw [hu.v, hv.v]
  exact run_equalIn_bool w d T x y h
omit [Tables] in
theorem EqT.string {d : Nat} {T : TypeId} {x y : ByteArray} (h : P.underlying T = some .string) : EqT P (d + 1) T (.v (.string x)) (.v (.string y)) (x.toList == y.toList) := by
  intro S w u v hu hv
  rw [hu.v, hv.v]
  exact run_equalIn_string w d T x y h

omit [Tables] in
theorem part_run {S : Nat → Prop} {T : TypeId} {a : D} {p c q : List Value} (hΘ : Agree P Θ) (hf : (Θ T).fits a = true) (h : Rp S w a c) : ∃ u, (part T (p ++ (c ++ q)).toArray p.length).run P w = .ok u w ∧ RD S w a u := by
  have hl := Rp.len _ h
  simp only [TI.fits, Bool.and_eq_true, beq_iff_eq] at hf
  obtain ⟨⟨hk, ha⟩, hn⟩ := hf
  have hok := hΘ T hk
  unfold part
  rw [Sem.run_bind, isAgg_run hok hk, Result.andThen_ok]
  cases hx : (Θ T).td.isAgg with
  | true =>
    refine ⟨.agg c.toArray, ?_, c, h, VC.ofAgg (by rw [ha, hx])⟩
    simp [sizeOf_run hok, ← hn, ← hl]
  | false =>
    have hs : a.size = 1 := by cases a <;> first | rfl | (simp [D.isAgg, hx] at ha)
    rw [hs] at hl
    match c, hl with
    | [v], _ => exact ⟨v, by simp, [v], h, VC.ofOne (by rw [ha, hx])⟩

inductive EqFs (P : Program) (Θ : TypeId → TI) (d : Nat) : Nat → List (TypeId × Nat) → List D → List D → Bool → Prop
  | nil {o} : EqFs P Θ d o [] [] [] true
  | cons {o T fs a as b bs r1 r2} : ((Θ T).fits a && ((Θ T).fits b && (a.size == b.size))) = true → EqT P d T a b r1 → EqFs P Θ d (o + a.size) fs as bs r2 → EqFs P Θ d o ((T, o) :: fs) (a :: as) (b :: bs) (r1 && r2)

omit [Tables] in
theorem EqFs.run {S : Nat → Prop} (hΘ : Agree P Θ) {d : Nat} : ∀ {F : List Field} {o : Nat} {fs : List (TypeId × Nat)} {as bs : List D} {r : Bool} {p q c c' : List Value}, EqFs P Θ d o fs as bs r → F.map (fun f => (f.type, f.offset)) = fs → (∀ f ∈ F, f.name ≠ "_") →
    p.length = o → q.length = o → Rps S w as c → Rps S w bs c' → (Op.eqFields d (p ++ c).toArray (q ++ c').toArray F).run P w = .ok r w := by
  intro F
  induction F with
  | nil =>
    intro o fs as bs r p q c c' h hF hn hp hq h1 h2
    simp only [List.map_nil] at hF
    subst hF
    cases h
    simp [Op.eqFields]
  | cons f F ih =>
    intro o fs as bs r p q c c' h hF hn hp hq h1 h2
    subst hF
    cases h with
    | @cons _ _ _ a as b bs r1 r2 hf he hr =>
    simp only [Rps] at h1 h2
    obtain ⟨x1, y1, rfl, g1, g2⟩ := h1
    obtain ⟨x2, y2, rfl, g3, g4⟩ := h2
    simp only [Bool.and_eq_true, beq_iff_eq] at hf
    obtain ⟨hf1, hf2, hf3⟩ := hf
    obtain ⟨u, e1, e2⟩ := part_run (p := p) (q := y1) hΘ hf1 g1
    obtain ⟨v, e3, e4⟩ := part_run (p := q) (q := y2) hΘ hf2 g3
    have hnm := hn f (by simp)
    rw [hp] at e1
    rw [hq] at e3
    simp only [Op.eqFields, hnm, ne_eq, not_false_eq_true, if_true, Sem.run_bind, e1, e3, Result.andThen_ok, he S w u v e2 e4]
    cases r1 with
    | false => simp
    | true =>
      have := ih (p := p ++ x1) (q := q ++ x2) (c := y1) (c' := y2) hr rfl (fun f hf => hn f (by simp [hf])) (by simp [hp, Rp.len _ g1]) (by simp [hq, Rp.len _ g3, hf3]) g2 g4
      simp only [List.append_assoc] at this
      simpa using this

omit [Tables] in
theorem EqT.st {d : Nat} {T : TypeId} {fs : List (TypeId × Nat)} {as bs : List D} {r : Bool} (hΘ : Agree P Θ) (ht : (Θ T).td = .st fs) (hp : P.stoodInHeld T = false) (hn : ((P.fieldsOf T).toList.all fun f => f.name != "_") = true)
    (h : EqFs P Θ d 0 fs as bs r) : EqT P (d + 1) T (.st as) (.st bs) r := by
  intro S w u v hu hv
  obtain ⟨c, h1, h2⟩ := hu
  obtain ⟨c', h3, h4⟩ := hv
  simp only [VC] at h2 h4
  subst h2 h4
  simp only [Rp] at h1 h3
  obtain ⟨F, g1, g2, _⟩ := hΘ.says ht
  have hF : P.fieldsOf T = F := by simp [Program.fieldsOf, g1]
  rw [run_equalIn_struct w d T _ _ (by rw [hF, g1]) hp, hF]
  have := EqFs.run (p := []) (q := []) hΘ h g2 (fun f hf => by rw [hF] at hn; simpa using List.all_eq_true.1 hn f hf) rfl rfl h1 h3
  simpa using this

omit [Tables] in
theorem BinD.eqSt {T : TypeId} {x y : Operand} {as bs : List D} {r : Bool} (hg : P.eqGuardType P.depth T = false) (h : EqT P 10000 T (.st as) (.st bs) r) : BinD P .eql T x y (.st as) (.st bs) (.v (.bool r)) := by
  intro S w u v hu hv
  have h0 := h S w u v hu hv
  obtain ⟨c, h1, h2⟩ := hu
  obtain ⟨c', h3, h4⟩ := hv
  simp only [VC] at h2 h4
  subst h2 h4
  refine ⟨.bool r, ?_, RD.ofV rfl⟩
  rw [Sem.run_bind, run_eqGuard_agg w _ _ _ _ _ _ hg, Result.andThen_ok, run_eql_struct, h0]
  rfl
omit [Tables] in
theorem BinD.neSt {T : TypeId} {x y : Operand} {as bs : List D} {r : Bool} (hg : P.eqGuardType P.depth T = false) (h : EqT P 10000 T (.st as) (.st bs) r) : BinD P .neq T x y (.st as) (.st bs) (.v (.bool (!r))) := by
  intro S w u v hu hv
  have h0 := h S w u v hu hv
  obtain ⟨c, h1, h2⟩ := hu
  obtain ⟨c', h3, h4⟩ := hv
  simp only [VC] at h2 h4
  subst h2 h4
  refine ⟨.bool (!r), ?_, RD.ofV rfl⟩
  rw [Sem.run_bind, run_eqGuard_agg w _ _ _ _ _ _ hg, Result.andThen_ok, run_neq_struct, h0]
  rfl

theorem Ev.bins {o : Oper} {bop : BinOp} {T T2 : TypeId} {x y : Operand} {a b z : D} {c1 c2 : Prop} (ho : o.op = .binOp bop T x y T2) (h1 : opOf E x = some (a, c1)) (h2 : opOf E y = some (b, c2)) (h : c1 ∧ c2)
    (h3 : BinD P bop T x y a b z) : Ev P Θ E o (.d z) := .bin ho (opOf_sound h1 h.1) (opOf_sound h2 h.2) h3

theorem Ev.binB {o : Oper} {bop : BinOp} {T T2 : TypeId} {x y : Operand} {p q : Bool} {z : D} {c1 c2 c3 : Prop} (hu : P.underlying T = some .bool) (ho : o.op = .binOp bop T x y T2) (h1 : opOf E x = some (.v (.bool p), c1)) (h2 : opOf E y = some (.v (.bool q), c2))
    (h3 : binOf bop (.v (.bool p)) (.v (.bool q)) = some (z, c3)) (h : c1 ∧ c2 ∧ c3) : Ev P Θ E o (.d z) :=
  .bin ho (opOf_sound h1 h.1) (opOf_sound h2 h.2.1) (binOf_sound (fun _ => .inl hu) h3 h.2.2)

/-- A slice is compared with nil. -/
def nilOf : SK → Option Bool
  | .nl => some true
  | .opn => some false
  | .clip => some false
  | .any => none

omit [Tables] in
theorem BinD.eqNil {T e : TypeId} {x y : Operand} {k : SK} {es es' : Nat} {xs : List D} {r : Bool} (ht : P.underlying T = some (.slice e)) (hk : nilOf k = some r) : BinD P .eql T x y (.lst k es xs) (.lst .nl es' []) (.v (.bool r)) := by
  intro S w u v hu hv
  obtain ⟨c, h1, h2⟩ := hu
  obtain ⟨c', h3, h4⟩ := hv
  simp only [VC] at h2 h4
  simp only [Rp] at h1 h3
  obtain ⟨a, l, cp, rfl, h5, _⟩ := h1
  obtain ⟨a', l', cp', rfl, h6, _⟩ := h3
  simp only [Hdr] at h6
  obtain ⟨rfl, rfl, rfl, _⟩ := h6
  simp only [List.cons.injEq, and_true] at h2 h4
  subst h2 h4
  refine ⟨.bool r, ?_, RD.ofV rfl⟩
  have hr : a.isNone = r := by cases k <;> simp_all [nilOf, Hdr] <;> cases a <;> simp_all
  subst hr
  have hg : (eqGuard .eql T x y (.slice a l cp) (.slice none 0 0)).run P w = .ok () w := by unfold eqGuard; split <;> rfl
  rw [Sem.run_bind, hg, Result.andThen_ok]
  exact Lib.run_eql_slice_nil w T e a l cp 0 0 ht

/-! ### Contracts for slices of whatever make -/

omit [Tables] in
theorem Rpv.kinds {S : Nat → Prop} {es : Nat} {xs : List D} : ∀ {pre post : List D} {vals : List Value}, Rpv S w (pre ++ .lst .any es xs :: post) vals →
    (xs = [] ∧ Rpv S w (pre ++ .lst .nl es xs :: post) vals) ∨ Rpv S w (pre ++ .lst .opn es xs :: post) vals
  | d :: pre, post, vals, h => by
    simp only [List.cons_append, Rpv] at h ⊢
    obtain ⟨u, y, cs, rfl, h1, h2, h3⟩ := h
    rcases Rpv.kinds h3 with ⟨h4, h5⟩ | h5
    · exact .inl ⟨h4, u, y, cs, rfl, h1, h2, h5⟩
    · exact .inr ⟨u, y, cs, rfl, h1, h2, h5⟩
  | [], post, vals, h => by
    simp only [List.nil_append, Rpv] at h ⊢
    obtain ⟨u, y, cs, rfl, ⟨a, l, c, h1, h2, h3⟩, h4, h5⟩ := h
    simp only [Hdr] at h2
    cases a with
    | none =>
      obtain ⟨h6, h7, h8⟩ := h2
      obtain ⟨rfl, rfl⟩ := h8 rfl
      have : xs = [] := List.eq_nil_of_length_eq_zero h6.symm
      exact .inl ⟨this, u, y, cs, rfl, ⟨none, 0, 0, h1, by simp [Hdr, this], h3⟩, h4, h5⟩
    | some ad => exact .inr ⟨u, y, cs, rfl, ⟨some ad, l, c, h1, ⟨rfl, h2.1, h2.2.1⟩, h3⟩, h4, h5⟩

theorem DFun.kinds {f : FuncId} {pre post : List D} {es : Nat} {xs : List D} {r : D} (h1 : xs = [] → DFun P f (pre ++ .lst .nl es xs :: post) r) (h2 : DFun P f (pre ++ .lst .opn es xs :: post) r) :
    DFun P f (pre ++ .lst .any es xs :: post) r := by
  intro S w vals hS hT hv
  rcases Rpv.kinds hv with ⟨h3, h4⟩ | h4
  · exact h1 h3 S w vals hS hT h4
  · exact h2 S w vals hS hT h4

/-! ### Slice expressions -/

theorem Ev.bs {o : Oper} {T len e es b : Nat} {parts : Array (Nat × Operand)} {xs : List D} {c : Prop} (ho : o.op = .buildSlice T len parts) (hx : opsOf E (parts.toList.map (·.2)) = some (xs, c)) (ht : (Θ T).td = .sl e es b)
    (hb : bsOk (parts.toList.map (·.1)) len es xs = true) (hc : c) : Ev P Θ E o (.d (.lst .any es xs)) := by
  simp only [bsOk, Bool.and_eq_true, beq_iff_eq, List.all_eq_true, decide_eq_true_eq] at hb
  exact .buildShared ho (opsOf_sound hx hc) hb.1.1 ht hb.1.2 hb.2

def bndOf (E : Nat → Slot) : Option Operand → Nat → Option (Nat × Prop)
  | none, d => some (d, True)
  | some x, _ => match opOf E x with
    | some (.v (.int _ v), s) => some (v.toNat, s ∧ 0 ≤ v)
    | _ => none

omit [Tables] in
theorem bndOf_sound {x d i c} (h : bndOf E x d = some (i, c)) (hc : c) : Bnd E x d i := by
  cases x with
  | none => cases h; exact .no
  | some x =>
    simp only [bndOf] at h
    split at h
    · next k v s h1 => cases h; exact .at (opOf_sound h1 hc.1) hc.2
    · cases h

/-- Of a slice of the frame's own. -/
theorem Ev.subV {o : Oper} {T : TypeId} {k : Nat} {lo hi : Option Operand} {s p nl e es xs e' b i j} {c1 c2 : Prop} (ho : o.op = .slice T (.tmp k) lo hi none) (hv : vwOf E k = some (s, p, nl, e, es, xs)) (ht : (Θ T).td = .sl e' es b)
    (h1 : bndOf E lo 0 = some (i, c1)) (h2 : bndOf E hi xs.length = some (j, c2)) (h : c1 ∧ c2 ∧ i ≤ j ∧ j ≤ xs.length) : Ev P Θ E o (.sub s p i j) :=
  .subView ho (vwOf_sound hv) ht (bndOf_sound h1 h.1) (bndOf_sound h2 h.2.1) h.2.2.1 h.2.2.2

omit [Tables] in
theorem Hdr.any {k : SK} {a : Option Addr} {l c n : Nat} (h : Hdr k a l c n) : l = n ∧ n ≤ c ∧ (a = none → l = 0 ∧ c = 0) := by
  cases k with
  | nl => obtain ⟨rfl, rfl, rfl, rfl⟩ := h; simp
  | opn => obtain ⟨h1, rfl, h3⟩ := h; exact ⟨rfl, h3, fun h => by rw [h] at h1; cases h1⟩
  | clip => obtain ⟨h1, rfl, h3⟩ := h; exact ⟨rfl, by omega, fun h => by rw [h] at h1; cases h1⟩
  | any => exact h

omit [Tables] in
theorem Ev.subL_ {S : Nat → Prop} {w : World} {es : Nat} : ∀ {xs : List D} {a : Addr} (i j : Nat), Rpx S w es a xs → Rpx S w es ⟨a.block, a.off + es * i, none⟩ ((xs.take j).drop i)
  | [], a, i, j, _ => by simp [Rpx]
  | x :: xs, a, i, 0, _ => by simp [Rpx]
  | x :: xs, a, 0, j + 1, h => by
    simp only [Rpx] at h
    obtain ⟨c, h1, h2, h3, h4, h5, h6⟩ := h
    have := Ev.subL_ (xs := xs) 0 j h6
    simp only [List.take_succ_cons, List.drop_zero, Rpx, Nat.mul_zero, Nat.add_zero] at this ⊢
    exact ⟨c, h1, trivial, h3, h4, h5, this⟩
  | x :: xs, a, i + 1, j + 1, h => by
    simp only [Rpx] at h
    obtain ⟨c, h1, h2, h3, h4, h5, h6⟩ := h
    have := Ev.subL_ (xs := xs) i j h6
    simp only [List.take_succ_cons, List.drop_succ_cons]
    have e : a.off + es * (i + 1) = a.off + es + es * i := by rw [Nat.mul_succ]; omega
    rw [e]
    exact this

/-- Of a shared one. -/
theorem Ev.subL {o : Oper} {T : TypeId} {x : Operand} {lo hi : Option Operand} {k es xs e' b i j} {c0 c1 c2 : Prop} (hΘ : Agree P Θ) (ho : o.op = .slice T x lo hi none) (hx : opOf E x = some (.lst k es xs, c0)) (ht : (Θ T).td = .sl e' es b)
    (h1 : bndOf E lo 0 = some (i, c1)) (h2 : bndOf E hi xs.length = some (j, c2)) (h : c0 ∧ c1 ∧ c2 ∧ i ≤ j ∧ j ≤ xs.length) : Ev P Θ E o (.d (.lst .any es ((xs.take j).drop i))) := by
  obtain ⟨g0, g1, g2, g3, g4⟩ := h
  have hl : ∃ L : List (Operand × D), (∀ y ∈ L, OpD E y.1 y.2 ∧ y.1 ∈ o.op.operands.toList) ∧ ∀ (S : Nat → Prop) (w : World) (ev : Operand → Value), (∀ y ∈ L, RD S w y.2 (ev y.1)) → (lo = none ∧ i = 0) ∨ ∃ y k v, lo = some y ∧ ev y = .int k v ∧ 0 ≤ v ∧ v.toNat = i := by
    cases lo with
    | none => exact ⟨[], by simp, fun _ _ _ _ => .inl ⟨rfl, by simpa [bndOf] using (congrArg (·.1) (Option.some.inj h1)).symm⟩⟩
    | some y =>
      simp only [bndOf] at h1
      split at h1
      · next k' v s h3 =>
        cases h1
        exact ⟨[(y, .v (.int k' v))], by simp; exact ⟨opOf_sound h3 g1.1, by simp [ho, Op.operands]⟩, fun S w ev hev => .inr ⟨y, k', v, rfl, (hev (y, .v (.int k' v)) (by simp)).v, g1.2, rfl⟩⟩
      · cases h1
  have hh : ∃ L : List (Operand × D), (∀ y ∈ L, OpD E y.1 y.2 ∧ y.1 ∈ o.op.operands.toList) ∧ ∀ (S : Nat → Prop) (w : World) (ev : Operand → Value), (∀ y ∈ L, RD S w y.2 (ev y.1)) → (hi = none ∧ j = xs.length) ∨ ∃ y k v, hi = some y ∧ ev y = .int k v ∧ 0 ≤ v ∧ v.toNat = j := by
    cases hi with
    | none => exact ⟨[], by simp, fun _ _ _ _ => .inl ⟨rfl, by simpa [bndOf] using (congrArg (·.1) (Option.some.inj h2)).symm⟩⟩
    | some y =>
      simp only [bndOf] at h2
      split at h2
      · next k' v s h3 =>
        cases h2
        exact ⟨[(y, .v (.int k' v))], by simp; exact ⟨opOf_sound h3 g2.1, by simp [ho, Op.operands]⟩, fun S w ev hev => .inr ⟨y, k', v, rfl, (hev (y, .v (.int k' v)) (by simp)).v, g2.2, rfl⟩⟩
      · cases h2
  obtain ⟨L1, l1, l2⟩ := hl
  obtain ⟨L2, m1, m2⟩ := hh
  refine .plain (xs := (x, .lst k es xs) :: (L1 ++ L2)) (fun y hy => ?_) ?_
  · simp only [List.mem_cons, List.mem_append] at hy
    rcases hy with rfl | hy | hy
    · exact ⟨opOf_sound hx g0, by simp [ho, Op.operands]⟩
    · exact l1 y hy
    · exact m1 y hy
  · intro S w ev _ hev
    have q1 := l2 S w ev fun y hy => hev y (by simp [hy])
    have q2 := m2 S w ev fun y hy => hev y (by simp [hy])
    obtain ⟨cs, r1, r2⟩ := hev (x, .lst k es xs) (by simp)
    simp only [Rp] at r1
    obtain ⟨ad, l, cap, rfl, r3, r4⟩ := r1
    simp only [VC] at r2
    have he : ev x = .slice ad l cap := by simpa using r2.symm
    have hl := r3.any
    obtain ⟨rfl, hc, hn⟩ := hl
    have hr := slice_run (P := P) (w := w) (ad := ad) (l := xs.length) (cap := cap) (i := i) (j := j) (f := ev) (hΘ.says ht) q1 q2 g3 (by omega)
    have hlen : ((xs.take j).drop i).length = j - i := by simp; omega
    refine ⟨_, by simp only [execOp, ho, Option.map_none, Sem.run_bind]; rw [he, hr]; simp; rfl, [_], ?_, rfl⟩
    simp only [Rp]
    refine ⟨_, _, _, rfl, ⟨hlen.symm, by omega, fun h0 => ?_⟩, fun ad' had => ?_⟩
    · have : ad = none := by
        split at h0
        · exact h0
        · simpa using h0
      have := hn this
      omega
    · by_cases hci : cap = i
      · rw [if_pos hci] at had
        have : (xs.take j).drop i = [] := List.eq_nil_of_length_eq_zero (by rw [hlen]; omega)
        rw [this]
        simp [Rpx]
      · rw [if_neg hci] at had
        cases ad with
        | none => simp at had
        | some ad =>
          simp only [Option.map_some, Option.some.injEq] at had
          have hx2 := Ev.subL_ i j (r4 ad rfl)
          by_cases he2 : (xs.take j).drop i = []
          · rw [he2]; simp [Rpx]
          · have hsp : ad.spot = none := by
              cases xs with
              | nil => simp at he2
              | cons y xs => have := r4 ad rfl; simp only [Rpx] at this; obtain ⟨_, _, h, _⟩ := this; exact h
            have : ad' = ⟨ad.block, ad.off + es * i, none⟩ := by
              rw [← had]
              unfold Addr.add
              obtain ⟨bb, oo, sp⟩ := ad
              simp only at hsp
              subst hsp
              split
              · next h0 => rw [Nat.mul_comm es i, h0]; simp
              · simp [Nat.mul_comm]
            rw [this]
            exact hx2

/-! ### min, max, conversions of integers -/

theorem Ev.max2 {o : Oper} {x y : Operand} {ts : Array TypeId} {k : IntKind} {a b : Int} {c1 c2 : Prop} (ho : o.op = .call { callee := .builtin .max, args := #[x, y], argTypes := ts }) (h1 : opOf E x = some (.v (.int k a), c1)) (h2 : opOf E y = some (.v (.int k b), c2))
    (h : c1 ∧ c2) : Ev P Θ E o (.d (.v (.int k (if b > a then b else a)))) := by
  refine .plain (xs := [(x, .v (.int k a)), (y, .v (.int k b))]) (fun z hz => ?_) ?_
  · simp only [List.mem_cons, List.not_mem_nil, or_false] at hz
    rcases hz with rfl | rfl
    · exact ⟨opOf_sound h1 h.1, by simp [ho, Op.operands, Call.operands]⟩
    · exact ⟨opOf_sound h2 h.2, by simp [ho, Op.operands, Call.operands]⟩
  · intro S w ev _ hev
    have e1 := (hev (x, .v (.int k a)) (by simp)).v
    have e2 := (hev (y, .v (.int k b)) (by simp)).v
    exact ⟨.int k (if b > a then b else a), by simp [execOp, ho, resolve, invoke, builtin, Builtin.max_, Builtin.max2, e1, e2], RD.ofV rfl⟩
theorem Ev.min2 {o : Oper} {x y : Operand} {ts : Array TypeId} {k : IntKind} {a b : Int} {c1 c2 : Prop} (ho : o.op = .call { callee := .builtin .min, args := #[x, y], argTypes := ts }) (h1 : opOf E x = some (.v (.int k a), c1)) (h2 : opOf E y = some (.v (.int k b), c2))
    (h : c1 ∧ c2) : Ev P Θ E o (.d (.v (.int k (if b < a then b else a)))) := by
  refine .plain (xs := [(x, .v (.int k a)), (y, .v (.int k b))]) (fun z hz => ?_) ?_
  · simp only [List.mem_cons, List.not_mem_nil, or_false] at hz
    rcases hz with rfl | rfl
    · exact ⟨opOf_sound h1 h.1, by simp [ho, Op.operands, Call.operands]⟩
    · exact ⟨opOf_sound h2 h.2, by simp [ho, Op.operands, Call.operands]⟩
  · intro S w ev _ hev
    have e1 := (hev (x, .v (.int k a)) (by simp)).v
    have e2 := (hev (y, .v (.int k b)) (by simp)).v
    exact ⟨.int k (if b < a then b else a), by simp [execOp, ho, resolve, invoke, builtin, Builtin.min_, Builtin.min2, e1, e2], RD.ofV rfl⟩

theorem Ev.conv {o : Oper} {x : Operand} {src dst : TypeId} {k k1 k2 : IntKind} {a : Int} {c : Prop} (ho : o.op = .convert src dst x) (h1 : opOf E x = some (.v (.int k a), c)) (hs : P.underlying src = some (.int k1)) (hd : P.underlying dst = some (.int k2)) (hc : c) :
    Ev P Θ E o (.d (.v (.int k2 (k2.wrap a)))) := by
  refine .cv ho (opOf_sound h1 hc) fun S w u hu => ?_
  rw [hu.v]
  refine ⟨.int k2 (k2.wrap a), ?_, RD.ofV rfl⟩
  simp [convert, run_underlying hs, run_underlying hd, Conv.intToInt]

theorem Ev.mkI {o : Oper} {T e es b : Nat} {l c : Operand} {kl kc : IntKind} {m m' : Int} {c1 c2 : Prop} (ho : o.op = .makeSlice T l c) (h1 : opOf E l = some (.v (.int kl m), c1)) (h2 : opOf E c = some (.v (.int kc m'), c2)) (ht : (Θ T).td = .sl e es b)
    (hk : (Θ e).known = true) (h : c1 ∧ c2 ∧ m' = m ∧ 0 ≤ m ∧ m.toNat * b ≤ 281474976710656 ∧ m.toNat ≤ maxLen) : Ev P Θ E o (.d (.own false e es (List.replicate m.toNat (Θ e).z))) := by
  obtain ⟨g1, g2, rfl, g3, g4, g5⟩ := h
  exact .mk ho (opOf_sound h1 g1) (opOf_sound h2 g2) ht hk rfl g3 g4 g5

theorem Ev.lenS {o : Oper} {k T s p i j e' es' b} (ho : o.op = .call { callee := .builtin .len, args := #[.tmp k], argTypes := #[T] }) (h : E k = .sub s p i j) (ht : (Θ T).td = .sl e' es' b) : Ev P Θ E o (.d (.v (.int .i64 ((j - i : Nat) : Int)))) := .lenSub ho h ht

theorem OpsAt.appL {R : (Nat → Slot) → Prop} {ops : Array Oper} {ld : List Nat} {i : Nat} {os : List Oper} {K : List Item} {l : Env} {d q s : Nat} {x : Operand} {T : TypeId} {sk : SK} {nl e es xs ys b} {c : Prop} {ty : TypeId} {pos : String} {af : Array Edge} (hv : vwOf (lk l) q = some (s, [], nl, e, es, xs)) (hs : lk l s = .d (.own nl e es xs))
    (hx : opOf (lk l) x = some (.lst sk es ys, c)) (ht : (Θ T).td = .sl e es b) (hd : (decide (d < n) && !owner (lk l d) && (d != s)) = true) (hi : ld.contains i = true) (hc : c)
    (hb : (xs.length + ys.length) * b ≤ 140737488355328) (hm : xs.length + ys.length ≤ maxLen)
    (next : OpsAt P Θ n R ops ld (i + 1) os K (lk ((d, .d (.own (nl && ys.isEmpty) e es (xs ++ ys))) :: (s, .un) :: killL (refersTo s) l))) :
    OpsAt P Θ n R ops ld i (⟨some d, .call { callee := .builtin .append, args := #[.tmp q, x], argTypes := #[T, T] }, ty, pos, af, none⟩ :: os) K (lk l) :=
  .app hv hs (.lst (opOf_sound hx hc)) ht hd hb hm hi next

/-- A shared slice is of whatever make. -/
theorem Run.any {R : (Nat → Slot) → Prop} {todo : List Item} {l : Env} (s : Nat) {k : SK} {es : Nat} {xs : List D} (hE : lk l s = .d (.lst k es xs)) (h : Run P Θ n R todo (lk ((s, .d (.lst .any es xs)) :: l))) : Run P Θ n R todo (lk l) := by
  refine .ghost (fun ρ w tmps hI => ⟨ρ, Fr.refl _ _, hI.size, hI.lt, hI.tab, fun u => ?_⟩) h
  by_cases hu : s = u
  · subst hu
    simp only [lk, if_true]
    have h1 := hI.slot s
    rw [hE] at h1
    obtain ⟨cs, h2, h3⟩ := (RV.plain (x := .lst k es xs) rfl).1 h1
    simp only [Rp] at h2
    obtain ⟨a, l0, c, rfl, h4, h5⟩ := h2
    exact (RV.plain (x := .lst .any es xs) rfl).2 ⟨[.slice a l0 c], by simp only [Rp]; exact ⟨a, l0, c, rfl, h4.any, h5⟩, h3⟩
  · simp only [lk, hu, if_false]
    refine (hI.slot u).keep hI (fun b hb => ⟨hb, rfl⟩) (fun b r hb => ⟨hb, rfl⟩) (fun b hb => ⟨hb, rfl⟩) (fun s' hs' => ?_) (.inr ⟨fun _ _ => rfl, Nat.le_refl _⟩)
    have how := hI.refOwner hs'
    have h1 : s ≠ s' := by rintro rfl; rw [hE] at how; simp [owner] at how
    exact ⟨by simp [h1], rfl, fun _ _ => rfl⟩

theorem Run.raw' {P : Program} {Θ : TypeId → TI} {R : (Nat → Slot) → Prop} {c : Code} {k : List Item} {l l' : Env} (h : RawCode P n c (lk l) (lk l')) (next : Run P Θ n R k (lk l')) : Run P Θ n R (.code c :: k) (lk l) := .raw h next

end Go.Dat
