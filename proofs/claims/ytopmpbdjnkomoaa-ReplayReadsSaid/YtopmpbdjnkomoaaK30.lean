/- What may lie anywhere, by a function; calls that are lent all there is. No conditions. -/
import Derived.Test.YtopmpbdjnkomoaaK29
namespace Go.Dat

variable [Tables]

variable {P : Program} {Θ : TypeId → TI} {n : Nat} {E E' : Nat → Slot} {w : World}

def wopOf (E : Nat → Slot) : Operand → Option (D × Prop)
  | .tmp k => match E k with
    | .wk x => some (x, x.isTup = false)
    | .box x => some (.pt x.lend, True)
    | .ref s p => match E s with
      | .box x => some (.pt (x.get p).lend, True)
      | _ => none
    | .view s p => match E s with
      | .d (.own _ _ es xs) => some (.lst .any es xs, True)
      | .box x => match x.get p with
        | .own _ _ es xs => some (.lst .any es xs, True)
        | _ => none
      | _ => none
    | .elt s p i q => match E s with
      | .d (.own _ _ _ xs) => some (.pt ((xs.getD i un).get q), True)
      | .box x => match x.get p with
        | .own _ _ _ xs => some (.pt ((xs.getD i un).get q), True)
        | _ => none
      | _ => none
    | .d (.own _ _ es xs) => some (.lst .any es xs, True)
    | .d x => some (x, x.pl = true)
    | _ => none
  | o => opOf E o

omit [Tables] in
theorem wopOf_sound {o : Operand} {x : D} {c : Prop} (h : wopOf E o = some (x, c)) (hc : c) : WOp E o x := by
  unfold wopOf at h
  split at h
  · split at h
    · next h1 => cases h; exact .wk h1 hc
    · next h1 => cases h; exact .adr (p := []) ⟨h1, .inr ⟨rfl, rfl⟩⟩
    · next h1 =>
      split at h
      · next h2 => cases h; exact .adr ⟨h2, .inl h1⟩
      · cases h
    · next h1 =>
      split at h
      · next h2 => cases h; exact .vw (.inl ⟨h1, .inl h2⟩)
      · next h2 =>
        split at h
        · next h3 => cases h; exact .vw (.inl ⟨h1, .inr ⟨_, h2, h3⟩⟩)
        · cases h
      · cases h
    · next h1 =>
      split at h
      · next h2 => cases h; exact .elt ⟨h1, .inl h2⟩
      · next h2 =>
        split at h
        · next h3 => cases h; exact .elt ⟨h1, .inr ⟨_, h2, h3⟩⟩
        · cases h
      · cases h
    · next h1 => cases h; exact .vw (.inr ⟨h1, rfl, rfl⟩)
    · next hE _ => cases h; exact .pl (.tmp (by assumption) hc)
    · cases h
  · exact .pl (opOf_sound h hc)

def wopsOf (E : Nat → Slot) : List Operand → Option (List D × Prop)
  | [] => some ([], True)
  | o :: os => match wopOf E o with
    | none => none
    | some (x, s) => match wopsOf E os with
      | none => none
      | some (xs, s') => some (x :: xs, s ∧ s')

omit [Tables] in
theorem wopsOf_sound : ∀ {os : List Operand} {xs : List D} {c : Prop}, wopsOf E os = some (xs, c) → c → WOps E os xs
  | [], _, _, h, _ => by cases h; exact .nil
  | o :: os, _, _, h, hc => by
    unfold wopsOf at h
    split at h
    · cases h
    · next h1 =>
      split at h
      · cases h
      · next h2 => cases h; exact .cons (wopOf_sound h1 hc.1) (wopsOf_sound h2 hc.2)

/-- What is flat is known for good. -/
def keepS (x : D) : Slot := if x.flatv then .d x else .wk x

theorem Ev.wk1 {o : Oper} {z : D} {xs : List (Operand × D)} (hx : ∀ x ∈ xs, WOp E x.1 x.2 ∧ x.1 ∈ o.op.operands.toList) (hz : ExD P o xs z) : Ev P Θ E o (keepS z) := by
  unfold keepS
  split
  · next hf => exact .wplainF hx hz hf
  · exact .wplain hx hz

theorem Ev.callsF {o : Oper} {fo : Operand} {args : Array Operand} {ts : Array TypeId} {f : FuncId} {fs cs ds : List D} {r : D} {c1 c2 : Prop} (ho : o.op = .call { callee := .value fo, args := args, argTypes := ts })
    (h1 : wopOf E fo = some (.fn (.func f) fs cs, c1)) (h2 : wopsOf E args.toList = some (ds, c2)) (hr : r.fl = true) (hc : c1 ∧ c2) (hf : Callable P f) (hd : DFun P f (fs ++ ds ++ cs) r) : Ev P Θ E o (.d r) :=
  .wcall ho (wopOf_sound h1 hc.1) (wopsOf_sound h2 hc.2) hf hd hr
theorem Ev.callsW {o : Oper} {fo : Operand} {args : Array Operand} {ts : Array TypeId} {f : FuncId} {fs cs ds : List D} {r : D} {c1 c2 : Prop} (ho : o.op = .call { callee := .value fo, args := args, argTypes := ts })
    (h1 : wopOf E fo = some (.fn (.func f) fs cs, c1)) (h2 : wopsOf E args.toList = some (ds, c2)) (hr : r.noOwn = true) (hc : c1 ∧ c2) (hf : Callable P f) (hd : DFun P f (fs ++ ds ++ cs) r) : Ev P Θ E o (.wk r) :=
  .wcallW ho (wopOf_sound h1 hc.1) (wopsOf_sound h2 hc.2) hf hd hr

/-! ### Operations over data wherever they lie -/

omit [Tables] in
theorem ExD_load {o : Oper} {T : TypeId} {x : Operand} {d : D} (hΘ : Agree P Θ) (ho : o.op = .load T x) (hx : ∀ g, x ≠ .global g) (hf : (Θ T).fits d = true) : ExD P o [(x, .pt d)] d := by
  intro S w ev _ h
  obtain ⟨cs, h1, h2⟩ := h (x, .pt d) (by simp)
  simp only [Rp] at h1
  obtain ⟨b, o', us, rfl, h3, h4, h5⟩ := h1
  simp only [VC] at h2
  have he : ev x = .pointer (some ⟨b, o', none⟩) := by simpa using h2.symm
  obtain ⟨u, k1, k2⟩ := loadVar_run (P := P) hΘ hf (Rp.len _ h5) h4
  refine ⟨u, ?_, us, h5, k1⟩
  cases x with
  | global g => exact absurd rfl (hx g)
  | _ => simp [execOp, ho, Instr.loadAt, Instr.sureAddr, he, k2]

omit [Tables] in
theorem ExD_fa {o : Oper} {T f : Nat} {x : Operand} {ds : List D} {fs : List (TypeId × Nat)} {Tf : TypeId} (hΘ : Agree P Θ) (ho : o.op = .fieldAddr T x f) (hf : f < ds.length) (ht : (Θ T).td = .st fs) (hfs : fs[f]? = some (Tf, sizes (ds.take f))) :
    ExD P o [(x, .pt (.st ds))] (.pt (ds.getD f un)) := by
  intro S w ev _ h
  obtain ⟨cs, h1, h2⟩ := h (x, .pt (.st ds)) (by simp)
  simp only [Rp] at h1
  obtain ⟨b, o', us, rfl, h3, h4, h5⟩ := h1
  simp only [VC] at h2
  have he : ev x = .pointer (some ⟨b, o', none⟩) := by simpa using h2.symm
  refine ⟨.pointer (some ⟨b, o' + sizes (ds.take f), none⟩), by simp [execOp, ho, he, fieldAt_run (hΘ.says ht) hfs], [.pointer (some ⟨b, o' + sizes (ds.take f), none⟩)], ?_, by rfl⟩
  obtain ⟨m, k1, k2, _⟩ := Rp.part (p := [f]) (d := .st ds) h5 h4 (by simp [D.okp, hf])
  simp only [Rp]
  exact ⟨b, _, m, rfl, h3, by simpa [D.off] using k1, by simpa [D.get] using k2⟩

omit [Tables] in
theorem ExD_ia {o : Oper} {T : TypeId} {x ix : Operand} {sk es xs ik i e b} (hΘ : Agree P Θ) (ho : o.op = .indexAddr T x ix) (h0 : 0 ≤ i) (hi : i.toNat < xs.length) (ht : (Θ T).td = .sl e es b) :
    ExD P o [(x, .lst sk es xs), (ix, .v (.int ik i))] (.pt (xs.getD i.toNat un)) := by
  intro S w ev _ h
  obtain ⟨cs, h1, h2⟩ := h (x, .lst sk es xs) (by simp)
  have hv := (h (ix, .v (.int ik i)) (by simp)).v
  simp only [Rp] at h1
  obtain ⟨ad, l, c, rfl, h3, h4⟩ := h1
  simp only [VC] at h2
  have he : ev x = .slice ad l c := by simpa using h2.symm
  have hl : l = xs.length := by cases sk <;> simp_all [Hdr]
  subst hl
  cases ad with
  | none =>
    have : xs = [] := by cases sk <;> simp_all [Hdr]
    subst this
    simp at hi
  | some ad =>
    obtain ⟨m, k1, k2, k3, k4, k5⟩ := Rpx.at _ xs (h4 ad rfl) hi
    obtain ⟨b', o', sp⟩ := ad
    simp only at k2 k3 k4
    subst k2
    have hlt : i < (xs.length : Int) := by omega
    simp only at hv
    refine ⟨.pointer (some ⟨b', o' + es * i.toNat, none⟩), by simp [execOp, ho, he, hv, indexAt_slice_run (hΘ.says ht) h0 hlt], [.pointer (some ⟨b', o' + es * i.toNat, none⟩)], ?_, by rfl⟩
    simp only [Rp]
    exact ⟨b', _, m, rfl, k3, k4, k5⟩

omit [Tables] in
theorem ExD_iar {o : Oper} {T : TypeId} {x ix : Operand} {es ds ik i e} (hΘ : Agree P Θ) (ho : o.op = .indexAddr T x ix) (h0 : 0 ≤ i) (hi : i.toNat < ds.length) (ht : (Θ T).td = .ar ds.length e es) :
    ExD P o [(x, .pt (.arr es ds)), (ix, .v (.int ik i))] (.pt (ds.getD i.toNat un)) := by
  intro S w ev _ h
  obtain ⟨cs, h1, h2⟩ := h (x, .pt (.arr es ds)) (by simp)
  have hv := (h (ix, .v (.int ik i)) (by simp)).v
  simp only [Rp] at h1
  obtain ⟨b, o', us, rfl, h3, h4, h5⟩ := h1
  simp only [VC] at h2
  have he : ev x = .pointer (some ⟨b, o', none⟩) := by simpa using h2.symm
  have hlt : i < (ds.length : Int) := by omega
  simp only at hv
  refine ⟨.pointer (some ⟨b, o' + es * i.toNat, none⟩), by simp [execOp, ho, he, hv, indexAt_array_run (hΘ.says ht) h0 hlt], [.pointer (some ⟨b, o' + es * i.toNat, none⟩)], ?_, by rfl⟩
  obtain ⟨m, k1, k2, _⟩ := Rp.part (p := [i.toNat]) (d := .arr es ds) h5 h4 (by simp [D.okp, hi])
  simp only [Rp]
  exact ⟨b, _, m, rfl, h3, by simpa [D.off] using k1, by simpa [D.get] using k2⟩

omit [Tables] in
theorem ExD_nilc {o : Oper} {x : Operand} {d : D} (ho : o.op = .nilCheck x) : ExD P o [(x, .pt d)] (.pt d) := by
  intro S w ev _ h
  have h0 := h (x, .pt d) (by simp)
  obtain ⟨cs, h1, h2⟩ := h0
  have h1' := h1
  simp only [Rp] at h1'
  obtain ⟨b, o', us, rfl, h3, h4, h5⟩ := h1'
  simp only [VC] at h2
  have he : ev x = .pointer (some ⟨b, o', none⟩) := by simpa using h2.symm
  exact ⟨.pointer (some ⟨b, o', none⟩), by simp [execOp, ho, he], _, h1, by rfl⟩

/-- A quiet operation over what may lie anywhere: what it yields, and what it asks. -/
def evw (Θ : TypeId → TI) (E : Nat → Slot) (o : Oper) : Option (Slot × Prop) :=
  match o.op with
  | .load T (.tmp k) => match wopOf E (.tmp k) with
    | some (.pt d, c) => some (keepS d, c ∧ (Θ T).fits d = true)
    | _ => none
  | .fieldAddr T (.tmp k) f => match wopOf E (.tmp k), (Θ T).td with
    | some (.pt (.st ds), c), .st fs => some (keepS (.pt (ds.getD f un)), c ∧ faOk fs ds f = true)
    | _, _ => none
  | .indexAddr T (.tmp k) ix => match wopOf E (.tmp k), opOf E ix, (Θ T).td with
    | some (.lst _ es xs, c), some (.v (.int _ i), c'), .sl _ es' _ => some (keepS (.pt (xs.getD i.toNat un)), c ∧ c' ∧ es = es' ∧ 0 ≤ i ∧ i.toNat < xs.length)
    | some (.pt (.arr es ds), c), some (.v (.int _ i), c'), .ar n _ es' => some (keepS (.pt (ds.getD i.toNat un)), c ∧ c' ∧ es = es' ∧ ds.length = n ∧ 0 ≤ i ∧ i.toNat < ds.length)
    | _, _, _ => none
  | .nilCheck (.tmp k) => match wopOf E (.tmp k) with
    | some (.pt d, c) => some (keepS (.pt d), c)
    | _ => none
  | .makeFunc f first cap => match wopsOf E first.toList, wopsOf E cap.toList with
    | some (fs, c), some (cs, c') => some (.wk (.fn f fs cs), c ∧ c')
    | _, _ => none
  | .extract (.tmp k) i => match E k with
    | .wk (.tup ds) => some (keepS (ds.getD i un), i < ds.length)
    | _ => none
  | .call ⟨.builtin .len, args, ts⟩ => match args.toList, ts.toList with
    | [x], [T] => match wopOf E x, (Θ T).td with
      | some (.lst _ _ xs, c), .sl _ _ _ => some (.d (.v (.int .i64 xs.length)), c)
      | _, _ => none
    | _, _ => none
  | _ => none

theorem evw_sound {o : Oper} {s : Slot} {c : Prop} (hΘ : Agree P Θ) (h : evw Θ E o = some (s, c)) (hc : c) : Ev P Θ E o s := by
  unfold evw at h
  split at h
  · next T k ho =>
    split at h
    · next d c h1 =>
      cases h
      exact .wk1 (xs := [(.tmp k, .pt d)]) (by intro x hx; simp at hx; subst hx; exact ⟨wopOf_sound h1 hc.1, by simp [ho, Op.operands]⟩) (ExD_load hΘ ho (by simp) hc.2)
    · cases h
  · next T k f ho =>
    split at h
    · next ds c fs h1 h2 =>
      cases h
      obtain ⟨c1, Tf, c2⟩ := faOk_sound hc.2
      exact .wk1 (xs := [(.tmp k, .pt (.st ds))]) (by intro x hx; simp at hx; subst hx; exact ⟨wopOf_sound h1 hc.1, by simp [ho, Op.operands]⟩) (ExD_fa hΘ ho c1 h2 c2)
    · cases h
  · next T k ix ho =>
    split at h
    · next sk es xs c ik i c' e es' b h1 h2 h3 =>
      cases h
      obtain ⟨c1, c2, rfl, c3, c4⟩ := hc
      refine .wk1 (xs := [(.tmp k, .lst sk es xs), (ix, .v (.int ik i))]) (by
        intro x hx
        simp only [List.mem_cons, List.not_mem_nil, or_false] at hx
        rcases hx with rfl | rfl
        · exact ⟨wopOf_sound h1 c1, by simp [ho, Op.operands]⟩
        · exact ⟨.pl (opOf_sound h2 c2), by simp [ho, Op.operands]⟩) (ExD_ia hΘ ho c3 c4 h3)
    · next es ds c ik i c' n e es' h1 h2 h3 =>
      cases h
      obtain ⟨c1, c2, rfl, rfl, c3, c4⟩ := hc
      refine .wk1 (xs := [(.tmp k, .pt (.arr es ds)), (ix, .v (.int ik i))]) (by
        intro x hx
        simp only [List.mem_cons, List.not_mem_nil, or_false] at hx
        rcases hx with rfl | rfl
        · exact ⟨wopOf_sound h1 c1, by simp [ho, Op.operands]⟩
        · exact ⟨.pl (opOf_sound h2 c2), by simp [ho, Op.operands]⟩) (ExD_iar hΘ ho c3 c4 h3)
    · cases h
  · next k ho =>
    split at h
    · next d c h1 =>
      cases h
      exact .wk1 (xs := [(.tmp k, .pt d)]) (by intro x hx; simp at hx; subst hx; exact ⟨wopOf_sound h1 hc, by simp [ho, Op.operands]⟩) (ExD_nilc ho)
    · cases h
  · next f first cap ho =>
    split at h
    · next h1 h2 => cases h; exact .wmf ho (wopsOf_sound h1 hc.1) (wopsOf_sound h2 hc.2)
    · cases h
  · next k i ho =>
    split at h
    · next ds h1 =>
      cases h
      unfold keepS
      split
      · next hf => exact .wextF ho h1 hc hf
      · exact .wext ho h1 hc
    · cases h
  · next args ts ho =>
    split at h
    · next x T ha ht =>
      split at h
      · next sk es xs c e es' b h1 h2 =>
        cases h
        have ha' : args = #[x] := by apply Array.ext'; simpa using ha
        have ht' : ts = #[T] := by apply Array.ext'; simpa using ht
        subst ha' ht'
        refine .wplainF (xs := [(x, .lst sk es xs)]) (by intro y hy; simp at hy; subst hy; exact ⟨wopOf_sound h1 hc, by simp [ho, Op.operands, Call.operands]⟩) (ExD_len hΘ ho h2) rfl
      · cases h
    · cases h
  · cases h

section
variable {R : (Nat → Slot) → Prop} {ops : Array Oper} {ld : List Nat} {i : Nat} {os : List Oper} {k : List Item} {l : Env} {d : Nat} {op : Op} {ty : TypeId} {pos : String} {af : Array Edge}

theorem OpsAt.anyw {s : Slot} {c : Prop} (hΘ : Agree P Θ) (h : evw Θ (lk l) ⟨some d, op, ty, pos, af, none⟩ = some (s, c)) (hd : (decide (d < n) && !owner (lk l d)) = true) (hc : c)
    (next : OpsAt P Θ n R ops ld (i + 1) os k (lk ((d, s) :: l))) : OpsAt P Θ n R ops ld i (⟨some d, op, ty, pos, af, none⟩ :: os) k (lk l) :=
  .ev (evw_sound hΘ h hc) hd next
theorem OpsAt.anywg {s : Slot} {c : Prop} {j : Nat} {want : Bool} (hΘ : Agree P Θ) (hg : guardOf ops (lk l) j want = some true) (h : evw Θ (lk l) ⟨some d, op, ty, pos, af, some (j, want)⟩ = some (s, c)) (hd : (decide (d < n) && !owner (lk l d)) = true) (hc : c)
    (next : OpsAt P Θ n R ops ld (i + 1) os k (lk ((d, s) :: l))) : OpsAt P Θ n R ops ld i (⟨some d, op, ty, pos, af, some (j, want)⟩ :: os) k (lk l) :=
  .evg hg (evw_sound hΘ h hc) hd next
end

abbrev xa := @OpsAt.anyw
abbrev xb := @OpsAt.anywg
abbrev xc := @Ev.callsF
abbrev xd := @Ev.callsW
end Go.Dat
