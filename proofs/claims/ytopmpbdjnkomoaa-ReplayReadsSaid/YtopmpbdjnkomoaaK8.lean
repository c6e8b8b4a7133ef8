/- Each operation that leaves things alone is sound. No conditions. -/
import Derived.Test.YtopmpbdjnkomoaaK7
import Derived.Laws.MakeOwn
namespace Go.Dat

variable [Tables]

variable {P : Program} {Θ : TypeId → TI} {n : Nat} {ρ ρ' : Nat → Tag} {w w' : World} {E : Nat → Slot} {t : Nat} {u : Value}

omit [Tables] in
theorem Agree.says {T : TypeId} {td : TD} (h : Agree P Θ) (ht : (Θ T).td = td) : td.says P T := by
  cases htd : td with
  | no => trivial
  | _ =>
  have := h T (by simp [TI.known, ht, htd])
  rw [← htd, ← ht]
  exact this.says

omit [Tables] in
theorem eval_tmp {a : Act} {k : Nat} : a.eval (.tmp k) = a.tmps.getD k undef := rfl

theorem Elt.sound {tmps : Array Value} {k s : Nat} {p : List Nat} {i : Nat} {q : List Nat} {nl e es xs} (hI : Inv n ρ w tmps E) (h : Elt E k s p i q nl e es xs) :
    ∃ g l c, OwnAt w tmps E s p nl e es xs (.slice (some ⟨g, 0, none⟩) l c) ∧ i < xs.length ∧ (xs.getD i un).okp q ∧ tmps.getD k undef = .pointer (some ⟨g, es * i + (xs.getD i un).off q, none⟩) := by
  obtain ⟨h1, h2⟩ := h
  have := hI.slot k
  rw [h1] at this
  obtain ⟨nl', e', es', xs', g, l, c, ho, g1, g2, g3⟩ := this
  have heq : nl' = nl ∧ e' = e ∧ es' = es ∧ xs' = xs := by
    rcases ho with ⟨g1, _⟩ | ⟨x, b, g1, _, g2, _⟩
    · rcases h2 with h2 | ⟨x, h2, _⟩ <;> rw [g1] at h2 <;> cases h2
      simp
    · rcases h2 with h2 | ⟨x', h2, h3⟩ <;> rw [g1] at h2 <;> cases h2
      rw [g2] at h3
      cases h3
      simp
  obtain ⟨rfl, rfl, rfl, rfl⟩ := heq
  exact ⟨g, l, c, ho, g1, g2, g3⟩

omit [Tables] in
theorem D.get_app : ∀ (p : List Nat) (d : D) (q : List Nat), d.get (p ++ q) = (d.get p).get q
  | [], d, q => by simp [D.get]
  | i :: p, .st ds, q => by simp only [List.cons_append, D.get]; exact D.get_app p _ q
  | i :: p, .arr _ ds, q => by simp only [List.cons_append, D.get]; exact D.get_app p _ q
  | _ :: _, .v _, q => by cases q <;> simp [D.get, un]
  | _ :: _, .lst _ _ _, q => by cases q <;> simp [D.get, un]
  | _ :: _, .own _ _ _ _, q => by cases q <;> simp [D.get, un]
  | _ :: _, .fn _ _ _, q => by cases q <;> simp [D.get, un]
  | _ :: _, .pt _, q => by cases q <;> simp [D.get, un]
  | _ :: _, .dead _, q => by cases q <;> simp [D.get, un]
  | _ :: _, .tup _, q => by cases q <;> simp [D.get, un]

omit [Tables] in
theorem D.okp_app : ∀ (p : List Nat) (d : D) (q : List Nat), d.okp (p ++ q) ↔ d.okp p ∧ (d.get p).okp q
  | [], d, q => by simp [D.get, D.okp]
  | i :: p, .st ds, q => by simp only [List.cons_append, D.okp, D.get, D.okp_app p, and_assoc]
  | i :: p, .arr _ ds, q => by simp only [List.cons_append, D.okp, D.get, D.okp_app p, and_assoc]
  | _ :: _, .v _, q => by simp [D.okp]
  | _ :: _, .lst _ _ _, q => by simp [D.okp]
  | _ :: _, .own _ _ _ _, q => by simp [D.okp]
  | _ :: _, .fn _ _ _, q => by simp [D.okp]
  | _ :: _, .pt _, q => by simp [D.okp]
  | _ :: _, .dead _, q => by simp [D.okp]
  | _ :: _, .tup _, q => by simp [D.okp]

omit [Tables] in
theorem D.off_app : ∀ (p : List Nat) (d : D) (q : List Nat), d.okp p → d.off (p ++ q) = d.off p + (d.get p).off q
  | [], d, q, _ => by simp [D.get, D.off]
  | i :: p, .st ds, q, h => by simp only [D.okp] at h; simp only [List.cons_append, D.off, D.get, D.off_app p _ q h.2, Nat.add_assoc]
  | i :: p, .arr _ ds, q, h => by simp only [D.okp] at h; simp only [List.cons_append, D.off, D.get, D.off_app p _ q h.2, Nat.add_assoc]
  | _ :: _, .v _, q, h => by simp [D.okp] at h
  | _ :: _, .lst _ _ _, q, h => by simp [D.okp] at h
  | _ :: _, .own _ _ _ _, q, h => by simp [D.okp] at h
  | _ :: _, .fn _ _ _, q, h => by simp [D.okp] at h
  | _ :: _, .pt _, q, h => by simp [D.okp] at h
  | _ :: _, .dead _, q, h => by simp [D.okp] at h
  | _ :: _, .tup _, q, h => by simp [D.okp] at h

omit [Tables] in
theorem nth_map_vals {S : Nat → Prop} : ∀ {ds : List D} {us : List Value} {i : Nat}, Rpv S w ds us → i < ds.length → ∃ v, us[i]? = some v ∧ RD S w (ds.getD i un) v
  | [], _, _, _, h => by simp at h
  | d :: ds, _, i, h, hi => by
    simp only [Rpv] at h
    obtain ⟨u, y, cs, rfl, h1, h2, h3⟩ := h
    cases i with
    | zero => exact ⟨u, by simp, cs, by simpa using h1, by simpa using h2⟩
    | succ i =>
      obtain ⟨v, g1, g2⟩ := nth_map_vals h3 (by simpa using hi)
      exact ⟨v, by simpa using g1, by simpa using g2⟩

omit [Tables] in
theorem RVs.nth : ∀ {ds : List D} {us : List Value} {k i : Nat}, RVs ρ w t k ds us → i < ds.length → ∃ v, us[i]? = some v ∧ RV1 ρ w t [k + i] (ds.getD i un) v
  | [], _, _, _, _, h => by simp at h
  | d :: ds, _, k, i, h, hi => by
    obtain ⟨u, y, rfl, h1, h2⟩ := h
    cases i with
    | zero => exact ⟨u, by simp, by simpa using h1⟩
    | succ i =>
      obtain ⟨v, g1, g2⟩ := RVs.nth h2 (i := i) (by simpa using hi)
      exact ⟨v, by simpa using g1, by simpa [Nat.add_assoc, Nat.add_comm 1 i] using g2⟩

omit [Tables] in
theorem RV1.plain {x : D} {p : List Nat} (h : x.pl = true) (hx : RV1 ρ w t p x u) : RD (sh ρ) w x u := by
  obtain ⟨cs, h1, h2⟩ := hx
  refine ⟨cs, (RB.plain x ?_).1 h1, h2⟩
  cases x <;> simp_all [D.pl]

omit [Tables] in
theorem RVs.at {t t' : Nat} : ∀ {ds : List D} {us : List Value} {i : Nat}, RVs ρ w t i ds us → noOwns ds = true → RVs ρ w t' i ds us
  | [], _, _, h, _ => h
  | d :: ds, us, i, h, hn => by
    simp only [noOwns, Bool.and_eq_true] at hn
    obtain ⟨u, y, rfl, ⟨cs, h1, h2⟩, h3⟩ := h
    exact ⟨u, y, rfl, ⟨cs, (RB.plain d hn.1).2 ((RB.plain d hn.1).1 h1), h2⟩, h3.at hn.2⟩

section
variable {a : Act} {o : Oper}

theorem Ev.sound_mv {x d} (hI : Inv n ρ w a.tmps E) (ho : o.op = .move x ∨ o.op = .assign x) (hx : OpD E x d) : Yields P o a ρ w E t (.d d) := by
  refine .pure (v := a.eval x) hI ?_ (hx.sound hI).rv
  rcases ho with ho | ho <;> simp [execOp, ho]

theorem Ev.sound_load {T k b o' : Nat} {x : D} {cs : List Value} (hΘ : Agree P Θ) (hI : Inv n ρ w a.tmps E) (ho : o.op = .load T (.tmp k)) (hk : a.tmps.getD k undef = .pointer (some ⟨b, o', none⟩))
    (hm : Mem w b o' cs) (hx : Rp (sh ρ) w x cs) (hf : (Θ T).fits x = true) : Yields P o a ρ w E t (.d x) := by
  obtain ⟨u, h1, h2⟩ := loadVar_run (P := P) hΘ hf (Rp.len x hx) hm
  refine .pure (v := u) hI ?_ (RD.rv ⟨cs, hx, h1⟩)
  simp [execOp, ho, Instr.loadAt, Instr.sureAddr, eval_tmp, hk, h2]

omit [Tables] in
theorem RS.dat {tmps : Array Value} {x : D} {cs : List Value} (h : Rp (sh ρ) w x cs) (hv : VC x u cs) : RS ρ w tmps E t u (.d x) := RD.rv ⟨cs, h, hv⟩

omit [Tables] in
theorem D.pl_noOwn {x : D} (h : x.pl = true) : x.noOwn = true := by cases x <;> simp_all [D.pl]

omit [Tables] in
theorem sliceBound_run {k : IntKind} {v : Int} {y : Nat} {c : BoundsCode} (h0 : 0 ≤ v) (h : v.toNat ≤ y) : (Instr.sliceBound (.int k v) y c).run P w = .ok v.toNat w := by
  have : v ≤ (y : Int) := by omega
  simp [Instr.sliceBound, asIntOf, h0, this]

omit [Tables] in
/-- A slice expression over a slice. -/
theorem slice_run {T e es b : Nat} {lo hi : Option Operand} {ad : Option Addr} {l cap i j : Nat} {f : Operand → Value} (ht : TD.says P T (.sl e es b))
    (hl : (lo = none ∧ i = 0) ∨ ∃ x k v, lo = some x ∧ f x = .int k v ∧ 0 ≤ v ∧ v.toNat = i) (hh : (hi = none ∧ j = l) ∨ ∃ x k v, hi = some x ∧ f x = .int k v ∧ 0 ≤ v ∧ v.toNat = j) (hij : i ≤ j) (hj : j ≤ cap) :
    (Instr.sliceAt T (.slice ad l cap) (lo.map f) (hi.map f) none).run P w = .ok (.slice (if cap = i then ad else ad.map (·.add (i * es))) (j - i) (cap - i)) w := by
  obtain ⟨hu, q, z, h1, h2, _⟩ := ht
  have hsz : (sizeOf e).run P w = .ok es w := by simp [sizeOf, typeInfo, h1, h2]
  have hb : (Instr.sliceBounds true l cap (lo.map f) (hi.map f) none).run P w = .ok (i, j, cap) w := by
    unfold Instr.sliceBounds
    rcases hh with ⟨rfl, rfl⟩ | ⟨x, k, v, rfl, h3, h4, rfl⟩ <;> rcases hl with ⟨rfl, rfl⟩ | ⟨x', k', v', rfl, h5, h6, rfl⟩
    · simp
    · simp [h5, sliceBound_run h6 hij]
    · simp [h3, sliceBound_run h4 hj]
    · simp [h3, h5, sliceBound_run h4 hj, sliceBound_run h6 hij]
  simp [Instr.sliceAt, Instr.slice, run_underlying hu, hb, hsz]

theorem Bnd.sound {tmps : Array Value} {a : Act} {x d i} (ha : a.tmps = tmps) (hI : Inv n ρ w tmps E) (h : Bnd E x d i) : (x = none ∧ i = d) ∨ ∃ y k v, x = some y ∧ a.eval y = .int k v ∧ 0 ≤ v ∧ v.toNat = i := by
  subst ha
  cases h with
  | no => exact .inl ⟨rfl, rfl⟩
  | «at» h h0 => exact .inr ⟨_, _, _, rfl, (h.sound hI).v, h0, rfl⟩

omit [Tables] in
theorem Rpx.of {S : Nat → Prop} {es b : Nat} (hS : S b) : ∀ {xs : List D} {o : Nat} {cells : List Value}, Rpa S w es xs cells → Mem w b o cells → Rpx S w es ⟨b, o, none⟩ xs
  | [], _, _, _, _ => by simp [Rpx]
  | x :: xs, o, _, h, hm => by
    simp only [Rpa] at h
    obtain ⟨c, y, rfl, h1, h2, h3⟩ := h
    rw [Mem.app] at hm
    simp only [Rpx]
    exact ⟨c, h1, trivial, hS, hm.1, h2, Rpx.of hS h3 (by rw [← h1]; exact hm.2)⟩

omit [Tables] in
theorem Rp.flatv {S S' : Nat → Prop} {w w' : World} : ∀ (d : D) {vs}, d.flatv = true → Rp S w d vs → Rp S' w' d vs
  | .v x, vs, _, h => by simpa only [Rp] using h
  | .st ds, vs, hf, h => by simp only [Rp] at h ⊢; exact many ds (by simpa [D.flatv] using hf) h
  | .tup _, _, _, h => by simp only [Rp] at h
  | .arr _ ds, _, hf, h => by simp only [Rp] at h ⊢; exact row ds (by simpa [D.flatv] using hf) h
  | .lst _ _ _, _, hf, _ => by simp [D.flatv] at hf
  | .own _ _ _ _, _, hf, _ => by simp [D.flatv] at hf
  | .fn _ _ _, _, hf, _ => by simp [D.flatv] at hf
  | .pt _, _, hf, _ => by simp [D.flatv] at hf
  | .dead _, _, _, h => by simpa only [Rp] using h
where
  many : ∀ (ds : List D) {vs}, flatvs ds = true → Rps S w ds vs → Rps S' w' ds vs
    | [], _, _, h => by simpa only [Rps] using h
    | d :: ds, _, hf, h => by
      simp only [flatvs, Bool.and_eq_true] at hf
      simp only [Rps] at h ⊢
      obtain ⟨x, y, rfl, h1, h2⟩ := h
      exact ⟨x, y, rfl, Rp.flatv d hf.1 h1, many ds hf.2 h2⟩
  row : ∀ (ds : List D) {es vs}, flatvs ds = true → Rpa S w es ds vs → Rpa S' w' es ds vs
    | [], _, _, _, h => by simpa only [Rpa] using h
    | d :: ds, _, _, hf, h => by
      simp only [flatvs, Bool.and_eq_true] at hf
      simp only [Rpa] at h ⊢
      obtain ⟨x, y, rfl, l, h1, h2⟩ := h
      exact ⟨x, y, rfl, l, Rp.flatv d hf.1 h1, row ds hf.2 h2⟩

omit [Tables] in
mutual
theorem D.flatv_noOwn : ∀ (d : D), d.flatv = true → d.noOwn = true
  | .v _, _ => rfl
  | .st ds, h => by simp only [D.flatv] at h; simp only [D.noOwn]; exact flatvs_noOwns ds h
  | .tup ds, h => by simp only [D.flatv] at h; simp only [D.noOwn]; exact flatvs_noOwns ds h
  | .arr _ ds, h => by simp only [D.flatv] at h; simp only [D.noOwn]; exact flatvs_noOwns ds h
  | .lst _ _ _, h => by simp [D.flatv] at h
  | .own _ _ _ _, h => by simp [D.flatv] at h
  | .fn _ _ _, h => by simp [D.flatv] at h
  | .pt _, h => by simp [D.flatv] at h
  | .dead _, _ => rfl
theorem flatvs_noOwns : ∀ (ds : List D), flatvs ds = true → noOwns ds = true
  | [], _ => rfl
  | d :: ds, h => by
    simp only [flatvs, Bool.and_eq_true] at h
    simp only [noOwns, Bool.and_eq_true]
    exact ⟨D.flatv_noOwn d h.1, flatvs_noOwns ds h.2⟩
end

omit [Tables] in
theorem RV1.flatv {t t' : Nat} {p : List Nat} {d : D} (hf : d.flatv = true) (h : RV1 ρ w t p d u) : RV1 ρ' w' t' p d u := by
  obtain ⟨cs, h1, h2⟩ := h
  have hn := D.flatv_noOwn d hf
  exact ⟨cs, (RB.plain d hn).2 (Rp.flatv d hf ((RB.plain d hn).1 h1)), h2⟩

omit [Tables] in
theorem RVs.flatv {t t' : Nat} : ∀ {ds : List D} {us : List Value} {i : Nat}, flatvs ds = true → RVs ρ w t i ds us → RVs ρ' w' t' i ds us
  | [], _, _, _, h => h
  | d :: ds, us, i, hf, h => by
    simp only [flatvs, Bool.and_eq_true] at hf
    obtain ⟨u, y, rfl, h1, h3⟩ := h
    exact ⟨u, y, rfl, h1.flatv hf.1, h3.flatv hf.2⟩

omit [Tables] in
theorem RV.flatv {t t' : Nat} {d : D} (hf : d.flatv = true) (h : RV ρ w t d u) : RV ρ' w' t' d u := by
  cases d with
  | tup ds => obtain ⟨us, h1, h2⟩ := h; exact ⟨us, h1, h2.flatv hf⟩
  | v x => exact RV1.flatv (d := .v x) hf h
  | st ds => exact RV1.flatv (d := .st ds) hf h
  | arr es ds => exact RV1.flatv (d := .arr es ds) hf h
  | dead q => exact RV1.flatv (d := .dead q) hf h
  | _ => simp [D.flatv] at hf

theorem BArgs.sound {a : Act} {os : List Operand} {xs : List D} (hI : Inv n ρ w a.tmps E) (h : BArgs E os xs) : Rpv (fun b => b < w.heap.size) w xs (os.map a.eval) := by
  have hS : ∀ b, sh ρ b → b < w.heap.size ∧ w.heap[b]? = w.heap[b]? := fun b hb => ⟨hI.lt b (by simp only [sh] at hb; simp [hb]), rfl⟩
  induction h with
  | nil => simp [Rpv]
  | plain h1 _ ih =>
    obtain ⟨cs, h2, h3⟩ := h1.sound hI
    simp only [List.map_cons, Rpv]
    exact ⟨_, _, cs, rfl, Rp.mono hS _ h2, h3, ih⟩
  | @own k s p nl e es xs os ds h1 hp _ ih =>
    obtain ⟨cells, ⟨o1, o2⟩, o3, _⟩ := (h1.sound hI).own hI
    simp only [List.map_cons, Rpv]
    refine ⟨_, _, [a.eval (.tmp k)], rfl, ?_, rfl, ih⟩
    simp only [Rp]
    rcases o2 with ⟨o2, o2'⟩ | ⟨g, cap, cur, o2, _, p1, p2, p3, p4, p5⟩
    · have hx : xs = [] := List.eq_nil_of_length_eq_zero o2'
      subst hx
      exact ⟨none, 0, 0, by rw [eval_tmp, o2], by simp [Hdr], by simp⟩
    · refine ⟨some ⟨g, 0, none⟩, xs.length, cap, by rw [eval_tmp, o2], ⟨rfl, p2, by simp⟩, fun ad had => ?_⟩
      cases had
      refine Rpx.of (S := fun b => b < w.heap.size) (Array.getElem?_eq_some_iff.1 p1).1 (Rpa.mono hS _ o3) (Mem.ofAt fun m v hm => ?_)
      rw [cell_of_row w g _ _ _ _ p1]
      rw [← p5, List.getElem?_take] at hm
      split at hm
      · simpa using hm
      · cases hm

/-! ### What may lie anywhere -/

omit [Tables] in
theorem ROwn.lend {tg : Tag} {nl e es xs} {v : Value} (hlt : ∀ b, ρ b ≠ .other → b < w.heap.size) (h : ROwn ρ w tg nl e es xs v) : Rp (All w) w (.lst .any es xs) [v] := by
  have hS : ∀ b, sh ρ b → All w b ∧ w.heap[b]? = w.heap[b]? := fun b hb => ⟨hlt b (by simp only [sh] at hb; simp [hb]), rfl⟩
  obtain ⟨cells, ⟨o1, o2⟩, o3, _⟩ := h
  simp only [Rp]
  rcases o2 with ⟨o2, o2'⟩ | ⟨g, cap, cur, o2, _, p1, p2, p3, p4, p5⟩
  · have hx : xs = [] := List.eq_nil_of_length_eq_zero o2'
    subst hx
    exact ⟨none, 0, 0, by rw [o2], by simp [Hdr], by simp⟩
  · refine ⟨some ⟨g, 0, none⟩, xs.length, cap, by rw [o2], ⟨rfl, p2, by simp⟩, fun ad had => ?_⟩
    cases had
    refine Rpx.of (S := All w) (Array.getElem?_eq_some_iff.1 p1).1 (Rpa.mono hS _ o3) (Mem.ofAt fun m v hm => ?_)
    rw [cell_of_row w g _ _ _ _ p1]
    rw [← p5, List.getElem?_take] at hm
    split at hm
    · simpa using hm
    · cases hm

omit [Tables] in
theorem RB.lend (hlt : ∀ b, ρ b ≠ .other → b < w.heap.size) {t : Nat} : ∀ (d : D) {p vs}, RB ρ w t p d vs → Rp (All w) w d.lend vs
  | .own _ _ _ _, _, _, h => by
    simp only [RB] at h
    obtain ⟨v, rfl, h⟩ := h
    exact h.lend hlt
  | .st ds, _, _, h => by simp only [RB] at h; simp only [D.lend, Rp]; exact many ds h
  | .arr _ ds, _, _, h => by simp only [RB] at h; simp only [D.lend, Rp]; exact row ds h
  | .v _, _, _, h => by simp only [RB] at h; exact Rp.mono hS _ h
  | .lst _ _ _, _, _, h => by simp only [RB] at h; exact Rp.mono hS _ h
  | .fn _ _ _, _, _, h => by simp only [RB] at h; exact Rp.mono hS _ h
  | .pt _, _, _, h => by simp only [RB] at h; exact Rp.mono hS _ h
  | .dead _, _, _, h => by simp only [RB] at h; exact Rp.mono hS _ h
  | .tup _, _, _, h => by simp only [RB] at h
where
  hS : ∀ b, sh ρ b → All w b ∧ w.heap[b]? = w.heap[b]? := fun b hb => ⟨hlt b (by simp only [sh] at hb; simp [hb]), rfl⟩
  many : ∀ (ds : List D) {p i vs}, RBs ρ w t p i ds vs → Rps (All w) w (lends ds) vs
    | [], _, _, _, h => by simpa only [RBs, Rps, lends] using h
    | d :: ds, _, _, _, h => by
      simp only [RBs] at h
      simp only [Rps, lends]
      obtain ⟨x, y, rfl, h1, h2⟩ := h
      exact ⟨x, y, rfl, RB.lend hlt d h1, many ds h2⟩
  row : ∀ (ds : List D) {p i es vs}, RBa ρ w t p i es ds vs → Rpa (All w) w es (lends ds) vs
    | [], _, _, _, _, h => by simpa only [RBa, Rpa, lends] using h
    | d :: ds, _, _, _, _, h => by
      simp only [RBa] at h
      simp only [Rpa, lends]
      obtain ⟨x, y, rfl, l, h1, h2⟩ := h
      exact ⟨x, y, rfl, l, RB.lend hlt d h1, row ds h2⟩

theorem Inv.all {tmps : Array Value} (hI : Inv n ρ w tmps E) : ∀ b, sh ρ b → All w b ∧ w.heap[b]? = w.heap[b]? := fun b hb => ⟨hI.lt b (by simp only [sh] at hb; simp [hb]), rfl⟩

omit [Tables] in
theorem WV.rd {x : D} {u : Value} (hx : x.isTup = false) (h : WV w x u) : RD (All w) w x u := by
  cases x <;> first | exact h | cases hx

theorem WOp.sound {a : Act} {o : Operand} {x : D} (hI : Inv n ρ w a.tmps E) (h : WOp E o x) : RD (All w) w x (a.eval o) := by
  cases h with
  | pl h => exact (h.sound hI).mono hI.all
  | @wk k _ h hx =>
    have h1 := hI.slot k
    rw [h] at h1
    exact WV.rd hx h1
  | @adr k s p x h =>
    obtain ⟨b, cs, g1, g2, g3, g4, g5, g6⟩ := h.sound hI
    obtain ⟨c1, m, c2, e1, e2, e3, _⟩ := RB.lens p x g5 g6
    have hm := g4.mem
    rw [e1, Mem.app, Mem.app] at hm
    refine ⟨[.pointer (some ⟨b, x.off p, none⟩)], ?_, by simp [VC, eval_tmp, g2]⟩
    simp only [Rp]
    exact ⟨b, _, m, rfl, hI.lt b (by simp [g3]), by rw [← e2]; simpa using hm.1.2, RB.lend hI.lt _ e3⟩
  | @vw k s p nl e es xs h => exact ⟨[a.tmps.getD k undef], ((h.sound hI).own hI).lend hI.lt, rfl⟩
  | @elt k s p i q nl e es xs h =>
    obtain ⟨g, l, c, h1, h2, h3, h4⟩ := h.sound hI
    obtain ⟨m, g1, g2, g3⟩ := h1.elt hI h2
    obtain ⟨m', k1, k2, k3⟩ := Rp.part g3 g2 h3
    refine ⟨[.pointer (some ⟨g, es * i + (xs.getD i un).off q, none⟩)], ?_, by simp [VC, eval_tmp, h4]⟩
    simp only [Rp]
    have hg : g < w.heap.size := by
      obtain ⟨cells, ⟨_, o2⟩, _⟩ := h1.own hI
      rcases o2 with ⟨o2, _⟩ | ⟨g', cap, cur, o2, _, p1, _⟩
      · cases o2
      · simp only [Value.slice.injEq, Option.some.injEq, Addr.mk.injEq] at o2
        rw [o2.1.1]
        exact (Array.getElem?_eq_some_iff.1 p1).1
    exact ⟨g, _, m', rfl, hg, k1, Rp.mono hI.all _ k2⟩

theorem WOps.sound {a : Act} {os : List Operand} {xs : List D} (hI : Inv n ρ w a.tmps E) (h : WOps E os xs) : Rpv (All w) w xs (os.map a.eval) := by
  induction h with
  | nil => simp [Rpv]
  | cons h1 _ ih =>
    obtain ⟨cs, h2, h3⟩ := h1.sound hI
    simp only [List.map_cons, Rpv]
    exact ⟨_, _, cs, rfl, h2, h3, ih⟩

omit [Tables] in
theorem RD.wv {x : D} (h : RD (All w) w x u) : WV w x u := by
  cases x <;> first
    | exact h
    | (obtain ⟨cs, h1, _⟩ := h; simp only [Rp] at h1)

omit [Tables] in
theorem RD.flat {S S' : Nat → Prop} {x : D} (hf : x.flatv = true) (h : RD S w x u) : RD S' w' x u := let ⟨cs, h1, h2⟩ := h; ⟨cs, Rp.flatv x hf h1, h2⟩

omit [Tables] in
theorem Rpv.nth {S : Nat → Prop} : ∀ {ds : List D} {us : List Value} {i : Nat}, Rpv S w ds us → i < ds.length → ∃ v, us[i]? = some v ∧ RD S w (ds.getD i un) v
  | [], _, _, _, h => by simp at h
  | d :: ds, us, i, h, hi => by
    simp only [Rpv] at h
    obtain ⟨u, y, cs, rfl, h1, h2, h3⟩ := h
    cases i with
    | zero => exact ⟨u, rfl, cs, h1, h2⟩
    | succ i =>
      obtain ⟨v, g1, g2⟩ := h3.nth (i := i) (by simpa using hi)
      exact ⟨v, by simpa using g1, by simpa using g2⟩

omit [Tables] in
theorem RV.wv {t : Nat} {x : D} (hx : x.noOwn = true) (hs : ∀ b, ρ b = .sh → All w b) (h : RV ρ w t x u) : WV w x u := by
  have hS : ∀ b, sh ρ b → All w b ∧ w.heap[b]? = w.heap[b]? := fun b hb => ⟨hs b hb, rfl⟩
  have one : ∀ {p : List Nat} {x : D} {u : Value}, x.noOwn = true → RV1 ρ w t p x u → RD (All w) w x u := fun hx ⟨cs, h1, h2⟩ => ⟨cs, Rp.mono hS _ ((RB.plain _ hx).1 h1), h2⟩
  cases x with
  | tup ds =>
    obtain ⟨us, e, h⟩ := h
    refine ⟨us, e, ?_⟩
    simp only [D.noOwn] at hx
    clear e
    have key : ∀ (ds : List D) {i us}, noOwns ds = true → RVs ρ w t i ds us → Rpv (All w) w ds us := by
      intro ds
      induction ds with
      | nil => intro i us _ h; simp only [RVs] at h; subst h; simp [Rpv]
      | cons d ds ih =>
        intro i us hx h
        simp only [noOwns, Bool.and_eq_true] at hx
        obtain ⟨u, y, rfl, h1, h2⟩ := h
        obtain ⟨cs, g1, g2⟩ := one hx.1 h1
        simp only [Rpv]
        exact ⟨u, y, cs, rfl, g1, g2, ih hx.2 h2⟩
    exact key ds hx h
  | _ => exact (one hx h).wv

omit [Tables] in
theorem RS.newShared {tmps : Array Value} {xs : List D} {cs : Array Value} {e es cap : Nat} (hlt : ∀ b, ρ b ≠ .other → b < w.heap.size) (hes : xs.length ≤ cap)
    (h : Rpa (sh ρ) w es xs cs.toList) : RS (ext ρ w .sh) (w.alloc (.cells cs e)) tmps E t (.slice (some ⟨w.heap.size, 0, none⟩) xs.length cap) (.d (.lst .any es xs)) := by
  have g := Grow.alloc hlt .sh (.cells cs e)
  refine RS.dat (cs := [.slice (some ⟨w.heap.size, 0, none⟩) xs.length cap]) ?_ rfl
  simp only [Rp]
  refine ⟨_, _, _, rfl, ⟨rfl, hes, by simp⟩, fun ad had => ?_⟩
  cases had
  refine Rpx.of (by simp [sh, ext]) (Rpa.mono (g.shd hlt) _ h) (Mem.ofAt fun m v hm => ?_)
  rw [cell_of_row _ w.heap.size _ _ _ _ (heap_alloc_new _ _)]
  simpa using hm

omit [Tables] in
theorem made_list (z : Array Value) (hz : 0 < z.size) : ∀ n, (madeCells z (n * z.size)).toList = (List.replicate n z.toList).flatten
  | 0 => by simp [madeCells]
  | n + 1 => by
    have h := made_list z hz n
    have e : (n + 1) * z.size = n * z.size + z.size := Nat.succ_mul n z.size
    simp only [madeCells, Array.toList_map, Array.toList_range, e, List.range_add, List.map_append, List.map_map] at h ⊢
    rw [h, List.replicate_succ', List.flatten_append]
    congr 1
    simp only [List.flatten_cons, List.flatten_nil, List.append_nil]
    apply List.ext_getElem
    · simp
    · intro k h1 h2
      simp only [List.length_map, List.length_range] at h1
      have hm : (n * z.size + k) % z.size = k := by rw [Nat.mul_add_mod_self_right, Nat.mod_eq_of_lt h1]
      simp [hm, h1]

omit [Tables] in
theorem Rpa.replicate {S : Nat → Prop} {es : Nat} {z : D} {c : List Value} (h : Rp S w z c) (hl : c.length = es) : ∀ n, Rpa S w es (List.replicate n z) (List.replicate n c).flatten
  | 0 => by simp [Rpa]
  | n + 1 => by
    simp only [List.replicate_succ, List.flatten_cons, Rpa]
    exact ⟨c, _, rfl, hl, h, Rpa.replicate h hl n⟩

theorem Ev.sound (hΘ : Agree P Θ) (hI : Inv n ρ w a.tmps E) {s : Slot} (h : Ev P Θ E o s) : Yields P o a ρ w E t s := by
  cases h with
  | mv ho hx => exact Ev.sound_mv hI ho hx
  | @mvBox s x ho hs =>
    obtain ⟨b, cs, g1, _⟩ := hI.box hs
    exact .pure (v := a.eval (.tmp s)) hI (by simp [execOp, ho]) ⟨x, b, hs, by simp [D.okp], g1, by simp only [D.off]; exact g1⟩
  | @mvOwn s nl e es xs ho hs => exact .pure (v := a.eval (.tmp s)) hI (by simp [execOp, ho]) ⟨nl, e, es, xs, .inl ⟨hs, rfl, rfl⟩⟩
  | @mvSame k _ ho hs hsame =>
    have h1 := hI.slot k
    rw [hs] at h1
    rcases ho with ho | ho | ho
    · refine .pure (v := a.eval (.tmp k)) hI (by simp [execOp, ho]) ?_
      cases s <;> first | exact h1 | simp [Same] at hsame
    · refine .pure (v := a.eval (.tmp k)) hI (by simp [execOp, ho]) ?_
      cases s <;> first | exact h1 | simp [Same] at hsame
    · cases s with
      | ref s p =>
        obtain ⟨x, b, g1, g2, g3, g4⟩ := h1
        refine .pure (v := a.eval (.tmp k)) hI (by simp only [execOp, ho, eval_tmp, g4, Sem.run_pure]) ⟨x, b, g1, g2, g3, g4⟩
      | view s p =>
        obtain ⟨nl, e, es, xs, g1⟩ := h1
        have g2 := g1.own hI
        obtain ⟨cells, ⟨_, g3⟩, _⟩ := g2
        refine .pure (v := a.eval (.tmp k)) hI ?_ ⟨nl, e, es, xs, g1⟩
        rcases g3 with ⟨g3, _⟩ | ⟨g, cap, cur, g3, _⟩ <;> simp only [execOp, ho, eval_tmp, g3, Sem.run_pure]
      | elt s p i q =>
        obtain ⟨nl, e, es, xs, g, l, c, g1, g2, g3, g4⟩ := h1
        refine .pure (v := a.eval (.tmp k)) hI (by simp only [execOp, ho, eval_tmp, g4, Sem.run_pure]) ⟨nl, e, es, xs, g, l, c, g1, g2, g3, g4⟩
      | sub s p i j =>
        obtain ⟨nl, e, es, xs, g, l, c, g1, g2, g3, a', c', g4, g5⟩ := h1
        refine .pure (v := a.eval (.tmp k)) hI (by simp only [execOp, ho, eval_tmp, g4, Sem.run_pure]) ⟨nl, e, es, xs, g, l, c, g1, g2, g3, a', c', g4, g5⟩
      | _ => simp [Same] at hsame
  | @mvTup k ds ho hs hn =>
    have h1 := hI.slot k
    rw [hs] at h1
    obtain ⟨us, h2, h3⟩ := h1
    exact .pure (v := a.eval (.tmp k)) hI (by simp [execOp, ho]) ⟨us, h2, h3.at hn⟩
  | @pickT c x y d ho hc hx =>
    have := (hc.sound hI).v
    exact .pure (v := a.eval x) hI (by simp [execOp, ho, this, asBool]) (hx.sound hI).rv
  | @pickF c x y d ho hc hx =>
    have := (hc.sound hI).v
    exact .pure (v := a.eval y) hI (by simp [execOp, ho, this, asBool]) (hx.sound hI).rv
  | @alloc T ho hk =>
    have hok := hΘ T hk
    obtain ⟨i, v, h1, h2, h3, h4, h5, h6⟩ := hok.info
    refine .val (w' := w.alloc (.cells v.cells T)) (v := .pointer (some ⟨w.heap.size, 0, none⟩)) ?_ (.alloc hI.lt (.bx t) _) (RS.newBox hI.lt ?_)
    · simp [execOp, ho, Instr.alloc, zeroValue, typeInfo, h1, h3, newVar, newRow]
    · rw [h4]; exact Rp.konst _ h6
  | @box T x d ho hx =>
    refine .val (w' := w.alloc (.cells (a.eval x).cells T)) (v := .pointer (some ⟨w.heap.size, 0, none⟩)) ?_ (.alloc hI.lt (.bx t) _) (RS.newBox hI.lt (hx.sound hI).cells)
    simp [execOp, ho, Instr.box, newVar, newRow]
  | @ldBox T k s p x ho hk hf hp =>
    obtain ⟨b, cs, g1, g2, g3, g4, g5, g6⟩ := hk.sound hI
    obtain ⟨c1, m, c2, e1, e2, e3, _⟩ := RB.lens p x g5 g6
    have hm := g4.mem
    rw [e1, Mem.app, Mem.app] at hm
    exact Ev.sound_load hΘ hI ho g2 (by rw [← e2]; simpa using hm.1.2) ((RB.plain _ (D.pl_noOwn hp)).1 e3) hf
  | @ldView T k s p x nl e es xs ho hk hx hf =>
    obtain ⟨b, cs, g1, g2, g3, g4, g5, g6⟩ := hk.sound hI
    obtain ⟨c1, m, c2, e1, e2, e3, _⟩ := RB.lens p x g5 g6
    have hm := g4.mem
    rw [e1, Mem.app, Mem.app] at hm
    have hl := RB.len _ e3
    rw [hx] at e3 hl
    have hm2 : Mem w b (x.off p) m := by rw [← e2]; simpa using hm.1.2
    obtain ⟨u, h1, h2⟩ := loadVar_run (P := P) hΘ hf hl hm2
    simp only [VC] at h1
    subst h1
    refine .pure (v := u) hI (by simp [execOp, ho, Instr.loadAt, Instr.sureAddr, eval_tmp, g2, h2]) ⟨nl, e, es, xs, .inr ⟨x, b, hk.1, g6, hx, g1, hm2.1⟩⟩
  | @ldElt T k s p i q nl e es xs ho hk hf =>
    obtain ⟨g, l, c, h1, h2, h3, h4⟩ := hk.sound hI
    obtain ⟨m, g1, g2, g3⟩ := h1.elt hI h2
    obtain ⟨m', k1, k2, k3⟩ := Rp.part g3 g2 h3
    exact Ev.sound_load hΘ hI ho h4 k1 k2 hf
  | @ldPt T k x ho hk hf =>
    have h1 := (RV.plain (x := .pt x) rfl).1 (by have := hI.slot k; rw [hk] at this; exact this)
    obtain ⟨cs, h2, h3⟩ := h1
    simp only [Rp] at h2
    obtain ⟨b, o', us, rfl, h4, h5, h6⟩ := h2
    simp only [VC] at h3
    exact Ev.sound_load hΘ hI ho (by simpa using h3.symm) h5 h6 hf
  | @faBox T k f s p x ds fs Tf ho hk hx hf ht hfs =>
    obtain ⟨b, cs, g1, g2, g3, g4, g5, g6⟩ := hk.sound hI
    refine .pure hI (by simp [execOp, ho, eval_tmp, g2, fieldAt_run (hΘ.says ht) hfs]; rfl) ⟨x, b, hk.1, ?_, g1, ?_⟩
    · rw [D.okp_app, hx]; exact ⟨g6, by simp [D.okp, hf]⟩
    · rw [D.off_app _ _ _ g6, hx]; simp [D.off]
  | @faElt T k f s p i q nl e es xs ds fs Tf ho hk hx hf ht hfs =>
    obtain ⟨g, l, c, h1, h2, h3, h4⟩ := hk.sound hI
    refine .pure hI (by simp [execOp, ho, eval_tmp, h4, fieldAt_run (hΘ.says ht) hfs]; rfl) ⟨nl, e, es, xs, g, l, c, h1, h2, ?_, ?_⟩
    · rw [D.okp_app, hx]; exact ⟨h3, by simp [D.okp, hf]⟩
    · rw [D.off_app _ _ _ h3, hx]; simp [D.off, Nat.add_assoc]
  | @faPt T k f ds fs Tf ho hk hf ht hfs =>
    have h1 := (RV.plain (x := .pt (.st ds)) rfl).1 (by have := hI.slot k; rw [hk] at this; exact this)
    obtain ⟨cs, h2, h3⟩ := h1
    simp only [Rp] at h2
    obtain ⟨b, o', us, rfl, h4, h5, h6⟩ := h2
    simp only [VC] at h3
    obtain ⟨m, k1, k2, k3⟩ := Rp.part (p := [f]) (d := .st ds) (by simpa only [Rp] using h6) h5 (by simp [D.okp, hf])
    have hk' : a.tmps.getD k undef = .pointer (some ⟨b, o', none⟩) := by simpa using h3.symm
    refine .pure (v := .pointer (some ⟨b, o' + sizes (ds.take f), none⟩)) hI (by simp [execOp, ho, eval_tmp, hk', fieldAt_run (hΘ.says ht) hfs]) (RS.dat (cs := [.pointer (some ⟨b, o' + sizes (ds.take f), none⟩)]) ?_ (by rfl))
    simp only [Rp]
    refine ⟨b, o' + sizes (ds.take f), m, rfl, h4, ?_, by simpa [D.get] using k2⟩
    simpa [D.off] using k1
  | @iaBox T k ix s p x es ds ik i e ho hk hx hix h0 hi ht =>
    obtain ⟨b, cs, g1, g2, g3, g4, g5, g6⟩ := hk.sound hI
    have hv := (hix.sound hI).v
    have hlt : i < (ds.length : Int) := by omega
    have hes : ∃ c1 m c2, cs = c1 ++ m ++ c2 ∧ c1.length = x.off p ∧ RB ρ w s p (x.get p) m := by
      obtain ⟨c1, m, c2, e1, e2, e3, _⟩ := RB.lens p x g5 g6
      exact ⟨c1, m, c2, e1, e2, by simpa using e3⟩
    refine .pure (v := .pointer (some ⟨b, x.off p + es * i.toNat, none⟩)) hI (by simp [execOp, ho, eval_tmp, g2, hv, indexAt_array_run (hΘ.says ht) h0 hlt]) ⟨x, b, hk.1, ?_, g1, ?_⟩
    · rw [D.okp_app, hx]; exact ⟨g6, by simp [D.okp, hi]⟩
    · rw [D.off_app _ _ _ g6, hx]; simp [D.off]
  | @iaPt T k ix es ds ik i e ho hk hix h0 hi ht =>
    have h1 := (RV.plain (x := .pt (.arr es ds)) rfl).1 (by have := hI.slot k; rw [hk] at this; exact this)
    obtain ⟨cs, h2, h3⟩ := h1
    simp only [Rp] at h2
    obtain ⟨b, o', us, rfl, h4, h5, h6⟩ := h2
    simp only [VC] at h3
    obtain ⟨m, k1, k2, k3⟩ := Rp.part (p := [i.toNat]) (d := .arr es ds) (by simpa only [Rp] using h6) h5 (by simp [D.okp, hi])
    have hk' : a.tmps.getD k undef = .pointer (some ⟨b, o', none⟩) := by simpa using h3.symm
    have hv := (hix.sound hI).v
    have hlt : i < (ds.length : Int) := by omega
    refine .pure (v := .pointer (some ⟨b, o' + es * i.toNat, none⟩)) hI (by simp [execOp, ho, eval_tmp, hk', hv, indexAt_array_run (hΘ.says ht) h0 hlt]) (RS.dat (cs := [.pointer (some ⟨b, o' + es * i.toNat, none⟩)]) ?_ (by rfl))
    simp only [Rp]
    refine ⟨b, o' + es * i.toNat, m, rfl, h4, ?_, by simpa [D.get] using k2⟩
    simpa [D.off] using k1
  | @iaLst T x ix sk es xs ik i e b ho hx hix h0 hi ht =>
    obtain ⟨cs, h1, h2⟩ := hx.sound hI
    have hv := (hix.sound hI).v
    simp only [Rp] at h1
    obtain ⟨ad, l, c, rfl, h3, h4⟩ := h1
    simp only [VC] at h2
    have he : a.eval x = .slice ad l c := by simpa using h2.symm
    have hl : l = xs.length := by cases sk <;> simp_all [Hdr]
    subst hl
    cases ad with
    | none =>
      have : xs = [] := by cases sk <;> simp_all [Hdr]
      subst this
      simp at hi
    | some ad =>
      obtain ⟨m, k1, k2, k3, k4, k5⟩ := Rpx.at _ xs (h4 ad rfl) hi
      obtain ⟨b', o', sp⟩ := ad
      simp only at k2 k3 k4
      subst k2
      have hlt : i < (xs.length : Int) := by omega
      refine .pure (v := .pointer (some ⟨b', o' + es * i.toNat, none⟩)) hI (by simp [execOp, ho, he, hv, indexAt_slice_run (hΘ.says ht) h0 hlt]) (RS.dat (cs := [.pointer (some ⟨b', o' + es * i.toNat, none⟩)]) ?_ (by rfl))
      simp only [Rp]
      exact ⟨b', _, m, rfl, k3, k4, k5⟩
  | @iaView T k ix s p nl e es xs ik i e' b ho hk hix h0 hi ht =>
    have h1 := hk.sound hI
    have hv := (hix.sound hI).v
    obtain ⟨cells, ⟨g1, g2⟩, _⟩ := h1.own hI
    rcases g2 with ⟨_, g2⟩ | ⟨g, cap, cur, g2, _⟩
    · omega
    · have hlt : i < (xs.length : Int) := by omega
      refine .pure (v := .pointer (some ⟨g, 0 + es * i.toNat, none⟩)) hI (by simp [execOp, ho, eval_tmp, g2, hv, indexAt_slice_run (hΘ.says ht) h0 hlt]) ⟨nl, e, es, xs, g, xs.length, cap, ?_, hi, by simp [D.okp], by simp [D.off]⟩
      rw [g2] at h1
      exact h1
  | @buildSlice T len e es b parts xs ho hx hi ht hs hb =>
    have hv := hx.sound hI
    rw [List.map_map] at hv
    obtain ⟨c, h1, h2, h3, h4⟩ := buildSlice_run (P := P) (w := w) (parts := parts.toList.map fun x => (x.1, a.eval x.2)) (hΘ.says ht) (by rw [List.map_map]; exact hv) (by rw [List.map_map]; exact hi) hs hb
    have hl : c.toList.length = xs.length * es := by rw [Array.length_toList, h3, h4]
    have htake : c.toList.take (xs.length * es) = c.toList := by rw [← hl, List.take_length]
    have hpos : 0 < es := (hΘ.says ht).2.elim fun i ⟨z, _, _, _, _, _, h⟩ => h
    refine .val (w' := w.alloc (.cells c e)) (v := .slice (some ⟨w.heap.size, 0, none⟩) xs.length len) ?_ (.alloc hI.lt (.sl t []) _)
      (RS.newOwn hI.lt (by omega) ?_ h3 (by rw [htake]; exact h2) (by rw [htake, hl]))
    · rw [h4]
      have : (parts.toList.map fun x => (x.1, a.eval x.2)).toArray = parts.map fun x => (x.1, a.eval x.2) := by apply Array.ext'; simp
      rw [this] at h1
      simp only [execOp, ho, Sem.run_bind, h1, Result.andThen_ok, Sem.run_pure]
    · have : len ≤ len * es := Nat.le_mul_of_pos_right _ hpos
      unfold maxLen
      omega
  | @buildShared T len e es b parts xs ho hx hi ht hs hb =>
    have hv := hx.sound hI
    rw [List.map_map] at hv
    obtain ⟨c, h1, h2, h3, h4⟩ := buildSlice_run (P := P) (w := w) (parts := parts.toList.map fun x => (x.1, a.eval x.2)) (hΘ.says ht) (by rw [List.map_map]; exact hv) (by rw [List.map_map]; exact hi) hs hb
    have hl : c.toList.length = xs.length * es := by rw [Array.length_toList, h3, h4]
    have htake : c.toList.take (xs.length * es) = c.toList := by rw [← hl, List.take_length]
    have hpos : 0 < es := (hΘ.says ht).2.elim fun i ⟨z, _, _, _, _, _, h⟩ => h
    refine .val (w' := w.alloc (.cells c e)) (v := .slice (some ⟨w.heap.size, 0, none⟩) xs.length len) ?_ (.alloc hI.lt .sh _)
      (RS.newShared hI.lt ?_ h2)
    · rw [h4]
      have : (parts.toList.map fun x => (x.1, a.eval x.2)).toArray = parts.map fun x => (x.1, a.eval x.2) := by apply Array.ext'; simp
      rw [this] at h1
      simp only [execOp, ho, Sem.run_bind, h1, Result.andThen_ok, Sem.run_pure]
    · omega
  | @build T fs zs parts xs ho hx ht hz hp =>
    have hv := hx.sound hI
    rw [List.map_map] at hv
    obtain ⟨F, f1, f2, f3⟩ := hΘ.says ht
    obtain ⟨i, v, h1, h2, h3, h4, h5, h6⟩ := (hΘ T (by simp [TI.known, ht])).info
    have hzero : Rps (sh ρ) w zs v.cells.toList := by
      have := Rp.konst (S := sh ρ) (w := w) _ h6
      rw [← h4, hz] at this
      simpa only [Rp] using this
    have hplaces := fields_run (P := P) (w := w) F.toList f3
    obtain ⟨c, k1, k2⟩ := fill_struct (place := fun j => (F.toList.map fun f => (f.offset, P.cellsOf f.type)).toArray[j]?) (parts.toList.map fun x => (x.1, a.eval x.2)) zs xs v.cells hzero (by rw [List.map_map]; exact hv) (by
      intro ix hix
      rw [List.map_map] at hix
      obtain ⟨Tf, q1, q2, q3, q4⟩ := hp ix hix
      refine ⟨?_, q3, q4⟩
      rw [← f2, List.getElem?_map] at q1
      cases hq : F.toList[ix.1]? with
      | none => rw [hq] at q1; cases q1
      | some fl =>
        rw [hq] at q1
        simp only [Option.map_some, Option.some.injEq, Prod.mk.injEq] at q1
        simp only [TI.fits, Bool.and_eq_true, beq_iff_eq] at q2
        obtain ⟨iT, vT, r1, r2, _⟩ := (hΘ Tf q2.1.1).info
        have hcell : P.cellsOf fl.type = ix.2.size := by rw [q1.1]; simp [Program.cellsOf, r1, r2, ← q2.2]
        simp only [List.getElem?_toArray, List.getElem?_map, hq, Option.map_some, q1.2, hcell])
    refine .pure (v := .agg c) hI ?_ (RS.dat (cs := c.toList) (by simp only [Rp]; rw [List.map_map] at k2; exact k2) (by simp [VC]))
    have hmap : (F.mapM fun f => do pure (f.offset, ← sizeOf f.type) : Sem (Array (Nat × Nat))).run P w = .ok (F.toList.map fun f => (f.offset, P.cellsOf f.type)).toArray w := by
      rw [Array.mapM_eq_mapM_toList, Sem.run_map, hplaces]
      rfl
    have hparts : (parts.map fun x => (x.1, a.eval x.2)).toList = parts.toList.map fun x => (x.1, a.eval x.2) := by simp
    simp only [execOp, ho, Instr.build, Sem.run_bind, zeroValue, typeInfo, run_program, Result.andThen_ok, h1, Sem.run_pure, h3, run_underlying f1, hmap, hparts, k1]
  | @bin op T x y T2 x1 y1 z ho hx hy hb =>
    obtain ⟨q, h1, h2⟩ := hb (sh ρ) w _ _ (hx.sound hI) (hy.sound hI)
    refine .pure (v := q) hI ?_ h2.rv
    simp only [execOp, ho]
    rw [Sem.run_bind, h1]
    rfl
  | @uno op T x x1 z ho hx hb =>
    obtain ⟨q, h1, h2⟩ := hb (sh ρ) w _ (hx.sound hI)
    exact .pure (v := q) hI (by simp only [execOp, ho, Sem.run_bind, h1, Result.andThen_ok, Sem.run_pure]) h2.rv
  | @cv src dst x x1 z ho hx hb =>
    obtain ⟨q, h1, h2⟩ := hb (sh ρ) w _ (hx.sound hI)
    exact .pure (v := q) hI (by simp only [execOp, ho, Sem.run_bind, h1, Result.andThen_ok, Sem.run_pure]) h2.rv
  | @mf f first cap fs cs ho hf hc =>
    refine .pure (v := .func f (first.map a.eval) (cap.map a.eval)) hI (by simp [execOp, ho, Instr.makeFunc]) (RS.dat (cs := [.func f (first.map a.eval) (cap.map a.eval)]) ?_ (by rfl))
    simp only [Rp]
    have e : ∀ x : Array Operand, (x.toList.map a.eval).toArray = x.map a.eval := fun x => by apply Array.ext'; simp
    exact ⟨_, _, by rw [e, e], hf.sound hI, hc.sound hI⟩
  | @ext k i ds ho hk hi hp =>
    have h1 := hI.slot k
    rw [hk] at h1
    obtain ⟨us, h2, h3⟩ := h1
    obtain ⟨v, h4, h5⟩ := h3.nth hi
    refine .pure (v := v) hI ?_ (RV1.plain hp h5).rv
    simp [execOp, ho, eval_tmp, h2, Instr.extract, h4]
  | @lenView k T s p nl e es xs e' es' b ho hk ht =>
    obtain ⟨cells, ⟨_, g2⟩, _⟩ := (hk.sound hI).own hI
    refine .pure (v := .int .i64 xs.length) hI ?_ (RD.ofV rfl).rv
    have hu := (hΘ.says ht).1
    rcases g2 with ⟨g2, g3⟩ | ⟨g, cap, cur, g2, _⟩ <;>
      simp [execOp, ho, resolve, invoke, builtin, Builtin.len_, eval_tmp, g2, run_underlying hu, goInt]
    omega
  | @subView T k lo hi s p nl e es xs e' b i j ho hk ht hl hh h1 h2 =>
    have h3 := hk.sound hI
    obtain ⟨cells, ⟨g1, g2⟩, _⟩ := h3.own hI
    have hlo := hl.sound rfl hI
    have hhi := hh.sound rfl hI
    rcases g2 with ⟨g2, g3⟩ | ⟨g, cap, cur, g2, _, g4, g5, _⟩
    · rw [g2] at h3
      obtain rfl : j = 0 := by omega
      obtain rfl : i = 0 := by omega
      have hr := slice_run (P := P) (w := w) (ad := none) (l := 0) (cap := 0) (i := 0) (j := 0) (f := a.eval) (hΘ.says ht) (by simpa using hlo) (by rw [g3] at hhi; exact hhi) (Nat.le_refl _) (Nat.le_refl _)
      refine .pure (v := .slice none 0 0) hI ?_ ⟨nl, e, es, xs, none, 0, 0, h3, Nat.le_refl _, Nat.zero_le _, none, 0, by simp, fun h => by omega⟩
      simp only [execOp, ho, Option.map_none, Sem.run_bind]
      rw [eval_tmp, g2, hr]
      simp
    · rw [g2] at h3
      have hr := slice_run (P := P) (w := w) (ad := some ⟨g, 0, none⟩) (l := xs.length) (cap := cap) (i := i) (j := j) (f := a.eval) (hΘ.says ht) (by simpa using hlo) (by simpa using hhi) h1 (by omega)
      refine .pure (v := .slice (if cap = i then some ⟨g, 0, none⟩ else (some ⟨g, 0, none⟩ : Option Addr).map (·.add (i * es))) (j - i) (cap - i)) hI ?_ ⟨nl, e, es, xs, _, _, _, h3, h1, h2, _, _, rfl, fun h => ⟨g, rfl, ?_⟩⟩
      · simp only [execOp, ho, Option.map_none, Sem.run_bind]
        rw [eval_tmp, g2, hr]
        simp
      · have : ¬ cap = i := by omega
        simp only [this, if_false, Option.map_some, Addr.add]
        split
        · next h0 => rw [Nat.mul_comm, h0]
        · simp [Nat.mul_comm]
  | @lenSub k T s p i j e' es' b ho hk ht =>
    have h1 := hI.slot k
    rw [hk] at h1
    obtain ⟨nl, e, es, xs, ad, l, c, _, _, _, a', c', h2, _⟩ := h1
    refine .pure (v := .int .i64 ((j - i : Nat) : Int)) hI ?_ (RD.ofV rfl).rv
    have hu := (hΘ.says ht).1
    simp [execOp, ho, resolve, invoke, builtin, Builtin.len_, eval_tmp, h2, run_underlying hu, goInt]
  | @iaSub T k ix s p i j nl e es xs ik m e' b ho hk hs hp hix h0 hi ht =>
    have h1 := hI.slot k
    rw [hk] at h1
    obtain ⟨nl', e0, es', xs', ad, l, c, k1, k2, k3, a', c', k4, k5⟩ := h1
    have hv := (hix.sound hI).v
    obtain ⟨g, rfl, rfl⟩ := k5 (by omega)
    rcases k1 with ⟨q1, q2, q3⟩ | ⟨x, b', q1, _⟩
    · rw [hs] at q1
      cases q1
      have hlt : m < ((j - i : Nat) : Int) := by omega
      refine .pure (v := .pointer (some ⟨g, es * i + es * m.toNat, none⟩)) hI (by simp [execOp, ho, eval_tmp, k4, hv, indexAt_slice_run (hΘ.says ht) h0 hlt]) ⟨nl, e, es, xs, g, l, c, .inl ⟨hs, hp, q3⟩, by omega, by simp [D.okp], by simp [D.off, Nat.mul_add]⟩
    · rw [hs] at q1; cases q1
  | @mk T l c e es b kl kc m z ho hl hc ht hk hz h0 hb hm =>
    have hu := hΘ.says ht
    obtain ⟨hu, i, z', h1, h2, h3, h4, h5, h6⟩ := hu
    obtain ⟨i', v', q1, q2, q3, q4, q5, q6⟩ := (hΘ e hk).info
    rw [h1] at q1; cases q1
    rw [h4] at q3; cases q3
    rw [hz] at q4 q5 q6
    have hm' : m ≤ 9223372036854775807 := by unfold maxLen at hm; omega
    have hb' : (i.bytes : Int) * m ≤ 281474976710656 := by
      have : ((i.bytes * m.toNat : Nat) : Int) ≤ 281474976710656 := by rw [h3, Nat.mul_comm]; omega
      rwa [Int.natCast_mul, Int.toNat_of_nonneg h0] at this
    have hr := run_make (P := P) w T e i z' hu h1 h4 kl kc m m h0 (Int.le_refl _) hb' hm'
    rw [h2, ← h5] at hr
    have hcells := made_list z'.cells (by omega) m.toNat
    have hlen : (madeCells z'.cells (m.toNat * z'.cells.size)).toList.take ((List.replicate m.toNat z).length * es) = (List.replicate m.toNat z'.cells.toList).flatten := by
      rw [List.length_replicate, ← h5, hcells, List.take_of_length_le]
      simp
    refine .val (w' := w.alloc (.cells (madeCells z'.cells (m.toNat * z'.cells.size)) e)) (v := .slice (some ⟨w.heap.size, 0, none⟩) m.toNat m.toNat) ?_ (.alloc hI.lt (.sl t []) _) ?_
    · simp only [execOp, ho, (hl.sound hI).v, (hc.sound hI).v, Sem.run_bind, hr, Result.andThen_ok, Sem.run_pure]
    · have := RS.newOwn (E := E) (t := t) (tmps := a.tmps) (xs := List.replicate m.toNat z) (cs := madeCells z'.cells (m.toNat * z'.cells.size)) (e := e) (es := es) (cap := m.toNat) hI.lt (by simp) hm (by rw [size_madeCells, h5])
        (by rw [hlen, q4]; exact Rpa.replicate (Rp.konst z q6) (by rw [← q4]; simpa using h5) _) (by rw [hlen]; simp [h5])
      simpa using this
  | @plain z xs hx hz =>
    obtain ⟨q, h1, h2⟩ := hz (sh ρ) w a.eval (fun _ => rfl) (fun x hx' => (hx x hx').1.sound hI)
    exact .pure (v := q) hI h1 h2.rv
  | @appNil x T e es b es' ys s ho hs hx ht hb hm =>
    obtain ⟨c0, s1, s2⟩ := hs.sound hI
    simp only [Rp] at s1
    obtain ⟨ad0, l0, cap0, rfl, s3, _⟩ := s1
    simp only [VC] at s2
    simp only [Hdr] at s3
    obtain ⟨rfl, rfl, rfl, _⟩ := s3
    have he : a.eval s = .slice none 0 0 := by simpa using s2.symm
    obtain ⟨ad, c, news, h1, h2, h3, h4⟩ := hx.sound hI
    obtain ⟨hu, i, z, i1, i2, i3, i4, i5, i6⟩ := hΘ.says ht
    by_cases hy : ys = []
    · subst hy
      have hr : (Builtin.append_ #[T, T] o.type #[.slice none 0 0, .slice ad 0 c]).run P w = .ok (.slice none 0 0) w := by
        cases ad <;> simp [Builtin.append_, run_underlying hu, sizeOf, typeInfo, i1, Builtin.lenOf, Builtin.firstCells, loadCells, loadCellsFrom]
      refine .pure (v := .slice none 0 0) hI ?_ ⟨[.slice none 0 0], ?_, rfl⟩
      · simp only [execOp, ho, resolve, invoke, builtin, Sem.run_bind, Sem.run_pure, Result.andThen_ok, List.map_toArray, List.map_cons, List.map_nil, he, h1, List.length_nil, hr]
      · simp only [RB]
        exact ⟨_, rfl, [], World.ownsRow_nil w 0 e es, by simp [Rpa], by simp, by simp [Value.ownBlock]⟩
    · obtain ⟨b', o', rfl, hmem⟩ := h4.resolve_left hy
      have hlen : 0 < ys.length := by cases ys <;> simp_all
      have hm' : (ys.length : Int) ≤ 9223372036854775807 := by unfold maxLen at hm; omega
      have hr := run_append_nil (P := P) w T o.type e i z hu i1 i4 ⟨b', o', none⟩ ys.length c news (by rw [i2]; exact h2) (Mem.at hmem) hlen hm' (by rw [i3]; omega)
      have hge := grownCap_ge w ys.length 0 e
      have hcm := grownCap_le_maxLen w ys.length 0 e hm
      have hsz : (news.toArray ++ Builtin.zeroCells z.cells (grownCap w ys.length 0 e - ys.length)).size = grownCap w ys.length 0 e * es := by
        simp only [Array.size_append, List.size_toArray, size_zeroCells, i5, h2, ← Nat.add_mul]
        congr 1
        omega
      have htk : (news.toArray ++ Builtin.zeroCells z.cells (grownCap w ys.length 0 e - ys.length)).toList.take (ys.length * es) = news := by
        simp only [Array.toList_append, ← h2, List.take_left']
      have hnl : ys.isEmpty = false := by cases ys <;> simp_all
      rw [hnl]
      refine .val (w' := w.drew.alloc (.cells (news.toArray ++ Builtin.zeroCells z.cells (grownCap w ys.length 0 e - ys.length)) e)) (v := .slice (some ⟨w.heap.size, 0, none⟩) ys.length (grownCap w ys.length 0 e)) ?_ ?_
        (RS.newOwn (w := w.drew) (cs := news.toArray ++ Builtin.zeroCells z.cells (grownCap w ys.length 0 e - ys.length)) hI.lt hge hcm hsz (by rw [htk]; exact Rpa.mono (w := w) (w' := w.drew) (fun b hb => ⟨hb, rfl⟩) ys h3) (by rw [htk]; exact h2))
      · simp only [execOp, ho, resolve, invoke, builtin, Sem.run_bind, Sem.run_pure, Result.andThen_ok, List.map_toArray, List.map_cons, List.map_nil, he, h1, hr]
      · exact (Grow.refl hI.lt).drew.trans (Grow.alloc (w := w.drew) hI.lt (.sl t []) _)
  | @callB fo args ts f fs cs ds r ho hf ha hc hd hr =>
    obtain ⟨c1, h1, h2⟩ := hf.sound hI
    simp only [Rp] at h1
    obtain ⟨us, ts', rfl, h3, h4⟩ := h1
    simp only [VC] at h2
    have hS : ∀ b, sh ρ b → b < w.heap.size ∧ w.heap[b]? = w.heap[b]? := fun b hb => ⟨hI.lt b (by simp only [sh] at hb; simp [hb]), rfl⟩
    have he : a.eval fo = .func (.func f) us.toArray ts'.toArray := by simpa using h2.symm
    intro Q K hK
    unfold Oper.wp
    rw [callValue_run ho he hc]
    have hargs : us.toArray ++ args.map a.eval ++ ts'.toArray = (us ++ args.toList.map a.eval ++ ts').toArray := by apply Array.ext'; simp
    rw [hargs]
    refine (hd (fun b => b < w.heap.size) w (us ++ args.toList.map a.eval ++ ts') (fun b hb => hb) (hI.tab.mono hS) (Rpv.app (Rpv.app (Rpv.mono hS _ h3) (ha.sound hI)) (Rpv.mono hS _ h4))).mono ?_
    rintro e w' ⟨v, ρ', rfl, g, hr'⟩
    let ρ2 : Nat → Tag := fun b => if b < w.heap.size then ρ b else .other
    have g2 : Grow ρ w ρ2 w' := by
      refine ⟨fun b hb => ?_, fun b hb => ⟨?_, (g.old b hb).2⟩, fun b hb => ?_, g.os, g.tape, g.output, g.size⟩
      · have := hI.lt b hb; simp [ρ2, this]
      · simp [ρ2, hb]
      · simp only [ρ2] at hb
        split at hb
        · next h => exact Nat.lt_of_lt_of_le h g.size
        · exact absurd rfl hb
    exact hK v ρ2 w' g2 (RV.flatv hr hr')
  | @call fo args ts f fs cs ds r ho hf ha hc hd =>
    obtain ⟨c1, h1, h2⟩ := hf.sound hI
    simp only [Rp] at h1
    obtain ⟨us, ts', rfl, h3, h4⟩ := h1
    simp only [VC] at h2
    have he : a.eval fo = .func (.func f) us.toArray ts'.toArray := by simpa using h2.symm
    intro Q K hK
    unfold Oper.wp
    rw [callValue_run ho he hc]
    have hargs : us.toArray ++ args.map a.eval ++ ts'.toArray = (us ++ args.toList.map a.eval ++ ts').toArray := by apply Array.ext'; simp
    rw [hargs]
    refine (hd (sh ρ) w (us ++ args.toList.map a.eval ++ ts') (fun b hb => hI.lt b (by simp [sh] at hb; simp [hb])) hI.tab (Rpv.app (Rpv.app h3 (ha.sound hI)) h4)).mono ?_
    rintro e w' ⟨v, ρ', rfl, g, hr⟩
    -- the tags of what is new, for this slot
    let ρ2 : Nat → Tag := fun b => if b < w.heap.size then ρ b else match ρ' b with | .sl 0 p => .sl t p | .sh => .sh | _ => .other
    have g2 : Grow ρ w ρ2 w' := by
      refine ⟨fun b hb => ?_, fun b hb => ⟨?_, (g.old b hb).2⟩, fun b hb => ?_, g.os, g.tape, g.output, g.size⟩
      · have := hI.lt b hb; simp [ρ2, this]
      · simp [ρ2, hb]
      · simp only [ρ2] at hb
        split at hb
        · next h => exact Nat.lt_of_lt_of_le h g.size
        · refine g.lt b fun h => ?_
          rw [h] at hb
          exact hb rfl
    refine hK v ρ2 w' g2 (RV.mono (fun b hb => ⟨?_, rfl⟩) (fun b r hb => ⟨?_, rfl⟩) hr)
    · simp only [ρ2]
      split
      · next h =>
        have := (g.old b h).1
        rw [hb] at this
        refine Classical.byContradiction fun hne => ?_
        simp [tagS, sh, hne] at this
      · rw [hb]
    · simp only [ρ2]
      split
      · next h =>
        have := (g.old b h).1
        rw [hb] at this
        simp only [tagS] at this
        split at this <;> cases this
      · simp [hb]
  | @wmv k x ho hk =>
    have h1 := hI.slot k
    rw [hk] at h1
    refine .pure (v := a.eval (.tmp k)) hI (by rcases ho with ho | ho <;> simp [execOp, ho]) h1
  | @wplain z xs hx hz =>
    obtain ⟨q, h1, h2⟩ := hz (All w) w a.eval (fun _ => rfl) (fun x hx' => (hx x hx').1.sound hI)
    exact .pure (v := q) hI h1 h2.wv
  | @wplainF z xs hx hz hf =>
    obtain ⟨q, h1, h2⟩ := hz (All w) w a.eval (fun _ => rfl) (fun x hx' => (hx x hx').1.sound hI)
    exact .pure (v := q) hI h1 (h2.flat hf).rv
  | @wmf f first cap fs cs ho hf hc =>
    refine .pure (v := .func f (first.map a.eval) (cap.map a.eval)) hI (by simp [execOp, ho, Instr.makeFunc]) ⟨[.func f (first.map a.eval) (cap.map a.eval)], ?_, by rfl⟩
    simp only [Rp]
    have e : ∀ x : Array Operand, (x.toList.map a.eval).toArray = x.map a.eval := fun x => by apply Array.ext'; simp
    exact ⟨_, _, by rw [e, e], hf.sound hI, hc.sound hI⟩
  | @wext k i ds ho hk hi =>
    have h1 := hI.slot k
    rw [hk] at h1
    obtain ⟨us, h2, h3⟩ := h1
    obtain ⟨v, h4, h5⟩ := h3.nth hi
    exact .pure (v := v) hI (by simp [execOp, ho, eval_tmp, h2, Instr.extract, h4]) h5.wv
  | @wextF k i ds ho hk hi hf =>
    have h1 := hI.slot k
    rw [hk] at h1
    obtain ⟨us, h2, h3⟩ := h1
    obtain ⟨v, h4, h5⟩ := h3.nth hi
    exact .pure (v := v) hI (by simp [execOp, ho, eval_tmp, h2, Instr.extract, h4]) (h5.flat hf).rv
  | @wcall fo args ts f fs cs ds r ho hf ha hc hd hr =>
    obtain ⟨c1, h1, h2⟩ := hf.sound hI
    simp only [Rp] at h1
    obtain ⟨us, ts', rfl, h3, h4⟩ := h1
    simp only [VC] at h2
    have he : a.eval fo = .func (.func f) us.toArray ts'.toArray := by simpa using h2.symm
    intro Q K hK
    unfold Oper.wp
    rw [callValue_run ho he hc]
    have hargs : us.toArray ++ args.map a.eval ++ ts'.toArray = (us ++ args.toList.map a.eval ++ ts').toArray := by apply Array.ext'; simp
    rw [hargs]
    refine (hd (All w) w (us ++ args.toList.map a.eval ++ ts') (fun b hb => hb) (hI.tab.mono hI.all) (Rpv.app (Rpv.app h3 (ha.sound hI)) h4)).mono ?_
    rintro e w' ⟨v, ρ', rfl, g, hr'⟩
    let ρ2 : Nat → Tag := fun b => if b < w.heap.size then ρ b else match ρ' b with | .sl 0 p => .sl t p | _ => .other
    have hold : ∀ b, b < w.heap.size → ρ' b = .sh := fun b hb => by rw [(g.old b hb).1]; simp [tagS, All, hb]
    have g2 : Grow ρ w ρ2 w' := by
      refine ⟨fun b hb => ?_, fun b hb => ⟨?_, (g.old b hb).2⟩, fun b hb => ?_, g.os, g.tape, g.output, g.size⟩
      · have := hI.lt b hb; simp [ρ2, this]
      · simp [ρ2, hb]
      · simp only [ρ2] at hb
        split at hb
        · next h => exact Nat.lt_of_lt_of_le h g.size
        · refine g.lt b fun h => ?_
          rw [h] at hb
          exact hb rfl
    refine hK v ρ2 w' g2 ?_
    cases r with
    | own nl e es xs =>
      obtain ⟨cells, k1, k2, k3, k4⟩ := RV.own hr'
      have k2' : Rpa (sh ρ2) w' es xs cells := Rp.flatv.row xs (by simpa [D.fl] using hr) k2
      refine ⟨[v], ?_, rfl⟩
      simp only [RB]
      refine ⟨v, rfl, cells, k1, k2', k3, fun b hb => ?_⟩
      have h5 := k4 b hb
      have h6 : ¬ b < w.heap.size := fun h => by rw [hold b h] at h5; cases h5
      simp [ρ2, h6, h5]
    | _ => exact RV.flatv hr hr'
  | @wcallW fo args ts f fs cs ds r ho hf ha hc hd hr =>
    obtain ⟨c1, h1, h2⟩ := hf.sound hI
    simp only [Rp] at h1
    obtain ⟨us, ts', rfl, h3, h4⟩ := h1
    simp only [VC] at h2
    have he : a.eval fo = .func (.func f) us.toArray ts'.toArray := by simpa using h2.symm
    intro Q K hK
    unfold Oper.wp
    rw [callValue_run ho he hc]
    have hargs : us.toArray ++ args.map a.eval ++ ts'.toArray = (us ++ args.toList.map a.eval ++ ts').toArray := by apply Array.ext'; simp
    rw [hargs]
    refine (hd (All w) w (us ++ args.toList.map a.eval ++ ts') (fun b hb => hb) (hI.tab.mono hI.all) (Rpv.app (Rpv.app h3 (ha.sound hI)) h4)).mono ?_
    rintro e w' ⟨v, ρ', rfl, g, hr'⟩
    let ρ2 : Nat → Tag := fun b => if b < w.heap.size then ρ b else .other
    have g2 : Grow ρ w ρ2 w' := by
      refine ⟨fun b hb => ?_, fun b hb => ⟨?_, (g.old b hb).2⟩, fun b hb => ?_, g.os, g.tape, g.output, g.size⟩
      · have := hI.lt b hb; simp [ρ2, this]
      · simp [ρ2, hb]
      · simp only [ρ2] at hb
        split at hb
        · next h => exact Nat.lt_of_lt_of_le h g.size
        · exact absurd rfl hb
    exact hK v ρ2 w' g2 (RV.wv hr (fun b hb => g.lt b (by simp [hb])) hr')
end

end Go.Dat
