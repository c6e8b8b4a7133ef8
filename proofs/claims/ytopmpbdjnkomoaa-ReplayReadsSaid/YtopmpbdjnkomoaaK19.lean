/- How a derivation is written: operation by operation, over a list of slots. No conditions. -/
import Derived.Test.YtopmpbdjnkomoaaK18
namespace Go.Dat

variable [Tables]

variable {P : Program} {Θ : TypeId → TI} {n : Nat} {E E' : Nat → Slot} {R : (Nat → Slot) → Prop} {ops : Array Oper} {ld : List Nat} {i : Nat} {os : List Oper} {k : List Item} {l : Env}

omit [Tables] in
theorem upd_lk {l : Env} {d : Nat} {s : Slot} : upd (lk l) d s = lk ((d, s) :: l) := rfl

/-- The operations from number i on, and then k. -/
def OpsAt (P : Program) (Θ : TypeId → TI) (n : Nat) (R : (Nat → Slot) → Prop) (ops : Array Oper) (ld : List Nat) (i : Nat) (os : List Oper) (k : List Item) (E : Nat → Slot) : Prop :=
  (∀ j, os[j]? = ops[i + j]?) → (∀ j, i ≤ j → ops.size + j ∉ ld) → ∃ E1, Chain P Θ n ops ld (List.range' i os.length) E E1 ∧ Run P Θ n R k E1

theorem Run.ops0 {id : Nat} (h : OpsAt P Θ n R ops (List.range ops.size) 0 ops.toList k E) : Run P Θ n R (.code (.region id ops false) :: k) E := by
  obtain ⟨E1, h1, h2⟩ := h (fun j => by simp) (fun j _ => by simp)
  refine .region (loud := List.range ops.size) ?_ (fun h => by cases h) h2
  rw [List.range_eq_range']
  simpa [List.range_eq_range'] using h1

theorem Run.ops1 {id : Nat} (hok : (orderOk ops ld && ld.all fun x => decide (x < ops.size)) = true) (h : OpsAt P Θ n R ops ld 0 ops.toList k E) : Run P Θ n R (.code (.region id ops true) :: k) E := by
  simp only [Bool.and_eq_true, List.all_eq_true, decide_eq_true_eq] at hok
  obtain ⟨E1, h1, h2⟩ := h (fun j => by simp) (fun j _ hj => by have := hok.2 _ hj; omega)
  refine .region (loud := ld) ?_ (fun _ => hok.1) h2
  rw [List.range_eq_range']
  simpa using h1

/-- A region whose first operation moves a scalar that is asked for later. -/
theorem Run.ops1S {id : Nat} {o : Oper} {os : List Oper} {d q : Nat} {c : Value} {l : Env} (hops : ops.toList = o :: os) (hok : (orderOk ops (ops.size :: ld) && ld.all fun x => decide (x < ops.size)) = true) (hd : o.dst = some d) (ho : o.op = .move (.tmp q)) (hg : o.guard = none)
    (hE : lk l q = .d (.v c)) (hq : (decide (d < n) && (q != d) && !owner (lk l d) && c.oneCell') = true)
    (h : OpsAt P Θ n R ops (ops.size :: ld) 1 os k (lk ((d, .d (.v c)) :: l))) : Run P Θ n R (.code (.region id ops true) :: k) (lk l) := by
  simp only [Bool.and_eq_true, List.all_eq_true, decide_eq_true_eq, bne_iff_ne, ne_eq, Bool.not_eq_true'] at hok hq
  obtain ⟨⟨⟨q1, q2⟩, q3⟩, q4⟩ := hq
  have hj : ∀ j, ops[j]? = (o :: os)[j]? := fun j => by rw [← hops, Array.getElem?_toList]
  obtain ⟨E1, h1, h2⟩ := h (fun j => by rw [hj, Nat.add_comm, List.getElem?_cons_succ]) (fun j h1j hm => by
    rcases List.mem_cons.1 hm with h | h
    · omega
    · have := hok.2 _ h; omega)
  refine .region (loud := ops.size :: ld) ?_ (fun _ => hok.1) h2
  have hlen : ops.size = os.length + 1 := by rw [← Array.length_toList, hops]; simp
  rw [List.range_eq_range', hlen, List.range'_succ]
  exact .cons (b := false) (by rw [hj]; rfl) (by simp) (fun _ => ⟨d, q, c, hd, ho, hg, hE, q2, q4, rfl⟩) (.quiet (by unfold Wants; rw [hg]) hd q1 q3 (.mv (.inl ho) (.tmp hE rfl))) (by rw [upd_lk]; simpa [hlen] using h1)

theorem OpsAt.nil (h : Run P Θ n R k E) : OpsAt P Θ n R ops ld i [] k E := fun _ _ => ⟨E, .nil, h⟩

theorem OpsAt.cons {o : Oper} {b : Bool} (hb : b = true → i ∈ ld) (h1 : Step1 P Θ n ops E o b E') (h : OpsAt P Θ n R ops ld (i + 1) os k E') : OpsAt P Θ n R ops ld i (o :: os) k E := by
  intro hj hns
  obtain ⟨E1, g1, g2⟩ := h (fun j => by have := hj (j + 1); simpa [Nat.add_assoc, Nat.add_comm 1 j] using this) (fun j hij => hns j (by omega))
  refine ⟨E1, ?_, g2⟩
  rw [List.length_cons, List.range'_succ]
  exact .cons (by have := hj 0; simpa using this.symm) hb (fun h => absurd h (hns i (Nat.le_refl _))) h1 g1

omit [Tables] in
theorem Wants.none {o : Oper} (h : o.guard = none) : Wants ops E o true := by unfold Wants; rw [h]

variable {d : Nat} {op : Op} {ty : TypeId} {pos : String} {af : Array Edge}

/-- A quiet operation. -/
theorem OpsAt.ev {s : Slot} (h : Ev P Θ (lk l) ⟨some d, op, ty, pos, af, none⟩ s) (hd : (decide (d < n) && !owner (lk l d)) = true)
    (next : OpsAt P Θ n R ops ld (i + 1) os k (lk ((d, s) :: l))) : OpsAt P Θ n R ops ld i (⟨some d, op, ty, pos, af, none⟩ :: os) k (lk l) := by
  simp only [Bool.and_eq_true, decide_eq_true_eq, Bool.not_eq_true'] at hd
  exact .cons (b := false) (by simp) (.quiet (.none rfl) rfl hd.1 hd.2 h) next

theorem OpsAt.q {s : Slot} {c : Prop} (h : evq Θ (lk l) ⟨some d, op, ty, pos, af, none⟩ = some (s, c)) (hd : (decide (d < n) && !owner (lk l d)) = true) (hc : c)
    (next : OpsAt P Θ n R ops ld (i + 1) os k (lk ((d, s) :: l))) : OpsAt P Θ n R ops ld i (⟨some d, op, ty, pos, af, none⟩ :: os) k (lk l) :=
  .ev (evq_sound h hc) hd next

/-- The same behind a guard. -/
def guardOf (ops : Array Oper) (E : Nat → Slot) (j : Nat) (want : Bool) : Option Bool :=
  match (ops[j]?).bind (·.dst) with
  | some d => match E d with
    | .d (.v (.bool c)) => some (c == want)
    | .no => some false
    | _ => none
  | none => none

omit [Tables] in
theorem guardOf_sound {j : Nat} {want b : Bool} {o : Oper} (hg : o.guard = some (j, want)) (h : guardOf ops E j want = some b) : Wants ops E o b := by
  unfold Wants
  rw [hg]
  unfold guardOf at h
  split at h
  · next d hd =>
    rw [Option.bind_eq_some_iff] at hd
    obtain ⟨oj, h1, h2⟩ := hd
    split at h
    · next c hE => cases h; exact ⟨oj, d, h1, h2, .inl ⟨c, hE, rfl⟩⟩
    · next hE => cases h; exact ⟨oj, d, h1, h2, .inr ⟨hE, rfl⟩⟩
    · cases h
  · cases h

theorem OpsAt.evg {s : Slot} {j : Nat} {want : Bool} (hg : guardOf ops (lk l) j want = some true) (h : Ev P Θ (lk l) ⟨some d, op, ty, pos, af, some (j, want)⟩ s) (hd : (decide (d < n) && !owner (lk l d)) = true)
    (next : OpsAt P Θ n R ops ld (i + 1) os k (lk ((d, s) :: l))) : OpsAt P Θ n R ops ld i (⟨some d, op, ty, pos, af, some (j, want)⟩ :: os) k (lk l) := by
  simp only [Bool.and_eq_true, decide_eq_true_eq, Bool.not_eq_true'] at hd
  exact .cons (b := false) (by simp) (.quiet (guardOf_sound rfl hg) rfl hd.1 hd.2 h) next

theorem OpsAt.qg {s : Slot} {c : Prop} {j : Nat} {want : Bool} (hg : guardOf ops (lk l) j want = some true) (h : evq Θ (lk l) ⟨some d, op, ty, pos, af, some (j, want)⟩ = some (s, c)) (hd : (decide (d < n) && !owner (lk l d)) = true) (hc : c)
    (next : OpsAt P Θ n R ops ld (i + 1) os k (lk ((d, s) :: l))) : OpsAt P Θ n R ops ld i (⟨some d, op, ty, pos, af, some (j, want)⟩ :: os) k (lk l) :=
  .evg hg (evq_sound h hc) hd next

theorem OpsAt.sk {j : Nat} {want : Bool} (hg : guardOf ops (lk l) j want = some false) (hd : (decide (d < n) && !owner (lk l d)) = true)
    (next : OpsAt P Θ n R ops ld (i + 1) os k (lk ((d, .no) :: l))) : OpsAt P Θ n R ops ld i (⟨some d, op, ty, pos, af, some (j, want)⟩ :: os) k (lk l) := by
  simp only [Bool.and_eq_true, decide_eq_true_eq, Bool.not_eq_true'] at hd
  exact .cons (b := false) (by simp) (.skip (guardOf_sound rfl hg) rfl hd.1 hd.2) next

/-! ### Scalars, lengths, calls -/

def notBool : D → Bool
  | .v (.bool _) => false
  | _ => true

theorem Ev.binI {o : Oper} {bop : BinOp} {T T2 : TypeId} {x y : Operand} {a b z : D} {c1 c2 c3 : Prop} (ho : o.op = .binOp bop T x y T2) (h1 : opOf E x = some (a, c1)) (h2 : opOf E y = some (b, c2))
    (h3 : binOf bop a b = some (z, c3)) (hn : notBool a = true) (h : c1 ∧ c2 ∧ c3) : Ev P Θ E o (.d z) := by
  refine .bin ho (opOf_sound h1 h.1) (opOf_sound h2 h.2.1) (binOf_sound (fun _ => .inr fun p q => .inl ?_) h3 h.2.2)
  rintro rfl
  cases hn

omit [Tables] in
theorem ExD_len {o : Oper} {x : Operand} {T : TypeId} {sk : SK} {es e es' b : Nat} {xs : List D} (hΘ : Agree P Θ) (ho : o.op = .call { callee := .builtin .len, args := #[x], argTypes := #[T] }) (ht : (Θ T).td = .sl e es' b) :
    ExD P o [(x, .lst sk es xs)] (.v (.int .i64 xs.length)) := by
  intro S w ev _ h
  obtain ⟨cs, h1, h2⟩ := h (x, .lst sk es xs) (by simp)
  simp only [Rp] at h1
  obtain ⟨a, l, c, rfl, h3, _⟩ := h1
  simp only [VC] at h2
  have he : ev x = .slice a l c := by simpa using h2.symm
  have hl : l = xs.length := by cases sk <;> simp_all [Hdr]
  refine ⟨.int .i64 xs.length, ?_, RD.ofV rfl⟩
  simp [execOp, ho, resolve, invoke, builtin, Builtin.len_, he, run_underlying (hΘ.says ht).1, goInt, hl]

theorem Ev.len {o : Oper} {x : Operand} {T : TypeId} {sk : SK} {es e es' b : Nat} {xs : List D} {c : Prop} (hΘ : Agree P Θ) (ho : o.op = .call { callee := .builtin .len, args := #[x], argTypes := #[T] }) (h : opOf E x = some (.lst sk es xs, c))
    (ht : (Θ T).td = .sl e es' b) (hc : c) : Ev P Θ E o (.d (.v (.int .i64 xs.length))) :=
  .plain (xs := [(x, .lst sk es xs)]) (fun y hy => by
    simp only [List.mem_singleton] at hy
    subst hy
    exact ⟨opOf_sound h hc, by simp [ho, Op.operands, Call.operands]⟩) (ExD_len hΘ ho ht)

theorem Ev.lenV {o : Oper} {q : Nat} {T : TypeId} {s p nl e es xs e' es' b} (ho : o.op = .call { callee := .builtin .len, args := #[.tmp q], argTypes := #[T] }) (h : vwOf E q = some (s, p, nl, e, es, xs))
    (ht : (Θ T).td = .sl e' es' b) : Ev P Θ E o (.d (.v (.int .i64 xs.length))) := .lenView ho (vwOf_sound h) ht

theorem Ev.calls {o : Oper} {fo : Operand} {args : Array Operand} {ts : Array TypeId} {f : FuncId} {fs cs ds : List D} {r : D} {c1 c2 : Prop} (ho : o.op = .call { callee := .value fo, args := args, argTypes := ts })
    (h1 : opOf E fo = some (.fn (.func f) fs cs, c1)) (h2 : opsOf E args.toList = some (ds, c2)) (hc : c1 ∧ c2) (hf : Callable P f) (hd : DFun P f (fs ++ ds ++ cs) r) : Ev P Θ E o (.d r) :=
  .call ho (opOf_sound h1 hc.1) (opsOf_sound h2 hc.2) hf hd

/-! ### What changes -/

omit [Tables] in
theorem kill_lk {f : Slot → Bool} : kill f (lk l) = lk (l.map fun (u, s) => (u, if f s || isWk s then .un else s)) := by
  funext u
  unfold kill
  induction l with
  | nil => show (if (f Slot.un || isWk Slot.un) = true then Slot.un else Slot.un) = Slot.un; cases f Slot.un <;> rfl
  | cons x l ih =>
    obtain ⟨v, s⟩ := x
    simp only [List.map_cons, lk]
    by_cases h : v = u
    · simp [h]
    · simp only [h, if_false]; exact ih

def killL (f : Slot → Bool) (l : Env) : Env := l.map fun (u, s) => (u, if f s || isWk s then .un else s)

theorem OpsAt.loud {o : Oper} {l' : Env} (h : OpStep P Θ n (lk l) o (lk l')) (hg : o.guard = none) (hi : ld.contains i = true) (next : OpsAt P Θ n R ops ld (i + 1) os k (lk l')) :
    OpsAt P Θ n R ops ld i (o :: os) k (lk l) :=
  .cons (b := true) (fun _ => by simpa using hi) (.go (.none hg) h) next

/-- An own slice is assigned. -/
theorem OpsAt.asg {q : Nat} {nl e es xs} (hE : lk l q = .d (.own nl e es xs)) (hd : (decide (d < n) && (q != d)) = true) (hi : ld.contains i = true)
    (next : OpsAt P Θ n R ops ld (i + 1) os k (lk ((d, .d (.own nl e es xs)) :: (q, .view d []) :: killL (fun s => refersTo d s || refersTo q s) l))) :
    OpsAt P Θ n R ops ld i (⟨some d, .assign (.tmp q), ty, pos, af, none⟩ :: os) k (lk l) := by
  simp only [Bool.and_eq_true, decide_eq_true_eq, bne_iff_ne, ne_eq] at hd
  refine .loud ?_ rfl hi next
  have := OpStep.asg (P := P) (Θ := Θ) (n := n) (o := ⟨some d, .assign (.tmp q), ty, pos, af, none⟩) rfl hd.1 rfl hd.2 hE
  have he : free d (free q (lk l)) = lk (killL (fun s => refersTo d s || refersTo q s) l) := by
    unfold free killL
    rw [kill_lk, kill_lk]
    congr 1
    simp only [List.map_map]
    apply List.map_congr_left
    rintro ⟨u, s⟩ _
    simp only [Function.comp]
    cases h1 : refersTo q s <;> cases h2 : refersTo d s <;> cases h3 : isWk s <;> simp [h2, h3, show isWk .un = false from rfl, show ∀ t, refersTo t .un = false from fun _ => rfl]
  rw [he] at this
  exact this

/-- An append to an own slice. -/
theorem OpsAt.app {q s : Nat} {x : Operand} {T : TypeId} {nl e es xs ys b} (hv : vwOf (lk l) q = some (s, [], nl, e, es, xs)) (hs : lk l s = .d (.own nl e es xs)) (hx : Src (lk l) x es ys) (ht : (Θ T).td = .sl e es b)
    (hd : (decide (d < n) && !owner (lk l d) && (d != s)) = true) (hb : (xs.length + ys.length) * b ≤ 140737488355328) (hm : xs.length + ys.length ≤ maxLen) (hi : ld.contains i = true)
    (next : OpsAt P Θ n R ops ld (i + 1) os k (lk ((d, .d (.own (nl && ys.isEmpty) e es (xs ++ ys))) :: (s, .un) :: killL (refersTo s) l))) :
    OpsAt P Θ n R ops ld i (⟨some d, .call { callee := .builtin .append, args := #[.tmp q, x], argTypes := #[T, T] }, ty, pos, af, none⟩ :: os) k (lk l) := by
  simp only [Bool.and_eq_true, decide_eq_true_eq, Bool.not_eq_true', bne_iff_ne, ne_eq] at hd
  refine .loud ?_ rfl hi next
  have hq : q = s ∨ lk l q = .view s [] := by
    rcases vwOf_sound hv with ⟨h, _⟩ | ⟨_, h, _⟩
    · exact .inr h
    · exact .inl h
  have := OpStep.app (P := P) (Θ := Θ) (n := n) (o := ⟨some d, .call { callee := .builtin .append, args := #[.tmp q, x], argTypes := #[T, T] }, ty, pos, af, none⟩) rfl hd.1.1 hd.1.2 hd.2 rfl hs hq hx ht hb hm
  unfold free at this
  rw [kill_lk] at this
  exact this

/-- A store into a box. -/
theorem OpsAt.sto {q s : Nat} {p : List Nat} {X y : D} {x : Operand} {T : TypeId} {c : Prop} (ha : adrOf (lk l) q = some (s, p, X)) (hx : opOf (lk l) x = some (y, c)) (hc : c)
    (hf : ((Θ T).fits y && (y.size == (X.get p).size) && (X.get p).noOwn) = true) (hi : ld.contains i = true)
    (next : OpsAt P Θ n R ops ld (i + 1) os k (lk ((s, .box (X.set p y)) :: killL (below s p) l))) :
    OpsAt P Θ n R ops ld i (⟨none, .store T (.tmp q) x, ty, pos, af, none⟩ :: os) k (lk l) := by
  simp only [Bool.and_eq_true, beq_iff_eq] at hf
  refine .loud ?_ rfl hi next
  have := OpStep.sto (P := P) (Θ := Θ) (n := n) (o := ⟨none, .store T (.tmp q) x, ty, pos, af, none⟩) rfl rfl (adrOf_sound ha) (opOf_sound hx hc) hf.1.1 hf.1.2 hf.2
  rw [kill_lk] at this
  exact this

/-- A store into an element of an own slice. -/
theorem OpsAt.elt {q s j : Nat} {r : List Nat} {y : D} {x : Operand} {T : TypeId} {nl e es xs} {c : Prop} (ha : lk l q = .elt s [] j r) (hs : lk l s = .d (.own nl e es xs)) (hx : opOf (lk l) x = some (y, c)) (hc : c)
    (hf : (Θ T).fits y = true) (hsz : y.size = ((xs.getD j un).get r).size) (hi : ld.contains i = true)
    (next : OpsAt P Θ n R ops ld (i + 1) os k (lk ((s, .d (.own nl e es (xs.set j ((xs.getD j un).set r y)))) :: killL (belowE s j r) l))) :
    OpsAt P Θ n R ops ld i (⟨none, .store T (.tmp q) x, ty, pos, af, none⟩ :: os) k (lk l) := by
  refine .loud ?_ rfl hi next
  have := OpStep.elt (P := P) (Θ := Θ) (n := n) (o := ⟨none, .store T (.tmp q) x, ty, pos, af, none⟩) rfl rfl ha hs (opOf_sound hx hc) hf hsz
  rw [kill_lk] at this
  exact this

/-- An own slice out of several results. -/
theorem OpsAt.ext {q j : Nat} {ds : List D} {nl e es xs} (hE : lk l q = .d (.tup ds)) (hj : j < ds.length) (hx : ds.getD j un = .own nl e es xs) (hd : (decide (d < n) && !owner (lk l d) && (d != q)) = true) (hi : ld.contains i = true)
    (next : OpsAt P Θ n R ops ld (i + 1) os k (lk ((d, .d (.own nl e es xs)) :: (q, .d (.tup (ds.set j (.dead false)))) :: l))) :
    OpsAt P Θ n R ops ld i (⟨some d, .extract (.tmp q) j, ty, pos, af, none⟩ :: os) k (lk l) := by
  simp only [Bool.and_eq_true, decide_eq_true_eq, Bool.not_eq_true', bne_iff_ne, ne_eq] at hd
  exact .loud (OpStep.ext rfl hd.1.1 hd.1.2 hd.2 rfl hE hj hx) rfl hi next

/-! ### Ghosts -/

def keepL (ks : List Nat) (l : Env) : Env := ks.map fun k => (k, lk l k)
def keepOk (ks : List Nat) (l : Env) : Bool := ks.all fun k => match refers (lk l k) with | some s => ks.contains s | none => true

omit [Tables] in
theorem lk_keepL {ks : List Nat} {u : Nat} : lk (keepL ks l) u = if u ∈ ks then lk l u else .un := by
  unfold keepL
  induction ks with
  | nil => simp [lk]
  | cons k ks ih =>
    simp only [List.map_cons, lk]
    by_cases h : k = u
    · subst h; simp
    · simp only [h, if_false, ih, List.mem_cons]
      have : u ≠ k := fun e => h e.symm
      simp [this]

/-- Only some slots are kept. -/
theorem Run.keep {todo : List Item} (ks : List Nat) (hk : keepOk ks l = true) (h : Run P Θ n R todo (lk (keepL ks l))) : Run P Θ n R todo (lk l) := by
  refine .ghost (fun ρ w tmps hI => ⟨ρ, Fr.refl _ _, hI.less fun u => ?_⟩) h
  rw [lk_keepL]
  by_cases hu : u ∈ ks
  · refine .inr ⟨by simp [hu], fun s hs => ?_⟩
    simp only [keepOk, List.all_eq_true] at hk
    have := hk u hu
    rw [hs] at this
    rw [lk_keepL]
    have h2 : s ∈ ks := by simpa using this
    simp [h2]
  · exact .inl (by simp [hu])

end Go.Dat
