/- Texts K37, K38, K39, K40, K41 in one file. No conditions. -/
import Derived.Test.YtaflihoopnjcgaaDoorKC

namespace Go.Dat

variable [Tables]

variable {P : Program} {Θ : TypeId → TI} {n : Nat} {ρ ρ' : Nat → Tag} {w w' : World} {tmps : Array Value} {E E' : Nat → Slot} {t : Nat} {u : Value} {ops : Array Oper} {ld : List Nat}

/-! ### What a step does not name stays -/

omit [Tables] in
theorem put_tmp {a : Act} {o : Oper} {v x : Value} (hd : o.dst ≠ some t) (h : a.tmps.getD t undef = x) : (a.put o.dst v).tmps.getD t undef = x := by
  cases hdst : o.dst with
  | none => exact h
  | some d =>
    have hne : ¬ d = t := by rintro rfl; exact hd hdst
    show (a.tmps.setIfInBounds d v).getD t undef = x
    simp only [Array.getD_eq_getD_getElem?, Array.getElem?_setIfInBounds, hne, if_false] at h ⊢
    exact h

omit [Tables] in
theorem Oper.wp_fr {o : Oper} {a : Act} {w : World} {x : Value} {K K' : Act → World → Prop} {Q Q' : Exit → Act → World → Prop} (hd : o.dst ≠ some t) (hv : a.tmps.getD t undef = x)
    (hK : ∀ a w, a.tmps.getD t undef = x → K a w → K' a w) (hQ : ∀ e a w, e ≠ .normal → Q e a w → Q' e a w) (hh : o.wp P a w K Q) : o.wp P a w K' Q' := by
  unfold Oper.wp at *
  generalize (execOp a.eval o).run P w = r at *
  cases r with
  | ok n w' =>
    cases n <;> simp only [Oper.upon] at hh ⊢ <;>
      first
        | exact hK _ _ (put_tmp hd hv) hh
        | exact hK _ _ (put_tmp (a := { a with defers := _ :: a.defers }) hd hv) hh
        | exact Calls.mono hh (fun e w'' he => by
            cases e <;> first
              | exact hK _ _ (put_tmp hd hv) he
              | exact hQ _ _ _ (by simp) he
              | exact (let ⟨a1, w1, h1⟩ := he; ⟨a1, w1, hQ _ _ _ (by simp) h1⟩))
        | exact Rows.mono hh (fun _ _ he => hK _ _ (put_tmp hd hv) he)
  | halt y w' => cases y <;> simp only [Oper.upon] at hh ⊢ <;> first | exact hQ _ _ _ (by simp) hh | exact hh

omit [Tables] in
theorem wpOp_fr {i : Nat} {a : Act} {w : World} {x : Value} {K K' : Act → World → Prop} {Q Q' : Exit → Act → World → Prop} (hd : ∀ o, ops[i]? = some o → o.dst ≠ some t) (hv : a.tmps.getD t undef = x)
    (hK : ∀ a w, a.tmps.getD t undef = x → K a w → K' a w) (hQ : ∀ e a w, e ≠ .normal → Q e a w → Q' e a w) (hh : wpOp P ops Q i K a w) : wpOp P ops Q' i K' a w := by
  unfold wpOp at *
  split
  · exact hK _ _ hv (by simpa [*] using hh)
  · rename_i o ho
    simp only [ho] at hh
    split
    · rename_i hw
      simp only [hw, if_true] at hh
      refine hh.imp (Oper.wp_fr (hd o ho) hv hK hQ) fun h => ⟨h.1, ?_⟩
      obtain ⟨a1, w1, h1⟩ := h.2
      exact ⟨a1, w1, hQ _ _ _ (by simp) h1⟩
    · rename_i hw
      simp only [hw] at hh
      exact hK _ _ (put_tmp (hd o ho) hv) hh

/-- And slot t is as it was. -/
def Kept (t : Nat) (x : Value) (Q : Exit → Act → World → Prop) (e : Exit) (a : Act) (w : World) : Prop := Q e a w ∧ (e = .normal → a.tmps.getD t undef = x)

omit [Tables] in
theorem wpOps_fr {x : Value} {Q : Exit → Act → World → Prop} (hd : ∀ (i : Nat) (o : Oper), ops[i]? = some o → o.dst ≠ some t) : ∀ (l : List Nat) (a : Act) (w : World), a.tmps.getD t undef = x → wpOps P ops Q l a w → wpOps P ops (Kept t x Q) l a w
  | [], _, _, hv, h => ⟨h, fun _ => hv⟩
  | i :: l, a, w, hv, h => by
    rw [wpOps_cons] at h ⊢
    exact wpOp_fr (hd i) hv (fun a w h1 h2 => wpOps_fr hd l a w h1 h2) (fun _ _ _ he h => ⟨h, fun e1 => absurd e1 he⟩) h
omit [Tables] in
theorem wpAny_fr {x : Value} {md : Region.Mode} {Q : Exit → Act → World → Prop} (hd : ∀ (i : Nat) (o : Oper), ops[i]? = some o → o.dst ≠ some t) : ∀ (fuel : Nat) (listed : Array Bool) (a : Act) (w : World), a.tmps.getD t undef = x → wpAny P md ops Q fuel listed a w → wpAny P md ops (Kept t x Q) fuel listed a w
  | 0, _, _, _, hv, h => ⟨h.1, h.2, fun _ => hv⟩
  | fuel + 1, _, _, _, hv, h => ⟨fun h1 => ⟨h.1 h1, fun _ => hv⟩, fun i hi =>
      wpOp_fr (hd i) hv (fun a w h1 h2 => wpAny_fr hd fuel _ a w h1 h2) (fun _ _ _ he h => ⟨h, fun e1 => absurd e1 he⟩) (h.2 i hi)⟩

theorem Chain.regionT {id : Nat} {draw : Bool} {a : Act} {loud : List Nat} (hd : ∀ (i : Nat) (o : Oper), ops[i]? = some o → o.dst ≠ some t) (hΘ : Agree P Θ) (hm : P.follows .mixedOrders = true) (hok : draw = true → orderOk ops loud = true) (h : Chain P Θ n ops loud (List.range ops.size) E E')
    (hI : Inv n ρ w a.tmps E) : (Code.region id ops draw).wp P (Kept t (a.tmps.getD t undef) fun e a' w' => e = .normal ∧ After n ρ w a E' a' w') a w := by
  cases draw with
  | false => exact wp_region (wpOps_fr hd _ _ _ rfl (h.wpOps hΘ hI fun _ _ h => ⟨rfl, h⟩))
  | true =>
    have hI' : Inv n ρ w.drew a.tmps E := hI.grow (Grow.refl hI.lt).drew
    have hrem : rem ops (Array.replicate ops.size false) = List.range ops.size := by
      unfold rem
      rw [List.filter_eq_self]
      intro i hi
      have : i < ops.size := by simpa using hi
      simp [Array.getD_eq_getD_getElem?, this]
    refine wp_region_any hm (wpAny_fr hd _ _ _ _ rfl (draw_any hΘ (hok rfl) ops.size (Array.replicate ops.size false) (by simp) ?_ (by rw [hrem]; simp) (by rw [hrem]; exact h) hI' fun a' w' h => ⟨rfl, ?_⟩))
    · intro i o ho hl
      have : i < ops.size := (Array.getElem?_eq_some_iff.1 ho).1
      simp [Array.getD_eq_getD_getElem?, this] at hl
    · exact After.trans ⟨rfl, (Grow.refl hI.lt).drew.fr⟩ h

/-- Nothing is left to do: what is known is told in other words. -/
theorem Run.nil_inv {R : (Nat → Slot) → Prop} {k : List Item} (h : Run P Θ n R k E) : k = [] → ∀ ρ w tmps, Inv n ρ w tmps E → ∃ ρ' E', Fr ρ w ρ' w ∧ Inv n ρ' w tmps E' ∧ R E' := by
  induction h with
  | fin h => exact fun _ ρ w tmps hI => ⟨ρ, _, Fr.refl _ _, hI, h⟩
  | split Q h _ ih =>
    intro hk ρ w tmps hI
    obtain ⟨E1, ρ1, h0, h1, h2⟩ := h _ _ _ hI
    obtain ⟨ρ', E', g1, g2, g3⟩ := ih E1 h0 hk _ _ _ h2
    exact ⟨ρ', E', h1.trans g1, g2, g3⟩
  | ghost h _ ih =>
    intro hk ρ w tmps hI
    obtain ⟨ρ1, h1, h2⟩ := h _ _ _ hI
    obtain ⟨ρ', E', g1, g2, g3⟩ := ih hk _ _ _ h2
    exact ⟨ρ', E', h1.trans g1, g2, g3⟩
  | _ => exact fun hk => by cases hk
end Go.Dat

namespace Go.Dat

variable [Tables]

variable {P : Program} {Θ : TypeId → TI} {n : Nat} {E E' : Nat → Slot} {w : World}

/-- The contract of a function that is handed a box, and changes what is in it. -/
def BFun (P : Program) (f : FuncId) (X : D) (args : List D) (r : Value) (X' : D) : Prop :=
  ∀ (S : Nat → Prop) (w : World) (b : Nat) (cs vals : List Value), (∀ g, S g → g < w.heap.size) → TabS S w → b < w.heap.size → ¬ S b → BoxAt w b cs → Rp S w X cs → Rpv S w args vals →
    Calls P f (Value.pointer (some ⟨b, 0, none⟩) :: vals).toArray w fun e w' => e = .returned r ∧ ∃ (S' : Nat → Prop) (cs' : List Value), (∀ g, S' g → g < w'.heap.size) ∧ (∀ g, g < w.heap.size → (S' g ↔ S g)) ∧
      (∀ g, g < w.heap.size → g ≠ b → w'.heap[g]? = w.heap[g]?) ∧ w'.os = w.os ∧ w'.tape = w.tape ∧ w'.output = w.output ∧ w.heap.size ≤ w'.heap.size ∧ BoxAt w' b cs' ∧ Rp S' w' X' cs'

open Classical in
theorem RawOp.callBox {o : Oper} {d q s : Nat} {fo : Operand} {args : Array Operand} {ts : Array TypeId} {rest : List Operand} {f : FuncId} {X X' : D} {ds : List D} {r : Value} (hd : o.dst = some d) (hn : d < n) (hod : owner (E d) = false) (ho : o.op = .call { callee := .value fo, args := args, argTypes := ts })
    (hargs : args.toList = .tmp q :: rest) (hfo : OpD E fo (.fn (.func f) [] [])) (hk : Adr E q s [] X) (hno : X.noOwn = true) (hrest : OpDs E rest ds) (hc : Callable P f) (hr : r.oneCell' = true) (hf : BFun P f X ds r X') :
    RawOp P n E o (upd (upd (kill (refersTo s) E) s (.box X')) d (.d (.v r))) := by
  intro ρ w a Q hI
  obtain ⟨b, cs, g1, g2, g3, g4, g5, _⟩ := hk.sound hI
  obtain ⟨c1, h1, h2⟩ := hfo.sound hI
  simp only [Rp] at h1
  obtain ⟨us, ts', rfl, h3, h4⟩ := h1
  simp only [Rpv] at h3 h4
  subst h3 h4
  simp only [VC] at h2
  have he : a.eval fo = .func (.func f) #[] #[] := by simpa using h2.symm
  unfold Oper.wp
  rw [callValue_run ho he hc]
  have hq0 : a.tmps.getD q undef = .pointer (some ⟨b, 0, none⟩) := by simpa [D.off] using g2
  have hmap : #[] ++ args.map a.eval ++ #[] = (Value.pointer (some ⟨b, 0, none⟩) :: rest.map a.eval).toArray := by
    apply Array.ext'
    simp [hargs, eval_tmp, hq0]
  rw [hmap]
  have hds : d ≠ s := by rintro rfl; rw [hk.1] at hod; cases hod
  refine (hf (sh ρ) w b cs _ (fun g hg => hI.lt g (by simp only [sh] at hg; simp [hg])) hI.tab (hI.lt b (by simp [g3])) (by simp [sh, g3]) g4 ((RB.plain X hno).1 g5) (hrest.sound hI)).mono ?_
  rintro ex w' ⟨rfl, S', cs', k1, k2, k3, k4, k5, k6, k7, k8, k9⟩
  show (a.put o.dst r).defers = a.defers ∧ ∃ ρ', Fr ρ w ρ' w' ∧ Inv n ρ' w' (a.put o.dst r).tmps _
  rw [put_some hd]
  let ρ2 : Nat → Tag := fun g => if g < w.heap.size then ρ g else if S' g then .sh else .other
  have hd' : d < a.tmps.size := by rw [hI.size]; exact hn
  have hold : ∀ g, g < w.heap.size → ρ2 g = ρ g := fun g hg => by simp only [ρ2]; rw [if_pos hg]
  have hkp : ∀ g, ρ g ≠ .other → ρ2 g = ρ g := fun g hg => hold g (hI.lt g hg)
  have hheap : ∀ g, ρ g ≠ .other → ρ g ≠ .bx s → w'.heap[g]? = w.heap[g]? := fun g hg hgs => k3 g (hI.lt g hg) (by rintro rfl; exact hgs g3)
  have hS : ∀ g, S' g → sh ρ2 g := fun g hg => by
    by_cases hlt : g < w.heap.size
    · simp only [sh]; rw [hold g hlt]; exact (k2 g hlt).1 hg
    · simp only [sh, ρ2]; rw [if_neg hlt, if_pos hg]
  refine ⟨rfl, ρ2, ⟨fun g hg => by rw [hkp g (by simp [hg]), hg], fun g hl hg => by rw [hold g hl, hg], fun g hl hg => k3 g hl (by rintro rfl; rw [g3] at hg; rcases hg with h | h <;> cases h), k4, k5, k6, k7⟩, ?_⟩
  have hI1 := hI.less (kill_less (fun s' h => refersTo_owner (t := s) s' h) hI)
  refine ⟨by simp [hI.size], fun g hg => ?_, hI.tab.mono (fun g hg => ⟨by simp only [sh] at hg ⊢; rw [hkp g (by simp [hg]), hg], hheap g (by simp only [sh] at hg; simp [hg]) (by simp only [sh] at hg; simp [hg])⟩), fun u => ?_⟩
  · by_cases hlt : g < w.heap.size
    · exact Nat.lt_of_lt_of_le hlt k7
    · simp only [ρ2] at hg
      rw [if_neg hlt] at hg
      exact k1 g (Classical.byContradiction fun h => hg (by rw [if_neg h]))
  rw [getD_put _ _ _ _ hd']
  by_cases u1 : d = u
  · subst u1
    simp only [if_true, upd]
    exact RD.rv (RD.ofV hr)
  · by_cases u2 : s = u
    · subst u2
      simp only [upd, hds, if_false, if_true]
      refine ⟨b, cs', g1, by rw [hkp b (by simp [g3]), g3], k8, RB.ofRp (Rp.mono (fun g hg => ⟨hS g hg, rfl⟩) X' k9)⟩
    · simp only [upd, u1, u2, if_false]
      have e1 : u ≠ s := fun h => u2 h.symm
      refine (hI1.slot u).keep hI1 (fun g hg => ⟨?_, ?_⟩) (fun g r hg => ⟨?_, ?_⟩) (fun g hg => ⟨?_, ?_⟩) (fun s' hs' => ?_) (.inl kill_nwk)
      · rw [hkp g (by simp [hg]), hg]
      · exact hheap g (by simp [hg]) (by simp [hg])
      · rw [hkp g (by simp [hg]), hg]
      · exact hheap g (by simp [hg]) (by simp [hg])
      · rw [hkp g (by simp [hg]), hg]
      · exact hheap g (by simp [hg]) (by rw [hg]; simp [e1])
      · have hun : kill (refersTo s) E u ≠ .un := by rintro h; rw [h] at hs'; cases hs'
        obtain ⟨q1, q2⟩ := kill_eq hun
        rw [q1] at hs'
        have n1 : s' ≠ s := by rintro rfl; simp [refersTo, hs'] at q2
        have n2 : s' ≠ d := by rintro rfl; have := hI.refOwner hs'; rw [hod] at this; cases this
        refine ⟨by simp [upd, n1.symm, n2.symm], ?_, fun g hg => hheap g (by simp [hg]) (by rw [hg]; simp [n1])⟩
        rw [getD_put _ _ _ _ hd', if_neg (fun h => n2 h.symm)]

section
variable {R : (Nat → Slot) → Prop} {ops : Array Oper} {ld : List Nat} {i : Nat} {os : List Oper} {K : List Item} {l : Env} {ty : TypeId} {pos : String} {af : Array Edge}

theorem OpsAt.callBox {d q s : Nat} {fo : Operand} {args : Array Operand} {ts : Array TypeId} {rest : List Operand} {f : FuncId} {X X' : D} {ds : List D} {r : Value} {c1 c2 : Prop} (hargs : args.toList = .tmp q :: rest) (hk : Adr (lk l) q s [] X)
    (hfo : opOf (lk l) fo = some (.fn (.func f) [] [], c1)) (hrest : opsOf (lk l) rest = some (ds, c2)) (hd : (decide (d < n) && !owner (lk l d)) = true) (hl : ld.contains i = true) (hno : X.noOwn = true) (hc : c1 ∧ c2) (hr : r.oneCell' = true) (hca : Callable P f) (hf : BFun P f X ds r X')
    (next : OpsAt P Θ n R ops ld (i + 1) os K (lk ((d, .d (.v r)) :: (s, .box X') :: killL (refersTo s) l))) :
    OpsAt P Θ n R ops ld i (⟨some d, .call { callee := .value fo, args := args, argTypes := ts }, ty, pos, af, none⟩ :: os) K (lk l) := by
  simp only [Bool.and_eq_true, decide_eq_true_eq, Bool.not_eq_true'] at hd
  refine .rw_ ?_ ?_ rfl hl next
  rotate_left
  · intro u x hu hne
    have h1 : ¬ d = u := by rintro rfl; exact hne rfl
    have h2 : ¬ s = u := by rintro rfl; rw [hk.1] at hu; cases hu
    have : lk (killL (refersTo s) l) u = .d (.v x) := by
      show lk (killL (refersTo s) l) u = _
      unfold killL
      rw [← kill_lk]
      exact kill_v refersTo_some hu
    simp only [lk, h1, h2, if_false]
    exact this
  have := RawOp.callBox (P := P) (n := n) (o := ⟨some d, .call { callee := .value fo, args := args, argTypes := ts }, ty, pos, af, none⟩) rfl hd.1 hd.2 rfl hargs (opOf_sound hfo hc.1) hk hno (opsOf_sound hrest hc.2) hca hr hf
  rw [kill_lk] at this
  exact this
end
end Go.Dat

namespace Go.Dat

variable [Tables]

variable {P : Program} {Θ : TypeId → TI} {n : Nat} {ρ ρ' ρ'' : Nat → Tag} {w w' w'' : World} {E E' E1 E2 : Nat → Slot}
variable {ops : Array Oper} {Q : Exit → Act → World → Prop} {s : Nat} {szs : List Nat}

/-! ### Steps that change places -/

/-- A struct whose fields have such sizes. -/
def ShS (szs : List Nat) (X : D) : Prop := ∃ ds, X = .st ds ∧ ds.map D.size = szs

omit [Tables] in
theorem map_set_same {α β : Type} (f : α → β) : ∀ (l : List α) (i : Nat) (y : α) (z : α), f y = f (l.getD i z) → (l.set i y).map f = l.map f
  | [], _, _, _, _ => rfl
  | a :: l, 0, y, z, h => by simp at h; simp [h]
  | a :: l, i + 1, y, z, h => by
    simp only [List.getD_cons_succ] at h
    simp [map_set_same f l i y z h]
omit [Tables] in
theorem ShS.set {X y : D} {f : Nat} (h : ShS szs X) (hs : y.size = (X.get [f]).size) : ShS szs (X.set [f] y) := by
  obtain ⟨ds, rfl, h2⟩ := h
  refine ⟨ds.set f y, rfl, ?_⟩
  rw [← h2]
  exact map_set_same D.size ds f y un (by simpa [D.get] using hs)
omit [Tables] in
theorem sizes_map : ∀ (ds : List D), sizes ds = (ds.map D.size).foldr (· + ·) 0
  | [] => rfl
  | d :: ds => by simp only [sizes, List.map_cons, List.foldr_cons, sizes_map ds]

/-- It takes addresses alone. -/
def isAd : Op → Bool
  | .move (.tmp _) => true
  | .nilCheck (.tmp _) => true
  | .fieldAddr _ (.tmp _) _ => true
  | _ => false
def isLd : Op → Bool
  | .load _ _ => true
  | _ => false
def namesR (s : Nat) (ops : Array Oper) (o : Oper) : List Nat := (if isAd o.op then (opTmps o).filter (· != s) else opTmps o) ++ gTmps ops o ++ (if isLd o.op then [s] else [])
def tgtR (s : Nat) (o : Oper) : Option Nat :=
  match o.dst with
  | some d => some d
  | none => match o.op with
    | .store _ (.tmp _) _ => some s
    | _ => none
def apartR (s : Nat) (ops : Array Oper) (x y : Oper) : Bool :=
  match tgtR s x, tgtR s y with
  | some d, some e => d != e && !(namesR s ops y).contains d && !(namesR s ops x).contains e
  | _, _ => false

/-- It refers to nothing, or to the box, or to a field of it. -/
def shortR (s : Nat) : Slot → Bool
  | .ref s' q => s' == s && decide (q.length ≤ 1)
  | x => bare x
structure Nice (s : Nat) (szs : List Nat) (E : Nat → Slot) : Prop where
  short : ∀ u, shortR s (E u) = true
  box : ∃ X, E s = .box X ∧ ShS szs X

inductive StepR (P : Program) (Θ : TypeId → TI) (n : Nat) (ops : Array Oper) (s : Nat) (szs : List Nat) (E : Nat → Slot) (o : Oper) : (Nat → Slot) → Prop
  | q {d x} : Wants ops E o true → o.dst = some d → d < n → owner (E d) = false → Ev P Θ E o x → bare x = true → (∀ k ∈ opTmps o, refers (E k) = none) → (isAd o.op = true → s ∉ opTmps o) → StepR P Θ n ops s szs E o (upd E d x)
  | skip {d} : Wants ops E o false → o.dst = some d → d < n → owner (E d) = false → StepR P Θ n ops s szs E o (upd E d .no)
  | ad {d x} : Wants ops E o true → o.dst = some d → d < n → owner (E d) = false → isAd o.op = true → shortR s x = true → (∀ E2, (∀ k ∈ opTmps o, k ≠ s → E2 k = E k) → (∃ X, E2 s = .box X ∧ ShS szs X) → Ev P Θ E2 o x) → StepR P Θ n ops s szs E o (upd E d x)
  | ld {d x} : Wants ops E o true → o.dst = some d → d < n → owner (E d) = false → isAd o.op = false → isLd o.op = true → bare x = true → (∀ E2, (∀ k ∈ opTmps o, E2 k = E k) → E2 s = E s → Ev P Θ E2 o x) → StepR P Θ n ops s szs E o (upd E d x)
  | st {T k x f X y} : o.dst = none → o.guard = none → o.op = .store T (.tmp k) x → E k = .ref s [f] → E s = .box X → OpD E x y → (Θ T).fits y = true → y.size = (X.get [f]).size → (X.get [f]).noOwn = true → StepR P Θ n ops s szs E o (upd E s (.box (X.set [f] y)))

inductive ChainR (P : Program) (Θ : TypeId → TI) (n : Nat) (ops : Array Oper) (s : Nat) (szs : List Nat) : List Nat → (Nat → Slot) → (Nat → Slot) → Prop
  | nil {E0} : ChainR P Θ n ops s szs [] E0 E0
  | cons {i is o E0 E1 E2} : ops[i]? = some o → StepR P Θ n ops s szs E0 o E1 → ChainR P Θ n ops s szs is E1 E2 → ChainR P Θ n ops s szs (i :: is) E0 E2

omit [Tables] in
theorem bare_short {x : Slot} (h : bare x = true) : shortR s x = true := by
  cases x <;> first | exact h | (simp [bare, refers] at h)
omit [Tables] in
theorem Nice.upd {d : Nat} {x : Slot} (h : Nice s szs E) (ho : owner (E d) = false) (hx : shortR s x = true) : Nice s szs (upd E d x) := by
  refine ⟨fun u => ?_, ?_⟩
  · simp only [Dat.upd]
    split
    · exact hx
    · exact h.short u
  · obtain ⟨X, h1, h2⟩ := h.box
    have : d ≠ s := by rintro rfl; rw [h1] at ho; cases ho
    exact ⟨X, by simp [Dat.upd, this, h1], h2⟩
omit [Tables] in
theorem Nice.kill {f : Nat} (h : Nice s szs E) : kill (below s [f]) E = E := by
  funext u
  have h1 := h.short u
  unfold Dat.kill
  rw [if_neg]
  intro hk
  cases hE : E u <;> rw [hE] at h1 hk <;> simp [shortR, bare, refers, below, isWk] at h1 hk
  next s' q =>
    obtain ⟨⟨_, h2⟩, h3⟩ := hk
    match q, h1.2, h2, h3 with
    | [], _, h2, _ => simp at h2
    | [g], _, h2, h3 => simp at h2; exact h3 (by rw [h2])
    | _ :: _ :: _, h1, _, _ => simp at h1

theorem StepR.wp {o : Oper} {i : Nat} {a : Act} {K : Act → World → Prop} (hΘ : Agree P Θ) (hB : Nice s szs E) (hI : Inv n ρ w a.tmps E) (h : StepR P Θ n ops s szs E o E') (hi : ops[i]? = some o)
    (hK : ∀ a' w', After n ρ w a E' a' w' → K a' w') : wpOp P ops Q i K a w := by
  cases h with
  | q hw hd hn ho h => exact (Step1.quiet hw hd hn ho h).wp hΘ hI hi hK
  | skip hw hd hn ho => exact (Step1.skip (P := P) (Θ := Θ) hw hd hn ho).wp hΘ hI hi hK
  | ad hw hd hn ho _ _ h => exact (Step1.quiet hw hd hn ho (h E (fun _ _ _ => rfl) hB.box)).wp hΘ hI hi hK
  | ld hw hd hn ho _ _ _ h => exact (Step1.quiet hw hd hn ho (h E (fun _ _ => rfl) rfl)).wp hΘ hI hi hK
  | @st T k x f X y hd hg ho hk hE hx hf hs hX =>
    have h1 : OpStep P Θ n E o (upd E s (.box (X.set [f] y))) := by
      have := OpStep.sto (P := P) (Θ := Θ) (n := n) (p := [f]) hd ho ⟨hE, .inl hk⟩ hx hf hs hX
      rw [hB.kill] at this
      exact this
    exact (Step1.go (P := P) (Θ := Θ) (Wants.none hg) h1).wp hΘ hI hi hK

theorem StepR.mv {o : Oper} (h : StepR P Θ n ops s szs E o E') (hB : Nice s szs E) : ∃ d x, tgtR s o = some d ∧ E' = upd E d x ∧ Nice s szs E' ∧
    ∀ E2, Nice s szs E2 → (∀ k ∈ namesR s ops o, E2 k = E k) → E2 d = E d → StepR P Θ n ops s szs E2 o (upd E2 d x) ∧ Nice s szs (upd E2 d x) := by
  have hg : ∀ {E2 : Nat → Slot} {o : Oper}, (∀ k ∈ namesR s ops o, E2 k = E k) → ∀ k ∈ gTmps ops o, E2 k = E k := fun h k hk => h k (by simp [namesR, hk])
  cases h with
  | @q d x hw hd hn ho h hs hk hns =>
    have hop : ∀ {E2 : Nat → Slot}, (∀ k ∈ namesR s ops o, E2 k = E k) → ∀ k ∈ opTmps o, E2 k = E k := fun h k hk => h k (by
      unfold namesR
      by_cases ha : isAd o.op = true
      · have : k ≠ s := by rintro rfl; exact hns ha hk
        simp [ha, hk, this]
      · simp [ha, hk])
    refine ⟨d, x, by simp [tgtR, hd], rfl, hB.upd ho (bare_short hs), fun E2 hB2 hk2 hdd => ⟨.q (hw.stable (hg hk2)) hd hn (by rw [hdd]; exact ho) (h.stable fun k hk' => ⟨hop hk2 k hk', fun s' hs' => by rw [hk k hk'] at hs'; cases hs'⟩) hs (fun k hk' => by rw [hop hk2 k hk']; exact hk k hk') hns, hB2.upd (by rw [hdd]; exact ho) (bare_short hs)⟩⟩
  | @skip d hw hd hn ho =>
    exact ⟨d, .no, by simp [tgtR, hd], rfl, hB.upd ho rfl, fun E2 hB2 hk hdd => ⟨.skip (hw.stable (hg hk)) hd hn (by rw [hdd]; exact ho), hB2.upd (by rw [hdd]; exact ho) rfl⟩⟩
  | @ad d x hw hd hn ho ha hs h =>
    refine ⟨d, x, by simp [tgtR, hd], rfl, hB.upd ho hs, fun E2 hB2 hk hdd => ⟨.ad (hw.stable (hg hk)) hd hn (by rw [hdd]; exact ho) ha hs fun E3 h3 hb => h E3 (fun k hk' hne => ?_) hb, hB2.upd (by rw [hdd]; exact ho) hs⟩⟩
    rw [h3 k hk' hne]
    exact hk k (by simp [namesR, ha, hk', hne])
  | @ld d x hw hd hn ho ha hl hs h =>
    refine ⟨d, x, by simp [tgtR, hd], rfl, hB.upd ho (bare_short hs), fun E2 hB2 hk hdd => ⟨.ld (hw.stable (hg hk)) hd hn (by rw [hdd]; exact ho) ha hl hs fun E3 h3 hb => h E3 (fun k hk' => ?_) ?_, hB2.upd (by rw [hdd]; exact ho) (bare_short hs)⟩⟩
    · rw [h3 k hk']
      exact hk k (by simp [namesR, ha, hk'])
    · rw [hb]
      exact hk s (by simp [namesR, hl])
  | @st T k x f X y hd hgd ho hk hE hx hf hs hX =>
    have na : isAd o.op = false := by rw [ho]; rfl
    have hnm : ∀ k' ∈ opTmps o, k' ∈ namesR s ops o := fun k' hk' => by
      unfold namesR
      rw [na]
      simp [hk']
    have nice : ∀ {E2 : Nat → Slot}, Nice s szs E2 → E2 s = E s → Nice s szs (upd E2 s (.box (X.set [f] y))) := fun h2 h3 => by
      refine ⟨fun u => ?_, X.set [f] y, by simp [upd], ?_⟩
      · simp only [upd]
        split
        · rfl
        · exact h2.short u
      · obtain ⟨X', h4, h5⟩ := h2.box
        rw [h3, hE] at h4
        cases h4
        exact h5.set hs
    refine ⟨s, _, by simp [tgtR, hd, ho], rfl, nice hB rfl, fun E2 hB2 hk2 hdd => ⟨.st hd hgd ho ?_ (by rw [hdd]; exact hE) (hx.stable fun k' h => hk2 k' ?_) hf hs hX, nice hB2 hdd⟩⟩
    · rw [hk2 k (hnm k (by simp [opTmps, ho, Op.operands, operand]))]; exact hk
    · exact hnm k' (by simp [opTmps, ho, Op.operands, h])
theorem StepR.nice {o : Oper} (hB : Nice s szs E) (h : StepR P Θ n ops s szs E o E') : Nice s szs E' := by
  obtain ⟨_, _, _, _, h1, _⟩ := h.mv hB
  exact h1

theorem StepR.swap {x y : Oper} (hB : Nice s szs E) (h1 : StepR P Θ n ops s szs E x E1) (h2 : StepR P Θ n ops s szs E1 y E2) (hap : apartR s ops x y = true) :
    ∃ E3, StepR P Θ n ops s szs E y E3 ∧ StepR P Θ n ops s szs E3 x E2 := by
  have hB1 := h1.nice hB
  obtain ⟨d, x', hd, rfl, _, k1⟩ := h1.mv hB
  obtain ⟨e, y', he, rfl, _, k2⟩ := h2.mv hB1
  simp only [apartR, hd, he, Bool.and_eq_true, bne_iff_ne, ne_eq, Bool.not_eq_true', List.contains_eq_mem, decide_eq_false_iff_not] at hap
  obtain ⟨⟨hde, hy⟩, hx⟩ := hap
  obtain ⟨g1, g2⟩ := k2 E hB (fun k hk => (upd_ne (by rintro rfl; exact hy hk)).symm) (upd_ne hde).symm
  refine ⟨upd E e y', g1, ?_⟩
  rw [upd_comm hde]
  exact (k1 _ g2 (fun k hk => upd_ne (by rintro rfl; exact hx hk)) (upd_ne (Ne.symm hde))).1

theorem ChainR.first {i : Nat} {B : List Nat} : ∀ (A : List Nat) {E E' : Nat → Slot}, Nice s szs E → ChainR P Θ n ops s szs (A ++ i :: B) E E' →
    (∀ j ∈ A, ∀ x y, ops[j]? = some x → ops[i]? = some y → apartR s ops x y = true) →
    ∃ o E1, ops[i]? = some o ∧ StepR P Θ n ops s szs E o E1 ∧ ChainR P Θ n ops s szs (A ++ B) E1 E'
  | [], E, E', _, h, _ => by
    cases h with
    | cons h1 h3 h4 => exact ⟨_, _, h1, h3, h4⟩
  | j :: A, E, E', hw, h, hA => by
    cases h with
    | @cons _ _ x _ E1 _ h1 h3 h4 =>
      obtain ⟨y, E2, g1, g2, g3⟩ := ChainR.first A (h3.nice hw) h4 (fun k hk => hA k (by simp [hk]))
      obtain ⟨E3, q1, q2⟩ := h3.swap hw g2 (hA j (by simp) x y h1 g1)
      exact ⟨y, E3, g1, q1, .cons h1 q2 g3⟩

/-- Every two operations are in order by the edges, or change places; edges go back. -/
def orderOkR (s : Nat) (ops : Array Oper) : Bool :=
  let m := masks ops.toList []
  (List.range ops.size).all fun i =>
    match ops[i]? with
    | none => false
    | some y => y.after.toList.all (fun e => !Region.binds .any e || decide (e.on < i)) &&
      (List.range i).all fun j => (m.getD i 0).testBit j || match ops[j]? with | none => false | some x => apartR s ops x y

omit [Tables] in
theorem orderOkR_spec (h : orderOkR s ops = true) {i : Nat} {y : Oper} (hy : ops[i]? = some y) :
    (∀ e ∈ y.after, Region.binds .any e = true → e.on < i) ∧ ∀ j, j < i → Anc ops i j ∨ ∀ x, ops[j]? = some x → apartR s ops x y = true := by
  have hi : i < ops.size := (Array.getElem?_eq_some_iff.1 hy).1
  simp only [orderOkR, List.all_eq_true, List.mem_range] at h
  have h1 := h i hi
  rw [hy] at h1
  simp only [Bool.and_eq_true, List.all_eq_true, Bool.or_eq_true, Bool.not_eq_true', decide_eq_true_eq, List.mem_range] at h1
  refine ⟨fun e he hb => ?_, fun j hj => ?_⟩
  · rcases h1.1 e (by simpa using he) with h | h
    · rw [hb] at h; cases h
    · exact h
  · rcases h1.2 j hj with h | h
    · exact .inl (masks_anc ops.toList [] [] (by simp) rfl (fun k j h => by simp at h) i j h)
    · refine .inr fun x hx => ?_
      rw [hx] at h
      exact h

theorem draw_anyR (hΘ : Agree P Θ) (hok : orderOkR s ops = true) : ∀ (fuel : Nat) (listed : Array Bool) {E E' : Nat → Slot} {ρ : Nat → Tag} {w : World} {a : Act}, listed.size = ops.size → Closed ops listed → (rem ops listed).length ≤ fuel → Nice s szs E →
    ChainR P Θ n ops s szs (rem ops listed) E E' → Inv n ρ w a.tmps E → (∀ a' w', After n ρ w a E' a' w' → Q .normal a' w') → wpAny P .any ops Q fuel listed a w := by
  have getD_lt : ∀ (listed : Array Bool) (k : Nat), listed.size = ops.size → k < ops.size → listed.getD k false = listed.getD k true := by
    intro listed k hs hk
    simp [Array.getD_eq_getD_getElem?, Array.getElem?_eq_getElem (show k < listed.size by omega)]
  have hready : ∀ (listed : Array Bool), listed.size = ops.size → Region.ready .any ops listed = [] → rem ops listed = [] := by
    intro listed hs hr
    have all : ∀ i, i < ops.size → listed.getD i true = true := by
      intro i
      induction i using Nat.strongRecOn with
      | _ i ih =>
        intro hi
        refine Classical.byContradiction fun hn => ?_
        have hn' : listed.getD i true = false := by cases h : listed.getD i true <;> simp_all
        obtain ⟨o, ho⟩ : ∃ o, ops[i]? = some o := ⟨ops[i], by simp [hi]⟩
        have : i ∈ Region.ready .any ops listed := by
          unfold Region.ready
          rw [List.mem_filter]
          refine ⟨by simpa using hi, ?_⟩
          simp only [ho, Option.map_some, Option.getD_some, Bool.and_eq_true, hn', Bool.not_false, true_and]
          rw [Array.all_eq_true']
          intro e he
          by_cases hb : Region.binds .any e = true
          · have hlt := (orderOkR_spec hok ho).1 e he hb
            have := ih e.on hlt (by omega)
            rw [getD_lt listed e.on hs (by omega), this]
            simp
          · simp [hb]
        rw [hr] at this
        cases this
    unfold rem
    rw [List.filter_eq_nil_iff]
    intro i hi
    simp [all i (by simpa using hi)]
  have hsub : ∀ (listed : Array Bool) (i : Nat), i ∈ Region.ready .any ops listed → i ∈ rem ops listed ∧ ∀ o, ops[i]? = some o → ∀ e ∈ o.after, Region.binds .any e = true → listed.getD e.on false = true := by
    intro listed i hi
    unfold Region.ready at hi
    rw [List.mem_filter] at hi
    obtain ⟨h1, h2⟩ := hi
    simp only [Bool.and_eq_true] at h2
    refine ⟨List.mem_filter.2 ⟨h1, h2.1⟩, fun o ho e he hb => ?_⟩
    have h3 := h2.2
    rw [ho] at h3
    simp only [Option.map_some, Option.getD_some, Array.all_eq_true'] at h3
    have := h3 e he
    simpa [hb] using this
  intro fuel
  induction fuel with
  | zero =>
    intro listed E E' ρ w a hs hc hl hB hch hI hQ
    have hrem : rem ops listed = [] := List.eq_nil_of_length_eq_zero (by omega)
    rw [hrem] at hch
    cases hch
    refine ⟨?_, hQ _ _ ⟨rfl, _, Fr.refl _ _, hI⟩⟩
    refine List.eq_nil_iff_forall_not_mem.2 fun i hi => ?_
    have := (hsub listed i hi).1
    rw [hrem] at this
    cases this
  | succ fuel ih =>
    intro listed E E' ρ w a hs hc hl hB hch hI hQ
    refine ⟨fun hr => ?_, fun i hi => ?_⟩
    · rw [hready listed hs hr] at hch
      cases hch
      exact hQ _ _ ⟨rfl, _, Fr.refl _ _, hI⟩
    · obtain ⟨h1, h2⟩ := hsub listed i hi
      obtain ⟨A, B, hA, hB', hA2⟩ := rem_split h1
      have hmem := List.mem_filter.1 h1
      have hlt : i < ops.size := by simpa using hmem.1
      obtain ⟨y, hy⟩ : ∃ o, ops[i]? = some o := ⟨ops[i], by simp [hlt]⟩
      rw [hA] at hch
      obtain ⟨o, E1, g1, g2, g3⟩ := ChainR.first A hB hch (fun j hj x y' hx hy' => by
        rw [hy] at hy'
        cases hy'
        obtain ⟨q1, q2⟩ := hA2 j hj
        rcases (orderOkR_spec hok hy).2 j q1 with h | h
        · have := Anc.listed hs hc h (fun o ho e he hb => h2 o ho e he hb)
          rw [getD_lt listed j hs (by omega), q2] at this
          cases this
        · exact h x hx)
      refine g2.wp hΘ hB hI g1 fun a' w' ⟨k1, ρ', k2, k3⟩ => ?_
      refine ih (listed.setIfInBounds i true) (by simpa using hs) ?_ ?_ (g2.nice hB) (by rw [hB']; exact g3) k3 (fun a2 w2 h => hQ a2 w2 (After.trans ⟨k1, k2⟩ h))
      · have hset : ∀ (k : Nat) (x : Bool), (listed.setIfInBounds i true).getD k x = if i = k then true else listed.getD k x := by
          intro k x
          simp only [Array.getD_eq_getD_getElem?, Array.getElem?_setIfInBounds]
          split
          · next h => subst h; simp [hs, hlt]
          · rfl
        intro k o' ho' hk e he hb
        rw [hset] at hk ⊢
        split
        · rfl
        · split at hk
          · next h => subst h; exact h2 o' ho' e he hb
          · exact hc k o' ho' hk e he hb
      · rw [hB']
        rw [hA] at hl
        simp only [List.length_append, List.length_cons] at hl ⊢
        omega


theorem ChainR.any {a : Act} (hΘ : Agree P Θ) (hok : orderOkR s ops = true) (hB : Nice s szs E) (h : ChainR P Θ n ops s szs (List.range ops.size) E E')
    (hI : Inv n ρ w a.tmps E) : wpAny P .any ops (fun e a' w' => e = .normal ∧ After n ρ w a E' a' w') ops.size (Array.replicate ops.size false) a w.drew := by
  have hI' : Inv n ρ w.drew a.tmps E := hI.grow (Grow.refl hI.lt).drew
  have hrem : rem ops (Array.replicate ops.size false) = List.range ops.size := by
    unfold rem
    rw [List.filter_eq_self]
    intro i hi
    have : i < ops.size := by simpa using hi
    simp [Array.getD_eq_getD_getElem?, this]
  refine draw_anyR hΘ hok ops.size (Array.replicate ops.size false) (by simp) ?_ (by rw [hrem]; simp) hB (by rw [hrem]; exact h) hI' fun a' w' h => ⟨rfl, ?_⟩
  · intro i o ho hl
    have : i < ops.size := (Array.getElem?_eq_some_iff.1 ho).1
    simp [Array.getD_eq_getD_getElem?, this] at hl
  · exact After.trans ⟨rfl, (Grow.refl hI.lt).drew.fr⟩ h
theorem ChainR.region {id : Nat} {a : Act} (hΘ : Agree P Θ) (hm : P.follows .mixedOrders = true) (hok : orderOkR s ops = true) (hB : Nice s szs E) (h : ChainR P Θ n ops s szs (List.range ops.size) E E')
    (hI : Inv n ρ w a.tmps E) : (Code.region id ops true).wp P (fun e a' w' => e = .normal ∧ After n ρ w a E' a' w') a w := wp_region_any hm (h.any hΘ hok hB hI)
theorem ChainR.regionT {id t : Nat} {a : Act} (hd : ∀ (i : Nat) (o : Oper), ops[i]? = some o → o.dst ≠ some t) (hΘ : Agree P Θ) (hm : P.follows .mixedOrders = true) (hok : orderOkR s ops = true) (hB : Nice s szs E) (h : ChainR P Θ n ops s szs (List.range ops.size) E E')
    (hI : Inv n ρ w a.tmps E) : (Code.region id ops true).wp P (Kept t (a.tmps.getD t undef) fun e a' w' => e = .normal ∧ After n ρ w a E' a' w') a w := wp_region_any hm (wpAny_fr hd _ _ _ _ rfl (h.any hΘ hok hB hI))
theorem RawCode.ofR {id : Nat} (hΘ : Agree P Θ) (hm : P.follows .mixedOrders = true) (hok : orderOkR s ops = true) (hB : Nice s szs E) (h : ChainR P Θ n ops s szs (List.range ops.size) E E') : RawCode P n (.region id ops true) E E' := by
  intro ρ w a b k cs hI
  obtain ⟨e, a1, w1, ⟨rfl, h3, ρ1, h4, h5⟩, harr⟩ := h.region hΘ hm hok hB hI b k cs
  exact ⟨a1, w1, harr, h3, ρ1, h4, h5⟩
end Go.Dat

namespace Go.Dat

variable [Tables]

variable {P : Program} {Θ : TypeId → TI} {n : Nat} {ρ ρ' : Nat → Tag} {w w' : World} {E E' : Nat → Slot}
variable {R : (Nat → Slot) → Prop} {ops : Array Oper} {ld : List Nat} {i : Nat} {os : List Oper} {k : List Item} {l : Env} {s : Nat} {szs : List Nat}
variable {d : Nat} {op : Op} {ty : TypeId} {pos : String} {af : Array Edge}

def OpsR (P : Program) (Θ : TypeId → TI) (n : Nat) (R : (Nat → Slot) → Prop) (ops : Array Oper) (s : Nat) (szs : List Nat) (i : Nat) (os : List Oper) (k : List Item) (E : Nat → Slot) : Prop :=
  (∀ j, os[j]? = ops[i + j]?) → ∃ E1, ChainR P Θ n ops s szs (List.range' i os.length) E E1 ∧ Run P Θ n R k E1

omit [Tables] in
theorem shortL (h : (l.all fun x => shortR s x.2) = true) (u : Nat) : shortR s (lk l u) = true := by
  induction l with
  | nil => rfl
  | cons x l ih =>
    obtain ⟨v, y⟩ := x
    simp only [List.all_cons, Bool.and_eq_true] at h
    simp only [lk]
    split
    · exact h.1
    · exact ih h.2

theorem Run.opsR {id : Nat} {X : D} (hΘ : Agree P Θ) (hm : P.follows .mixedOrders = true) (hX : lk l s = .box X) (hS : ShS szs X) (hN : (l.all fun x => shortR s x.2) = true) (hok : orderOkR s ops = true) (h : OpsR P Θ n R ops s szs 0 ops.toList k (lk l)) : Run P Θ n R (.code (.region id ops true) :: k) (lk l) := by
  obtain ⟨E1, h1, h2⟩ := h (fun j => by simp)
  refine .raw (.ofR hΘ hm hok ⟨shortL hN, X, hX, hS⟩ ?_) h2
  rw [List.range_eq_range']
  simpa using h1

theorem OpsR.nil (h : Run P Θ n R k E) : OpsR P Θ n R ops s szs i [] k E := fun _ => ⟨E, .nil, h⟩
theorem OpsR.cons {o : Oper} (h1 : StepR P Θ n ops s szs E o E') (h : OpsR P Θ n R ops s szs (i + 1) os k E') : OpsR P Θ n R ops s szs i (o :: os) k E := by
  intro hj
  obtain ⟨E1, g1, g2⟩ := h (fun j => by have := hj (j + 1); simpa [Nat.add_assoc, Nat.add_comm 1 j] using this)
  refine ⟨E1, ?_, g2⟩
  rw [List.length_cons, List.range'_succ]
  exact .cons (by have := hj 0; simpa using this.symm) h1 g1

def quietR (n s : Nat) (l : Env) (o : Oper) (d : Nat) (x : Slot) : Bool := decide (d < n) && !owner (lk l d) && bare x && ((opTmps o).all fun k => (refers (lk l k)).isNone) && (!isAd o.op || !(opTmps o).contains s)
theorem OpsR.ev {x : Slot} (h : Ev P Θ (lk l) ⟨some d, op, ty, pos, af, none⟩ x) (hd : quietR n s l ⟨some d, op, ty, pos, af, none⟩ d x = true)
    (next : OpsR P Θ n R ops s szs (i + 1) os k (lk ((d, x) :: l))) : OpsR P Θ n R ops s szs i (⟨some d, op, ty, pos, af, none⟩ :: os) k (lk l) := by
  simp only [quietR, Bool.and_eq_true, decide_eq_true_eq, Bool.not_eq_true', List.all_eq_true, Option.isNone_iff_eq_none, Bool.or_eq_true, List.contains_eq_mem, decide_eq_false_iff_not] at hd
  obtain ⟨⟨⟨⟨h1, h2⟩, h3⟩, h4⟩, h5⟩ := hd
  exact .cons (.q (Wants.none rfl) rfl h1 h2 h h3 h4 fun ha => h5.resolve_left (by rw [ha]; simp)) next
theorem OpsR.q {x : Slot} {c : Prop} (h : evq Θ (lk l) ⟨some d, op, ty, pos, af, none⟩ = some (x, c)) (hd : quietR n s l ⟨some d, op, ty, pos, af, none⟩ d x = true) (hc : c)
    (next : OpsR P Θ n R ops s szs (i + 1) os k (lk ((d, x) :: l))) : OpsR P Θ n R ops s szs i (⟨some d, op, ty, pos, af, none⟩ :: os) k (lk l) := .ev (evq_sound h hc) hd next

theorem OpsR.mvB (hd : (decide (d < n) && !owner (lk l d)) = true) (next : OpsR P Θ n R ops s szs (i + 1) os k (lk ((d, .ref s []) :: l))) :
    OpsR P Θ n R ops s szs i (⟨some d, .move (.tmp s), ty, pos, af, none⟩ :: os) k (lk l) := by
  simp only [Bool.and_eq_true, decide_eq_true_eq, Bool.not_eq_true'] at hd
  refine .cons (.ad (Wants.none rfl) rfl hd.1 hd.2 rfl (by simp [shortR]) fun E2 _ hb => ?_) next
  obtain ⟨X, h1, _⟩ := hb
  exact .mvBox rfl h1
theorem OpsR.same {q : Nat} {p : List Nat} (ho : op = .move (.tmp q) ∨ op = .nilCheck (.tmp q)) (hq : lk l q = .ref s p) (hd : (decide (d < n) && !owner (lk l d) && q != s && decide (p.length ≤ 1)) = true) (next : OpsR P Θ n R ops s szs (i + 1) os k (lk ((d, .ref s p) :: l))) :
    OpsR P Θ n R ops s szs i (⟨some d, op, ty, pos, af, none⟩ :: os) k (lk l) := by
  simp only [Bool.and_eq_true, decide_eq_true_eq, Bool.not_eq_true', bne_iff_ne, ne_eq] at hd
  obtain ⟨⟨⟨h1, h2⟩, h3⟩, h4⟩ := hd
  refine .cons (.ad (Wants.none rfl) rfl h1 h2 (by rcases ho with rfl | rfl <;> rfl) (by simp [shortR, h4]) fun E2 he _ => ?_) next
  refine .mvSame (ho.imp id fun h => .inr h) (he q ?_ h3 |>.trans hq) rfl
  rcases ho with rfl | rfl <;> simp [opTmps, Op.operands, operand]
def faS (fs : List (TypeId × Nat)) (szs : List Nat) (f : Nat) : Bool := decide (f < szs.length) && match fs[f]? with | some (_, o) => o == (szs.take f).foldr (· + ·) 0 | none => false
theorem OpsR.fa {q f : Nat} {T : TypeId} {fs : List (TypeId × Nat)} (hq : q = s ∨ lk l q = .ref s []) (ht : (Θ T).td = .st fs) (hf : faS fs szs f = true) (hd : (decide (d < n) && !owner (lk l d)) = true) (next : OpsR P Θ n R ops s szs (i + 1) os k (lk ((d, .ref s [f]) :: l))) :
    OpsR P Θ n R ops s szs i (⟨some d, .fieldAddr T (.tmp q) f, ty, pos, af, none⟩ :: os) k (lk l) := by
  simp only [Bool.and_eq_true, decide_eq_true_eq, Bool.not_eq_true'] at hd
  simp only [faS, Bool.and_eq_true, decide_eq_true_eq] at hf
  refine .cons (.ad (Wants.none rfl) rfl hd.1 hd.2 rfl (by simp [shortR]) fun E2 he hb => ?_) next
  obtain ⟨X, h1, ds, rfl, rfl⟩ := hb
  have ha : Adr E2 q s [] (.st ds) := ⟨h1, by
    by_cases e : q = s
    · exact .inr ⟨e, rfl⟩
    · refine .inl ?_
      rw [he q (by simp [opTmps, Op.operands, operand]) e]
      exact hq.resolve_left e⟩
  have h2 := hf.2
  split at h2
  · next Tf o e =>
    refine .faBox (p := []) rfl ha rfl (by simpa using hf.1) ht (Tf := Tf) ?_
    rw [e, sizes_map, List.map_take]
    simpa using h2
  · cases h2
theorem OpsR.lod {q f : Nat} {T : TypeId} {X y : D} (hq : lk l q = .ref s [f]) (hX : lk l s = .box X) (hy : X.get [f] = y) (hd : (decide (d < n) && !owner (lk l d)) = true) (hf : (Θ T).fits y = true ∧ y.pl = true) (next : OpsR P Θ n R ops s szs (i + 1) os k (lk ((d, .d y) :: l))) :
    OpsR P Θ n R ops s szs i (⟨some d, .load T (.tmp q), ty, pos, af, none⟩ :: os) k (lk l) := by
  simp only [Bool.and_eq_true, decide_eq_true_eq, Bool.not_eq_true'] at hd
  subst hy
  refine .cons (.ld (Wants.none rfl) rfl hd.1 hd.2 rfl rfl ?_ fun E2 he hs => ?_) next
  · rfl
  · exact .ldBox (p := [f]) rfl ⟨by rw [hs, hX], .inl (by rw [he q (by simp [opTmps, Op.operands, operand]), hq])⟩ hf.1 hf.2
theorem OpsR.sto {q f : Nat} {T : TypeId} {X X' y : D} {x : Operand} {c : Prop} (hq : lk l q = .ref s [f]) (hX : lk l s = .box X) (hx : opOf (lk l) x = some (y, c)) (hX' : X.set [f] y = X') (hc : c) (hf : ((Θ T).fits y && (y.size == (X.get [f]).size) && (X.get [f]).noOwn) = true)
    (next : OpsR P Θ n R ops s szs (i + 1) os k (lk ((s, .box X') :: l))) : OpsR P Θ n R ops s szs i (⟨none, .store T (.tmp q) x, ty, pos, af, none⟩ :: os) k (lk l) := by
  simp only [Bool.and_eq_true, beq_iff_eq] at hf
  subst hX'
  exact .cons (.st rfl rfl rfl hq hX (opOf_sound hx hc) hf.1.1 hf.1.2 hf.2) next
theorem OpsR.say {q : Nat} {x y : D} (hE : lk l q = .d x) (h : x = y) (next : OpsR P Θ n R ops s szs i os k (lk ((q, .d y) :: l))) : OpsR P Θ n R ops s szs i os k (lk l) := by
  subst h; rwa [lk_same hE] at next

/-! ### Code that keeps slot t -/

def RunT (P : Program) (n t : Nat) (R : (Nat → Slot) → Prop) (k : List Item) (E : Nat → Slot) : Prop :=
  ∀ ρ w (a : Act) (b : Frame) (cs : List Frame), Inv n ρ w a.tmps E → ∃ a' w' k', Steps P (lone (b.at a k) cs w) (lone { b.at a' k' with mode := .returning } cs w') ∧ a'.defers = a.defers ∧ a'.tmps.getD t undef = a.tmps.getD t undef ∧
    ∃ ρ' E', Fr ρ w ρ' w' ∧ Inv n ρ' w' a'.tmps E' ∧ R E'
variable {t : Nat}
theorem RunT.ret (h : R E) : RunT P n t R (.code .ret :: k) E := fun ρ _ _ _ _ hI => ⟨_, _, _, .one step_ret, rfl, rfl, ρ, E, Fr.refl _ _, hI, h⟩
theorem RunT.seq {x y : Code} (h : RunT P n t R (.code x :: .code y :: k) E) : RunT P n t R (.code (.seq x y) :: k) E := by
  intro ρ w a b cs hI
  obtain ⟨a', w', k', h1, h2⟩ := h ρ w a b cs hI
  exact ⟨a', w', k', Steps.trans (.one step_seq) h1, h2⟩
theorem RunT.go {c : Code} (h : ∀ ρ w (a : Act), Inv n ρ w a.tmps E → c.wp P (Kept t (a.tmps.getD t undef) fun e a' w' => e = .normal ∧ After n ρ w a E' a' w') a w) (next : RunT P n t R k E') : RunT P n t R (.code c :: k) E := by
  intro ρ w a b cs hI
  obtain ⟨e, a1, w1, ⟨⟨rfl, h1, ρ1, h2, h3⟩, h4⟩, h5⟩ := h ρ w a hI b k cs
  obtain ⟨a', w', k', g1, g2, g3, ρ', E2, g4, g5, g6⟩ := next ρ1 w1 a1 b cs h3
  exact ⟨a', w', k', Steps.trans h5 g1, g2.trans h1, g3.trans (h4 rfl), ρ', E2, h2.trans g4, g5, g6⟩
omit [Tables] in
theorem dst_ne (hd : (ops.toList.all fun o => o.dst != some t) = true) (i : Nat) (o : Oper) (h : ops[i]? = some o) : o.dst ≠ some t := by
  rw [List.all_eq_true] at hd
  have := hd o (List.mem_of_getElem? (by rw [Array.getElem?_toList]; exact h))
  simpa using this
theorem RunT.told (h : Run P Θ n (fun E => RunT P n t R k E) [] E) : RunT P n t R k E := by
  intro ρ w a b cs hI
  obtain ⟨ρ1, E1, h1, h2, h3⟩ := h.nil_inv rfl ρ w a.tmps hI
  obtain ⟨a', w', k', g1, g2, g3, ρ', E2, g4, g5, g6⟩ := h3 ρ1 w a b cs h2
  exact ⟨a', w', k', g1, g2, g3, ρ', E2, h1.trans g4, g5, g6⟩
theorem RunT.ops0 {id : Nat} (hΘ : Agree P Θ) (hm : P.follows .mixedOrders = true) (hd : (ops.toList.all fun o => o.dst != some t) = true) (h : OpsAt P Θ n (fun E => RunT P n t R k E) ops (List.range ops.size) 0 ops.toList [] E) : RunT P n t R (.code (.region id ops false) :: k) E := by
  obtain ⟨E1, h1, h2⟩ := h (fun j => by simp) (fun j _ => by simp)
  refine .go (E' := E1) (fun ρ w a hI => Chain.regionT (Θ := Θ) (loud := List.range ops.size) (dst_ne hd) hΘ hm (fun h => by cases h) ?_ hI) (.told h2)
  rw [List.range_eq_range']
  simpa [List.range_eq_range'] using h1
theorem RunT.opsR {id : Nat} {X : D} (hΘ : Agree P Θ) (hm : P.follows .mixedOrders = true) (hX : lk l s = .box X) (hS : ShS szs X) (hN : (l.all fun x => shortR s x.2) = true) (hok : orderOkR s ops = true) (hd : (ops.toList.all fun o => o.dst != some t) = true)
    (h : OpsR P Θ n (fun E => RunT P n t R k E) ops s szs 0 ops.toList [] (lk l)) : RunT P n t R (.code (.region id ops true) :: k) (lk l) := by
  obtain ⟨E1, h1, h2⟩ := h (fun j => by simp)
  refine .go (E' := E1) (fun ρ w a hI => ChainR.regionT (Θ := Θ) (s := s) (szs := szs) (dst_ne hd) hΘ hm hok ⟨shortL hN, X, hX, hS⟩ ?_ hI) (.told h2)
  rw [List.range_eq_range']
  simpa using h1

open Classical in
/-- A function that is handed a box, by its code. -/
theorem BFun.ofRunT {f : FuncId} {fn : Func} {c : Code} {X X' : D} {ds : List D} {r : Value} (hf : P.funcs[f]? = some fn) (hb : fn.body = some c) (hn : (decide (ds.length + 1 ≤ fn.ntmps)) = true) (hno : X'.noOwn = true)
    (h : RunT P fn.ntmps 0 (fun E => E 0 = .box X' ∧ Ends P fn (.v r) E) [.code c] (lk ((0, .box X) :: initL 1 ds))) : BFun P f X ds r X' := by
  intro S w g0 cs0 vals hS hT hg hnS hbox hX hv
  have hlen := hv.len
  have hn' : ds.length + 1 ≤ fn.ntmps := by simpa using hn
  intro cs
  let p : Value := .pointer (some ⟨g0, 0, none⟩)
  let b : Frame := { (default : Frame) with fn := f, kind := .normal }
  let a : Act := { tmps := (p :: vals).toArray ++ Array.replicate (fn.ntmps - (p :: vals).toArray.size) undef, defers := [] }
  have henter : Frame.enter P f (p :: vals).toArray .normal = b.at a [.code c] := by simp [Frame.enter, Frame.at, hf, hb, b, a]
  let ρ0 : Nat → Tag := fun g => if g = g0 then .bx 0 else tagS S g
  have hsh : sh ρ0 = S := by
    funext g
    refine propext ⟨fun h => ?_, fun h => ?_⟩
    · simp only [sh, ρ0] at h
      by_cases e : g = g0
      · rw [if_pos e] at h; cases h
      · rw [if_neg e] at h
        exact Classical.byContradiction fun hs => by simp [tagS, hs] at h
    · have e : g ≠ g0 := by rintro rfl; exact hnS h
      simp [sh, ρ0, e, tagS, h]
  have hat : ∀ t, a.tmps.getD t undef = if t < vals.length + 1 then (p :: vals).getD t undef else a.tmps.getD t undef := fun t => by
    split
    · next ht =>
      have ht' : t < (p :: vals).length := by simpa using ht
      simp only [a, Array.getD_eq_getD_getElem?, Array.getElem?_append, List.size_toArray, ht', if_true, List.getElem?_toArray, List.getD_eq_getElem?_getD]
    · rfl
  have hp0 : a.tmps.getD 0 undef = p := by rw [hat, if_pos (by omega)]; rfl
  have hI : Inv fn.ntmps ρ0 w a.tmps (lk ((0, .box X) :: initL 1 ds)) := by
    refine ⟨by simp [a]; omega, fun g hgt => ?_, by rw [hsh]; exact hT, fun t => ?_⟩
    · by_cases e : g = g0
      · rw [e]; exact hg
      · simp only [ρ0, if_neg e] at hgt
        exact hS g (Classical.byContradiction fun hs => hgt (by simp [tagS, hs]))
    · simp only [lk]
      by_cases h0 : 0 = t
      · subst h0
        rw [if_pos rfl]
        refine ⟨g0, cs0, hp0, by simp [ρ0], hbox, RB.ofRp (by rw [hsh]; exact hX)⟩
      · rw [if_neg h0, lk_initL]
        have h1 : ¬ t < 1 := by omega
        simp only [h1, if_false, init]
        cases hd : ds[t - 1]? with
        | none => trivial
        | some d =>
          have ht : t - 1 < ds.length := (List.getElem?_eq_some_iff.1 hd).1
          obtain ⟨v, g1, g2⟩ := nth_map_vals hv ht
          have hgd : ds.getD (t - 1) un = d := by simp [hd]
          rw [hgd] at g2
          have hval : a.tmps.getD t undef = v := by
            rw [hat, if_pos (by omega)]
            obtain ⟨t', rfl⟩ : ∃ t', t = t' + 1 := ⟨t - 1, by omega⟩
            rw [List.getD_cons_succ, List.getD_eq_getElem?_getD]
            simp only [Nat.add_sub_cancel] at g1
            rw [g1]; rfl
          rw [hval]
          exact RD.rv (by rw [hsh]; exact g2)
  obtain ⟨a', w', k', h1, h2, h3, ρ', E', h4, h5, h6, h7⟩ := h ρ0 w a b cs hI
  obtain ⟨v, ρ2, q1, _, _, q4⟩ := h7 _ _ _ _ h5
  obtain ⟨g1, cs1, e1, e2, e3, e4⟩ := h5.box h6
  rw [h3, hp0] at e1
  have hgg : g1 = g0 := by simpa [p] using e1.symm
  subst hgg
  have hvr : v = r := ((RV.plain (by rfl)).1 q4).v
  subst hvr
  refine ⟨.returned v, w', _, ⟨rfl, sh ρ', cs1, fun g hg => h5.lt g (by simp only [sh] at hg; simp [hg]), fun g hlt => ⟨fun hs => ?_, fun hs => ?_⟩, fun g hlt hne => h4.old g hlt ?_, h4.os, h4.tape, h4.output, h4.size, e3, (RB.plain X' hno).1 e4⟩, (by rw [henter]; exact h1), rfl, rfl, by simp [Frame.at, h2, a], rfl, fn, hf, q1⟩
  · refine Classical.byContradiction fun hns => ?_
    by_cases e : g = g1
    · subst e; simp only [sh] at hs; rw [e2] at hs; cases hs
    · have := h4.oth g hlt (by simp [ρ0, e, tagS, hns])
      simp only [sh] at hs
      rw [this] at hs; cases hs
  · exact h4.shd g (by have : sh ρ0 g := by rw [hsh]; exact hs
                       exact this)
  · by_cases hs : S g
    · exact .inl (by simp [ρ0, hne, tagS, hs])
    · exact .inr (by simp [ρ0, hne, tagS, hs])

/-! ### max and min of two numbers -/

omit [Tables] in
theorem ExD_max {o : Oper} {x y : Operand} {T U : TypeId} {p q : Int} (ho : o.op = .call { callee := .builtin .max, args := #[x, y], argTypes := #[T, U] }) : ExD P o [(x, .v (.int .i64 p)), (y, .v (.int .i64 q))] (.v (.int .i64 (max p q))) := by
  intro S w ev _ h
  have h1 := (h (x, .v (.int .i64 p)) (by simp)).v
  have h2 := (h (y, .v (.int .i64 q)) (by simp)).v
  simp only at h1 h2
  refine ⟨.int .i64 (max p q), ?_, RD.ofV rfl⟩
  simp [execOp, ho, resolve, invoke, builtin, Builtin.max_, Builtin.max2, h1, h2]
  split <;> omega
omit [Tables] in
theorem ExD_min {o : Oper} {x y : Operand} {T U : TypeId} {p q : Int} (ho : o.op = .call { callee := .builtin .min, args := #[x, y], argTypes := #[T, U] }) : ExD P o [(x, .v (.int .i64 p)), (y, .v (.int .i64 q))] (.v (.int .i64 (min p q))) := by
  intro S w ev _ h
  have h1 := (h (x, .v (.int .i64 p)) (by simp)).v
  have h2 := (h (y, .v (.int .i64 q)) (by simp)).v
  simp only at h1 h2
  refine ⟨.int .i64 (min p q), ?_, RD.ofV rfl⟩
  simp [execOp, ho, resolve, invoke, builtin, Builtin.min_, Builtin.min2, h1, h2]
  split <;> omega
theorem Ev.max {o : Oper} {x y : Operand} {T U : TypeId} {p q : Int} {c c' : Prop} (ho : o.op = .call { callee := .builtin .max, args := #[x, y], argTypes := #[T, U] }) (hx : opOf E x = some (.v (.int .i64 p), c)) (hy : opOf E y = some (.v (.int .i64 q), c')) (hc : c ∧ c') : Ev P Θ E o (.d (.v (.int .i64 (Max.max p q)))) :=
  .plain (xs := [(x, .v (.int .i64 p)), (y, .v (.int .i64 q))]) (fun z hz => by
    simp only [List.mem_cons, List.not_mem_nil, or_false] at hz
    rcases hz with rfl | rfl
    · exact ⟨opOf_sound hx hc.1, by simp [ho, Op.operands, Call.operands]⟩
    · exact ⟨opOf_sound hy hc.2, by simp [ho, Op.operands, Call.operands]⟩) (ExD_max ho)
theorem Ev.min {o : Oper} {x y : Operand} {T U : TypeId} {p q : Int} {c c' : Prop} (ho : o.op = .call { callee := .builtin .min, args := #[x, y], argTypes := #[T, U] }) (hx : opOf E x = some (.v (.int .i64 p), c)) (hy : opOf E y = some (.v (.int .i64 q), c')) (hc : c ∧ c') : Ev P Θ E o (.d (.v (.int .i64 (Min.min p q)))) :=
  .plain (xs := [(x, .v (.int .i64 p)), (y, .v (.int .i64 q))]) (fun z hz => by
    simp only [List.mem_cons, List.not_mem_nil, or_false] at hz
    rcases hz with rfl | rfl
    · exact ⟨opOf_sound hx hc.1, by simp [ho, Op.operands, Call.operands]⟩
    · exact ⟨opOf_sound hy hc.2, by simp [ho, Op.operands, Call.operands]⟩) (ExD_min ho)
end Go.Dat

namespace Go.Dat

variable [Tables]

variable {P : Program} {Θ : TypeId → TI} {n : Nat} {ρ : Nat → Tag} {w : World} {E : Nat → Slot}

theorem OpD.flat0 {a : Act} {y : Operand} {d : D} (hI : Inv n ρ w a.tmps E) (hy : OpD E y d) (hf : d.flatv = true) (S : Nat → Prop) (w' : World) : ∃ cs, Rp S w' d cs ∧ VC d (a.eval y) cs := by
  obtain ⟨cs, h1, h2⟩ := hy.sound hI
  exact ⟨cs, Rp.flatv d hf h1, h2⟩

omit [Tables] in
theorem mapPut_run {T T1 T2 : TypeId} {b c : Nat} {es : Array MapEntry} {k k0 : IntKind} {i : Int} {m : List (Int × D)} {d : D} {v : Value} (hT : P.underlying T = some (.map T1 T2)) (h1 : P.underlying T1 = some (.int k0)) (hb : w.heap[b]? = some (.map es c))
    (hr : MapRow k es.toList m) (hd : ∀ (S : Nat → Prop) (w : World), ∃ cs, Rp S w d cs ∧ VC d v cs) :
    ∃ es' c', (Instr.mapUpdate T (.map (some b)) (.int k i) v).run P w = .ok () { w with heap := w.heap.setIfInBounds b (.map es' c') } ∧ MapRow k es'.toList (mput m i d) := by
  have hset : ∀ o, (setObj b o).run P w = .ok () { w with heap := w.heap.setIfInBounds b o } := fun o => by simp [setObj, Sem.run, hb]
  cases hm : mget m i with
  | some d0 =>
    obtain ⟨j, e, g1, g2, _, g4, g5⟩ := mapRow_some (k0 := k0) hr hm
    refine ⟨es.modify j fun e => { e with key := .int k i, val := v }, c, ?_, by rw [Array.toList_modify]; exact g5 d v hd⟩
    have g1' : es[j]? = some e := by rw [← Array.getElem?_toList]; exact g1
    have hsame : Instr.sameBits 10000 (.int k i) (.int k i) = true := by simp [Instr.sameBits]
    have f0 := g4 0
    rw [Nat.zero_add] at f0
    simp only [Instr.mapUpdate, Sem.run_bind, run_underlying hT, Result.andThen_ok, getMap_run hb, checkKey_run h1, findKey_run h1 f0, Instr.keyThatStays, g1', g2, Option.map_some, Option.getD_some, hsame, if_true, Sem.run_pure, hset]
  | none =>
    obtain ⟨g1, g2⟩ := mapRow_none (k0 := k0) hr hm
    refine ⟨es.push { key := .int k i, val := v, born := c }, c + 1, ?_, by rw [Array.toList_push]; exact g2 d v c hd⟩
    simp only [Instr.mapUpdate, Sem.run_bind, run_underlying hT, Result.andThen_ok, getMap_run hb, checkKey_run h1, findKey_run h1 (g1 0), hset]

theorem RawOp.mapPut {o : Oper} {q s : Nat} {k k0 : IntKind} {m : List (Int × D)} {i : Int} {T T1 T2 : TypeId} {d : D} {x y : Operand} (hd : o.dst = none) (ho : o.op = .mapUpdate T (.tmp q) x y) (hq : E q = .mq s) (hs : E s = .mp k m)
    (hT : P.underlying T = some (.map T1 T2)) (hT1 : P.underlying T1 = some (.int k0)) (hx : OpD E x (.v (.int k i))) (hy : OpD E y d) (hf : d.flatv = true) :
    RawOp P n E o (upd (kill (fun _ => false) E) s (.mp k (mput m i d))) := by
  intro ρ w a Q hI
  obtain ⟨b, h1, h2, es, c, h3, h4⟩ := hI.map hs
  have hxv := (hx.sound hI).v
  obtain ⟨es', c', h5, h6⟩ := mapPut_run (i := i) hT hT1 h3 h4 (hy.flat0 hI hf)
  have hqv : a.eval (.tmp q) = .map (some b) := (hI.mapQ hq).trans h1
  refine oper_skip (w' := { w with heap := w.heap.setIfInBounds b (.map es' c') }) ?_ ?_
  · simp only [execOp, ho, hqv, hxv, Sem.run_bind, h5]
    rfl
  rw [put_none hd]
  have hblt : b < w.heap.size := hI.lt b (by rw [h2]; simp)
  have hheap : ∀ g, g ≠ b → (w.heap.setIfInBounds b (.map es' c'))[g]? = w.heap[g]? := fun g hg => by rw [Array.getElem?_setIfInBounds]; simp [Ne.symm hg]
  have hnew : (w.heap.setIfInBounds b (.map es' c'))[b]? = some (.map es' c') := by rw [Array.getElem?_setIfInBounds]; simp [hblt]
  have hsh : ∀ g, ρ g = .sh → ρ g = .sh ∧ (w.heap.setIfInBounds b (.map es' c'))[g]? = w.heap[g]? := fun g hg => ⟨hg, hheap g (by rintro rfl; rw [h2] at hg; cases hg)⟩
  refine ⟨rfl, ρ, ⟨fun _ h => h, fun _ _ h => h, fun g _ hg => hheap g (by rintro rfl; rw [h2] at hg; rcases hg with h | h <;> cases h), rfl, rfl, rfl, by simp⟩, hI.size, fun g hg => by simpa using hI.lt g hg, hI.tab.mono hsh, fun u => ?_⟩
  by_cases hu : s = u
  · subst hu
    simp only [upd, if_true]
    exact ⟨b, h1, h2, es', c', hnew, h6⟩
  · simp only [upd, hu, if_false]
    by_cases hz : kill (fun _ => false) E u = .un
    · rw [hz]; trivial
    obtain ⟨k1, _⟩ := kill_eq hz
    have hslot := hI.slot u
    rw [k1]
    have hE1 : ∀ s', s' ≠ s → owner (E s') = true → upd (kill (fun _ => false) E) s (.mp k (mput m i d)) s' = E s' := fun s' h h' => by
      simp only [upd, if_neg (Ne.symm h), kill, isWk_owner h', Bool.or_false, Bool.false_eq_true, if_false]
    by_cases hr : refers (E u) = some s
    · cases hE : E u with
      | mq s' =>
        rw [hE] at hr hslot
        simp only [refers, Option.some.injEq] at hr
        subst hr
        obtain ⟨_, _, _, h⟩ := hslot
        exact ⟨k, mput m i d, by simp [upd], h⟩
      | ref s' p =>
        rw [hE] at hr hslot
        simp only [refers, Option.some.injEq] at hr
        subst hr
        obtain ⟨x', b', g1, _⟩ := hslot
        rw [hs] at g1; cases g1
      | view s' p =>
        rw [hE] at hr hslot
        simp only [refers, Option.some.injEq] at hr
        subst hr
        obtain ⟨_, _, _, _, g⟩ := hslot
        rcases g with ⟨g, _⟩ | ⟨x', b', g, _⟩ <;> (rw [hs] at g; cases g)
      | elt s' p i' q' =>
        rw [hE] at hr hslot
        simp only [refers, Option.some.injEq] at hr
        subst hr
        obtain ⟨_, _, _, _, _, _, _, g, _⟩ := hslot
        rcases g with ⟨g, _⟩ | ⟨x', b', g, _⟩ <;> (rw [hs] at g; cases g)
      | sub s' p i' j' =>
        rw [hE] at hr hslot
        simp only [refers, Option.some.injEq] at hr
        subst hr
        obtain ⟨_, _, _, _, _, _, _, g, _⟩ := hslot
        rcases g with ⟨g, _⟩ | ⟨x', b', g, _⟩ <;> (rw [hs] at g; cases g)
      | _ => rw [hE] at hr; simp [refers] at hr
    · refine hslot.keep hI hsh (fun g r hg => ⟨hg, hheap g (by rintro rfl; rw [h2] at hg; cases hg)⟩) (fun g hg => ⟨hg, hheap g (by rintro rfl; rw [h2] at hg; cases hg; exact hu rfl)⟩) (fun s' hs' => ?_) (.inl (by rw [← k1]; exact kill_nwk))
      have h2' : s' ≠ s := by rintro rfl; exact hr hs'
      exact ⟨hE1 s' h2' (hI.refOwner hs'), rfl, fun g hg => hheap g (by rintro rfl; rw [h2] at hg; cases hg; exact h2' rfl)⟩

section
variable {R : (Nat → Slot) → Prop} {ops : Array Oper} {ld : List Nat} {i : Nat} {os : List Oper} {K : List Item} {l : Env} {ty : TypeId} {pos : String} {af : Array Edge}

theorem OpsAt.mapPut {q s : Nat} {k k0 : IntKind} {m : List (Int × D)} {j : Int} {T T1 T2 : TypeId} {d : D} {x y : Operand} {c1 c2 : Prop} (hq : lk l q = .mq s) (hs : lk l s = .mp k m) (hT : P.underlying T = some (.map T1 T2)) (hT1 : P.underlying T1 = some (.int k0))
    (hx : opOf (lk l) x = some (.v (.int k j), c1)) (hy : opOf (lk l) y = some (d, c2)) (hc : c1 ∧ c2) (hf : d.flatv = true) (hl : ld.contains i = true)
    (next : OpsAt P Θ n R ops ld (i + 1) os K (lk ((s, .mp k (mput m j d)) :: killL (fun _ => false) l))) :
    OpsAt P Θ n R ops ld i (⟨none, .mapUpdate T (.tmp q) x y, ty, pos, af, none⟩ :: os) K (lk l) := by
  have h := RawOp.mapPut (P := P) (n := n) (o := ⟨none, .mapUpdate T (.tmp q) x y, ty, pos, af, none⟩) rfl rfl hq hs hT hT1 (opOf_sound hx hc.1) (opOf_sound hy hc.2) hf
  rw [kill_lk, upd_lk] at h
  refine .rw_ h ?_ rfl hl next
  intro u x hu _
  have h2 : ¬ s = u := by rintro rfl; rw [hs] at hu; cases hu
  have e : lk (killL (fun _ => false) l) = kill (fun _ => false) (lk l) := (kill_lk (f := fun _ => false) (l := l)).symm
  have : lk (killL (fun _ => false) l) u = .d (.v x) := by
    rw [e]
    exact kill_v (fun _ h => by cases h) hu
  simp only [lk, h2, if_false]
  exact this

theorem Ev.look {dd : Option Nat} {g : Option (Nat × Bool)} {q s : Nat} {k k0 : IntKind} {m : List (Int × D)} {j : Int} {T T1 T2 : TypeId} {d : D} {x : Operand} {c : Prop} (hq : lk l q = .mq s) (hs : lk l s = .mp k m) (hT : P.underlying T = some (.map T1 T2)) (hT1 : P.underlying T1 = some (.int k0))
    (hx : opOf (lk l) x = some (.v (.int k j), c)) (hc : c) (hm : mget m j = some d) (hp : d.pl = true) : Ev P Θ (lk l) ⟨dd, .lookup T (.tmp q) x false, ty, pos, af, g⟩ (.d d) :=
  .lookup rfl hq hs hT hT1 (opOf_sound hx hc) hm hp
theorem Ev.lookNo {dd : Option Nat} {g : Option (Nat × Bool)} {q s : Nat} {k k0 : IntKind} {m : List (Int × D)} {j : Int} {T T1 T2 : TypeId} {x : Operand} {c : Prop} (hq : lk l q = .mq s) (hs : lk l s = .mp k m) (hT : P.underlying T = some (.map T1 T2)) (hT1 : P.underlying T1 = some (.int k0))
    (hx : opOf (lk l) x = some (.v (.int k j), c)) (hc : c) (hm : mget m j = none) (hz : ((Θ T2).known && (Θ T2).z.pl) = true) : Ev P Θ (lk l) ⟨dd, .lookup T (.tmp q) x false, ty, pos, af, g⟩ (.d (Θ T2).z) := by
  rw [Bool.and_eq_true] at hz
  exact .lookupNo rfl hq hs hT hT1 (opOf_sound hx hc) hm hz.1 hz.2
end
end Go.Dat
