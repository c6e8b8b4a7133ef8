/- The operations that leave what is there alone, each with what it yields. No conditions. -/
import Derived.Test.YtopmpbdjnkomoaaK4
namespace Go.Dat

variable [Tables]

variable {P : Program} {Θ : TypeId → TI} {n : Nat} {ρ ρ' : Nat → Tag} {w w' : World} {E : Nat → Slot} {t : Nat} {u : Value}

/-- Slot k is an address in the box of slot s. -/
def Adr (E : Nat → Slot) (k s : Nat) (p : List Nat) (x : D) : Prop := E s = .box x ∧ (E k = .ref s p ∨ (k = s ∧ p = []))
/-- Slot k is the own slice at (s, p). -/
def Vw (E : Nat → Slot) (k s : Nat) (p : List Nat) (nl : Bool) (e es : Nat) (xs : List D) : Prop :=
  (E k = .view s p ∧ (E s = .d (.own nl e es xs) ∨ ∃ x, E s = .box x ∧ x.get p = .own nl e es xs)) ∨ (E k = .d (.own nl e es xs) ∧ k = s ∧ p = [])
/-- Slot k is an address in an element of the own slice at (s, p). -/
def Elt (E : Nat → Slot) (k s : Nat) (p : List Nat) (i : Nat) (q : List Nat) (nl : Bool) (e es : Nat) (xs : List D) : Prop :=
  E k = .elt s p i q ∧ ((E s = .d (.own nl e es xs)) ∨ ∃ x, E s = .box x ∧ x.get p = .own nl e es xs)

def Same (s : Slot) : Bool := match s with | .ref _ _ => true | .view _ _ => true | .elt _ _ _ _ => true | .sub _ _ _ _ => true | _ => false

def BinD (P : Program) (op : BinOp) (T : TypeId) (x y : Operand) (a b z : D) : Prop :=
  ∀ (S : Nat → Prop) w u v, RD S w a u → RD S w b v → ∃ q, (do eqGuard op T x y u v; binOp op T u v : Sem Value).run P w = .ok q w ∧ RD S w z q
def UnD (P : Program) (op : UnOp) (a z : D) : Prop := ∀ (S : Nat → Prop) w u, RD S w a u → ∃ q, (Op.unary op u).run P w = .ok q w ∧ RD S w z q
def CvD (P : Program) (src dst : TypeId) (a z : D) : Prop := ∀ (S : Nat → Prop) w u, RD S w a u → ∃ q, (convert src dst u).run P w = .ok q w ∧ RD S w z q
/-- An operation over plain values: what a call of a builtin, an index, a slice expression comes to. -/
def ExD (P : Program) (o : Oper) (xs : List (Operand × D)) (z : D) : Prop :=
  ∀ (S : Nat → Prop) w (ev : Operand → Value), (∀ c, ev (.const c) = c) → (∀ x ∈ xs, RD S w x.2 (ev x.1)) → ∃ q, (execOp ev o).run P w = .ok (.value q) w ∧ RD S w z q

/-- An operand that is a slice, whose elements are these. -/
inductive Src (E : Nat → Slot) : Operand → Nat → List D → Prop
  | lst {x k es ys} : OpD E x (.lst k es ys) → Src E x es ys
  | vw {k s p nl e es ys} : Vw E k s p nl e es ys → Src E (.tmp k) es ys
  | sub {k s i j nl e es xs} : E k = .sub s [] i j → E s = .d (.own nl e es xs) → Src E (.tmp k) es ((xs.take j).drop i)

/-- Arguments, own slices among them, that are looked at alone. -/
inductive BArgs (E : Nat → Slot) : List Operand → List D → Prop
  | nil : BArgs E [] []
  | plain {o x os xs} : OpD E o x → BArgs E os xs → BArgs E (o :: os) (x :: xs)
  | own {k s p nl e es xs os ds} : Vw E k s p nl e es xs → 0 < es → BArgs E os ds → BArgs E (.tmp k :: os) (.lst .any es xs :: ds)

mutual
/-- It holds plain cells alone. -/
def D.flatv : D → Bool
  | .v _ => true
  | .st ds => flatvs ds
  | .arr _ ds => flatvs ds
  | .tup ds => flatvs ds
  | .dead _ => true
  | _ => false
def flatvs : List D → Bool
  | [] => true
  | d :: ds => d.flatv && flatvs ds
end

/-- It holds plain cells alone, or is a new slice of such. -/
def D.fl : D → Bool
  | .own _ _ _ xs => flatvs xs
  | d => d.flatv

def D.isTup : D → Bool
  | .tup _ => true
  | _ => false

/-- What an operand reads as, to one who only reads. -/
inductive WOp (E : Nat → Slot) : Operand → D → Prop
  | pl {o x} : OpD E o x → WOp E o x
  | wk {k x} : E k = .wk x → x.isTup = false → WOp E (.tmp k) x
  | adr {k s p x} : Adr E k s p x → WOp E (.tmp k) (.pt (x.get p).lend)
  | vw {k s p nl e es xs} : Vw E k s p nl e es xs → WOp E (.tmp k) (.lst .any es xs)
  | elt {k s p i q nl e es xs} : Elt E k s p i q nl e es xs → WOp E (.tmp k) (.pt ((xs.getD i un).get q))

inductive WOps (E : Nat → Slot) : List Operand → List D → Prop
  | nil : WOps E [] []
  | cons {o x os xs} : WOp E o x → WOps E os xs → WOps E (o :: os) (x :: xs)

/-- A bound of a slice expression. -/
inductive Bnd (E : Nat → Slot) : Option Operand → Nat → Nat → Prop
  | no {d} : Bnd E none d d
  | at {x d k v} : OpD E x (.v (.int k v)) → 0 ≤ v → Bnd E (some x) d v.toNat

inductive Ev (P : Program) (Θ : TypeId → TI) (E : Nat → Slot) : Oper → Slot → Prop
  | mv {o x d} : (o.op = .move x ∨ o.op = .assign x) → OpD E x d → Ev P Θ E o (.d d)
  | mvBox {o s x} : o.op = .move (.tmp s) → E s = .box x → Ev P Θ E o (.ref s [])
  | mvOwn {o s nl e es xs} : o.op = .move (.tmp s) → E s = .d (.own nl e es xs) → Ev P Θ E o (.view s [])
  | mvSame {o k s} : (o.op = .move (.tmp k) ∨ o.op = .assign (.tmp k) ∨ o.op = .nilCheck (.tmp k)) → E k = s → Same s = true → Ev P Θ E o s
  | mvTup {o k ds} : o.op = .move (.tmp k) → E k = .d (.tup ds) → noOwns ds = true → Ev P Θ E o (.d (.tup ds))
  | pickT {o c x y d} : o.op = .pick c x y → OpD E c (.v (.bool true)) → OpD E x d → Ev P Θ E o (.d d)
  | pickF {o c x y d} : o.op = .pick c x y → OpD E c (.v (.bool false)) → OpD E y d → Ev P Θ E o (.d d)
  | alloc {o T} : o.op = .alloc T → (Θ T).known = true → Ev P Θ E o (.box (Θ T).z)
  | box {o T x d} : o.op = .box T x → OpD E x d → Ev P Θ E o (.box d)
  | ldBox {o T k s p x} : o.op = .load T (.tmp k) → Adr E k s p x → (Θ T).fits (x.get p) = true → (x.get p).pl = true → Ev P Θ E o (.d (x.get p))
  | ldView {o T k s p x nl e es xs} : o.op = .load T (.tmp k) → Adr E k s p x → x.get p = .own nl e es xs → (Θ T).fits (.own nl e es xs) = true → Ev P Θ E o (.view s p)
  | ldElt {o T k s p i q nl e es xs} : o.op = .load T (.tmp k) → Elt E k s p i q nl e es xs → (Θ T).fits ((xs.getD i un).get q) = true → Ev P Θ E o (.d ((xs.getD i un).get q))
  | ldPt {o T k x} : o.op = .load T (.tmp k) → E k = .d (.pt x) → (Θ T).fits x = true → Ev P Θ E o (.d x)
  | faBox {o T k f s p x ds fs Tf} : o.op = .fieldAddr T (.tmp k) f → Adr E k s p x → x.get p = .st ds → f < ds.length → (Θ T).td = .st fs → fs[f]? = some (Tf, sizes (ds.take f)) → Ev P Θ E o (.ref s (p ++ [f]))
  | faElt {o T k f s p i q nl e es xs ds fs Tf} : o.op = .fieldAddr T (.tmp k) f → Elt E k s p i q nl e es xs → (xs.getD i un).get q = .st ds → f < ds.length → (Θ T).td = .st fs → fs[f]? = some (Tf, sizes (ds.take f)) →
      Ev P Θ E o (.elt s p i (q ++ [f]))
  | faPt {o T k f ds fs Tf} : o.op = .fieldAddr T (.tmp k) f → E k = .d (.pt (.st ds)) → f < ds.length → (Θ T).td = .st fs → fs[f]? = some (Tf, sizes (ds.take f)) → Ev P Θ E o (.d (.pt (ds.getD f un)))
  | iaBox {o T k ix s p x es ds ik i e} : o.op = .indexAddr T (.tmp k) ix → Adr E k s p x → x.get p = .arr es ds → OpD E ix (.v (.int ik i)) → 0 ≤ i → i.toNat < ds.length → (Θ T).td = .ar ds.length e es →
      Ev P Θ E o (.ref s (p ++ [i.toNat]))
  | iaPt {o T k ix es ds ik i e} : o.op = .indexAddr T (.tmp k) ix → E k = .d (.pt (.arr es ds)) → OpD E ix (.v (.int ik i)) → 0 ≤ i → i.toNat < ds.length → (Θ T).td = .ar ds.length e es → Ev P Θ E o (.d (.pt (ds.getD i.toNat un)))
  | iaLst {o T x ix sk es xs ik i e b} : o.op = .indexAddr T x ix → OpD E x (.lst sk es xs) → OpD E ix (.v (.int ik i)) → 0 ≤ i → i.toNat < xs.length → (Θ T).td = .sl e es b → Ev P Θ E o (.d (.pt (xs.getD i.toNat un)))
  | iaView {o T k ix s p nl e es xs ik i e' b} : o.op = .indexAddr T (.tmp k) ix → Vw E k s p nl e es xs → OpD E ix (.v (.int ik i)) → 0 ≤ i → i.toNat < xs.length → (Θ T).td = .sl e' es b → Ev P Θ E o (.elt s p i.toNat [])
  | buildSlice {o T len e es b} {parts : Array (Nat × Operand)} {xs : List D} : o.op = .buildSlice T len parts → OpDs E (parts.toList.map (·.2)) xs → parts.toList.map (·.1) = List.range len → (Θ T).td = .sl e es b →
      (∀ x ∈ xs, x.size = es) → len * es ≤ 16777216 → Ev P Θ E o (.d (.own false e es xs))
  | buildShared {o T len e es b} {parts : Array (Nat × Operand)} {xs : List D} : o.op = .buildSlice T len parts → OpDs E (parts.toList.map (·.2)) xs → parts.toList.map (·.1) = List.range len → (Θ T).td = .sl e es b →
      (∀ x ∈ xs, x.size = es) → len * es ≤ 16777216 → Ev P Θ E o (.d (.lst .any es xs))
  | build {o T fs zs} {parts : Array (Nat × Operand)} {xs : List D} : o.op = .build T parts → OpDs E (parts.toList.map (·.2)) xs → (Θ T).td = .st fs → (Θ T).z = .st zs →
      (∀ ix ∈ (parts.toList.map (·.1)).zip xs, ∃ Tf, fs[ix.1]? = some (Tf, sizes (zs.take ix.1)) ∧ (Θ Tf).fits ix.2 = true ∧ ix.1 < zs.length ∧ (zs.getD ix.1 un).size = ix.2.size) →
      Ev P Θ E o (.d (.st (built zs ((parts.toList.map (·.1)).zip xs))))
  | bin {o op T x y T2 a b z} : o.op = .binOp op T x y T2 → OpD E x a → OpD E y b → BinD P op T x y a b z → Ev P Θ E o (.d z)
  | uno {o op T x a z} : o.op = .unOp op T x → OpD E x a → UnD P op a z → Ev P Θ E o (.d z)
  | cv {o src dst x a z} : o.op = .convert src dst x → OpD E x a → CvD P src dst a z → Ev P Θ E o (.d z)
  | mf {o f first cap fs cs} : o.op = .makeFunc f first cap → OpDs E first.toList fs → OpDs E cap.toList cs → Ev P Θ E o (.d (.fn f fs cs))
  | ext {o k i ds} : o.op = .extract (.tmp k) i → E k = .d (.tup ds) → i < ds.length → (ds.getD i un).pl = true → Ev P Θ E o (.d (ds.getD i un))
  | lenView {o k T s p nl e es xs e' es' b} : o.op = .call { callee := .builtin .len, args := #[.tmp k], argTypes := #[T] } → Vw E k s p nl e es xs → (Θ T).td = .sl e' es' b → Ev P Θ E o (.d (.v (.int .i64 xs.length)))
  | subView {o T k lo hi s p nl e es xs e' b i j} : o.op = .slice T (.tmp k) lo hi none → Vw E k s p nl e es xs → (Θ T).td = .sl e' es b → Bnd E lo 0 i → Bnd E hi xs.length j → i ≤ j → j ≤ xs.length → Ev P Θ E o (.sub s p i j)
  | lenSub {o k T s p i j e' es' b} : o.op = .call { callee := .builtin .len, args := #[.tmp k], argTypes := #[T] } → E k = .sub s p i j → (Θ T).td = .sl e' es' b → Ev P Θ E o (.d (.v (.int .i64 ((j - i : Nat) : Int))))
  | iaSub {o T k ix s p i j nl e es xs ik m e' b} : o.op = .indexAddr T (.tmp k) ix → E k = .sub s p i j → (E s = .d (.own nl e es xs)) → p = [] → OpD E ix (.v (.int ik m)) → 0 ≤ m → m.toNat < j - i → (Θ T).td = .sl e' es b → Ev P Θ E o (.elt s p (i + m.toNat) [])
  | mk {o T l c e es b kl kc m z} : o.op = .makeSlice T l c → OpD E l (.v (.int kl m)) → OpD E c (.v (.int kc m)) → (Θ T).td = .sl e es b → (Θ e).known = true → (Θ e).z = z → 0 ≤ m → m.toNat * b ≤ 281474976710656 → m.toNat ≤ maxLen →
      Ev P Θ E o (.d (.own false e es (List.replicate m.toNat z)))
  | plain {o z} {xs : List (Operand × D)} : (∀ x ∈ xs, OpD E x.1 x.2 ∧ x.1 ∈ o.op.operands.toList) → ExD P o xs z → Ev P Θ E o (.d z)
  | appNil {o x T e es b es' ys} {s : Operand} : o.op = .call { callee := .builtin .append, args := #[s, x], argTypes := #[T, T] } → OpD E s (.lst .nl es' []) → Src E x es ys → (Θ T).td = .sl e es b → ys.length * b ≤ 140737488355328 → ys.length ≤ maxLen →
      Ev P Θ E o (.d (.own ys.isEmpty e es ys))
  | callB {o fo args ts f fs cs ds r} : o.op = .call { callee := .value fo, args := args, argTypes := ts } → OpD E fo (.fn (.func f) fs cs) → BArgs E args.toList ds → Callable P f → DFun P f (fs ++ ds ++ cs) r → r.flatv = true → Ev P Θ E o (.d r)
  | call {o fo args ts f fs cs ds r} : o.op = .call { callee := .value fo, args := args, argTypes := ts } → OpD E fo (.fn (.func f) fs cs) → OpDs E args.toList ds → Callable P f → DFun P f (fs ++ ds ++ cs) r → Ev P Θ E o (.d r)
  | wmv {o k x} : (o.op = .move (.tmp k) ∨ o.op = .assign (.tmp k)) → E k = .wk x → Ev P Θ E o (.wk x)
  | wplain {o z} {xs : List (Operand × D)} : (∀ x ∈ xs, WOp E x.1 x.2 ∧ x.1 ∈ o.op.operands.toList) → ExD P o xs z → Ev P Θ E o (.wk z)
  | wplainF {o z} {xs : List (Operand × D)} : (∀ x ∈ xs, WOp E x.1 x.2 ∧ x.1 ∈ o.op.operands.toList) → ExD P o xs z → z.flatv = true → Ev P Θ E o (.d z)
  | wmf {o f first cap fs cs} : o.op = .makeFunc f first cap → WOps E first.toList fs → WOps E cap.toList cs → Ev P Θ E o (.wk (.fn f fs cs))
  | wext {o k i ds} : o.op = .extract (.tmp k) i → E k = .wk (.tup ds) → i < ds.length → Ev P Θ E o (.wk (ds.getD i un))
  | wextF {o k i ds} : o.op = .extract (.tmp k) i → E k = .wk (.tup ds) → i < ds.length → (ds.getD i un).flatv = true → Ev P Θ E o (.d (ds.getD i un))
  | wcall {o fo args ts f fs cs ds r} : o.op = .call { callee := .value fo, args := args, argTypes := ts } → WOp E fo (.fn (.func f) fs cs) → WOps E args.toList ds → Callable P f → DFun P f (fs ++ ds ++ cs) r → r.fl = true → Ev P Θ E o (.d r)
  | wcallW {o fo args ts f fs cs ds r} : o.op = .call { callee := .value fo, args := args, argTypes := ts } → WOp E fo (.fn (.func f) fs cs) → WOps E args.toList ds → Callable P f → DFun P f (fs ++ ds ++ cs) r → r.noOwn = true → Ev P Θ E o (.wk r)

omit [Tables] in
theorem BoxAt.mem {b : Nat} {cs : List Value} (h : BoxAt w b cs) : Mem w b 0 cs := by
  obtain ⟨e, h⟩ := h
  refine Mem.ofAt fun j v hj => ?_
  rw [cell_of_row w b _ _ _ _ h]
  simpa using hj

/-- An address in a box: where it is, and what lies there. -/
theorem Adr.sound {tmps : Array Value} {k s : Nat} {p : List Nat} {x : D} (hI : Inv n ρ w tmps E) (h : Adr E k s p x) :
    ∃ b cs, tmps.getD s undef = .pointer (some ⟨b, 0, none⟩) ∧ tmps.getD k undef = .pointer (some ⟨b, x.off p, none⟩) ∧ ρ b = .bx s ∧ BoxAt w b cs ∧ RB ρ w s [] x cs ∧ x.okp p := by
  obtain ⟨h1, h2⟩ := h
  obtain ⟨b, cs, g1, g2, g3, g4⟩ := hI.box h1
  rcases h2 with h2 | ⟨rfl, rfl⟩
  · have := hI.slot k
    rw [h2] at this
    obtain ⟨x', b', e1, e2, e3, e4⟩ := this
    rw [h1] at e1
    cases e1
    rw [g1] at e3
    cases e3
    exact ⟨b, cs, g1, e4, g2, g3, g4, e2⟩
  · exact ⟨b, cs, g1, by simpa [D.off] using g1, g2, g3, g4, by simp [D.okp]⟩

theorem Vw.sound {tmps : Array Value} {k s : Nat} {p : List Nat} {nl e es xs} (hI : Inv n ρ w tmps E) (h : Vw E k s p nl e es xs) : OwnAt w tmps E s p nl e es xs (tmps.getD k undef) := by
  rcases h with ⟨h1, h2⟩ | ⟨h1, rfl, rfl⟩
  · have := hI.slot k
    rw [h1] at this
    obtain ⟨nl', e', es', xs', ho⟩ := this
    rcases ho with ⟨g1, g2, g3⟩ | ⟨x, b, g1, g2, g3, g4, g5⟩
    · rcases h2 with h2 | ⟨x, h2, _⟩
      · rw [g1] at h2; cases h2
        exact .inl ⟨g1, g2, g3⟩
      · rw [g1] at h2; cases h2
    · rcases h2 with h2 | ⟨x', h2, h3⟩
      · rw [g1] at h2; cases h2
      · rw [g1] at h2; cases h2
        exact .inr ⟨x, b, g1, g2, h3, g4, g5⟩
  · exact .inl ⟨h1, rfl, rfl⟩

omit [Tables] in
theorem RV.own {x : Value} {nl e es xs} (h : RV ρ w t (.own nl e es xs) x) : ROwn ρ w (.sl t []) nl e es xs x := by
  obtain ⟨cs, h1, h2⟩ := h
  simp only [RB] at h1
  obtain ⟨v, rfl, h3⟩ := h1
  simp only [VC] at h2
  obtain rfl : v = x := by simpa using h2
  exact h3

/-- The own slice at a place is one, and its tag is its place. -/
theorem OwnAt.own {tmps : Array Value} {s : Nat} {p : List Nat} {nl e es xs v} (hI : Inv n ρ w tmps E) (h : OwnAt w tmps E s p nl e es xs v) : ROwn ρ w (.sl s p) nl e es xs v := by
  rcases h with ⟨h1, rfl, rfl⟩ | ⟨x, b, h1, h2, h3, h4, h5⟩
  · have := hI.slot s
    rw [h1] at this
    exact this.own
  · obtain ⟨b', cs, g1, g2, g3, g4⟩ := hI.box h1
    rw [h4] at g1; cases g1
    obtain ⟨a, m, c, e1, e2, e3, _⟩ := RB.lens p x g4 h2
    rw [h3] at e3
    simp only [RB, List.nil_append] at e3
    obtain ⟨v', rfl, h6⟩ := e3
    have hm := g3.mem
    rw [e1, Mem.app, Mem.app] at hm
    have h7 := hm.1.2.1
    rw [e2] at h7
    rw [show 0 + x.off p = x.off p by omega] at h7
    rw [h5] at h7
    cases h7
    exact h6

end Go.Dat
