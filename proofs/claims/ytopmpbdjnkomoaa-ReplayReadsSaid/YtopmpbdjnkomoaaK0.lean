/- Data and how they lie in memory: the words of a data-level logic over the model's code. No conditions. -/
import Derived.Orders
import Derived.Below
import Derived.Laws.AppendOwn
namespace Go.Dat

/-- A slice's header: nil, of whatever capacity, or with none to spare. -/
inductive SK where
  | nl | opn | clip | any
  deriving DecidableEq, Inhabited

/-- Data: one cell, structs, arrays, slices (shared: never written again; own: of the call's own), functions, pointers to shared cells, several results. -/
inductive D where
  | v (x : Value)
  | st (ds : List D)
  | arr (es : Nat) (ds : List D)
  | lst (k : SK) (es : Nat) (xs : List D)
  | own (nl : Bool) (e es : Nat) (xs : List D)
  | fn (f : Fn) (first caps : List D)
  | pt (d : D)
  | dead (q : Bool)
  | tup (ds : List D)
  deriving Inhabited

/-- Whose a block is: nobody's here, shared, a variable's own, a slice's own. -/
inductive Tag where
  | other | sh | bx (t : Nat) | sl (t : Nat) (p : List Nat)
  deriving DecidableEq

def Hdr : SK → Option Addr → Nat → Nat → Nat → Prop
  | .nl, a, l, c, n => a = none ∧ l = 0 ∧ c = 0 ∧ n = 0
  | .opn, a, l, c, n => a.isSome = true ∧ l = n ∧ n ≤ c
  | .clip, a, l, c, n => a.isSome = true ∧ l = n ∧ c = n
  | .any, a, l, c, n => l = n ∧ n ≤ c ∧ (a = none → l = 0 ∧ c = 0)

/-- A value and its cells. -/
def VC : D → Value → List Value → Prop
  | .st _, u, cs => u = .agg cs.toArray
  | .arr _ _, u, cs => u = .agg cs.toArray
  | _, u, cs => cs = [u]

def Mem (w : World) (b : Nat) : Nat → List Value → Prop
  | _, [] => True
  | o, v :: vs => w.cell? ⟨b, o, none⟩ = some v ∧ Mem w b (o + 1) vs

mutual
/-- A shared datum and its cells. -/
def Rp (S : Nat → Prop) (w : World) : D → List Value → Prop
  | .v x, vs => vs = [x] ∧ x.oneCell' = true
  | .st ds, vs => Rps S w ds vs
  | .arr es ds, vs => Rpa S w es ds vs
  | .lst k es xs, vs => ∃ a len cap, vs = [.slice a len cap] ∧ Hdr k a len cap xs.length ∧ (∀ ad, a = some ad → Rpx S w es ad xs)
  | .own _ _ _ _, _ => False
  | .fn f first caps, vs => ∃ us ts, vs = [.func f us.toArray ts.toArray] ∧ Rpv S w first us ∧ Rpv S w caps ts
  | .pt d, vs => ∃ b o us, vs = [.pointer (some ⟨b, o, none⟩)] ∧ S b ∧ Mem w b o us ∧ Rp S w d us
  | .dead q, vs => ∃ v, vs = [v] ∧ v.oneCell' = true ∧ (q = true → ∃ t y, v = .iface t y)
  | .tup _, _ => False
def Rps (S : Nat → Prop) (w : World) : List D → List Value → Prop
  | [], vs => vs = []
  | d :: ds, vs => ∃ x y, vs = x ++ y ∧ Rp S w d x ∧ Rps S w ds y
def Rpa (S : Nat → Prop) (w : World) (es : Nat) : List D → List Value → Prop
  | [], vs => vs = []
  | d :: ds, vs => ∃ x y, vs = x ++ y ∧ x.length = es ∧ Rp S w d x ∧ Rpa S w es ds y
def Rpx (S : Nat → Prop) (w : World) (es : Nat) : Addr → List D → Prop
  | _, [] => True
  | a, d :: ds => ∃ x, x.length = es ∧ a.spot = none ∧ S a.block ∧ Mem w a.block a.off x ∧ Rp S w d x ∧ Rpx S w es ⟨a.block, a.off + es, none⟩ ds
def Rpv (S : Nat → Prop) (w : World) : List D → List Value → Prop
  | [], us => us = []
  | d :: ds, us => ∃ u y cs, us = u :: y ∧ Rp S w d cs ∧ VC d u cs ∧ Rpv S w ds y
end

def sh (ρ : Nat → Tag) (b : Nat) : Prop := ρ b = .sh

/-- A slice that owns its block. -/
def ROwn (ρ : Nat → Tag) (w : World) (tg : Tag) (nl : Bool) (e es : Nat) (xs : List D) (v : Value) : Prop :=
  ∃ cells, w.ownsRow 0 e es v xs.length cells ∧ Rpa (sh ρ) w es xs cells ∧ (nl = true ↔ v = .slice none 0 0) ∧ ∀ g, v.ownBlock = some g → ρ g = tg

mutual
/-- A datum that may hold slices of its own; t: whose; p: the place in it. -/
def RB (ρ : Nat → Tag) (w : World) (t : Nat) : List Nat → D → List Value → Prop
  | p, .own nl e es xs, vs => ∃ v, vs = [v] ∧ ROwn ρ w (.sl t p) nl e es xs v
  | p, .st ds, vs => RBs ρ w t p 0 ds vs
  | p, .arr es ds, vs => RBa ρ w t p 0 es ds vs
  | _, .v x, vs => Rp (sh ρ) w (.v x) vs
  | _, .lst k es xs, vs => Rp (sh ρ) w (.lst k es xs) vs
  | _, .fn f a b, vs => Rp (sh ρ) w (.fn f a b) vs
  | _, .pt d, vs => Rp (sh ρ) w (.pt d) vs
  | _, .dead q, vs => Rp (sh ρ) w (.dead q) vs
  | _, .tup _, _ => False
def RBs (ρ : Nat → Tag) (w : World) (t : Nat) : List Nat → Nat → List D → List Value → Prop
  | _, _, [], vs => vs = []
  | p, i, d :: ds, vs => ∃ x y, vs = x ++ y ∧ RB ρ w t (p ++ [i]) d x ∧ RBs ρ w t p (i + 1) ds y
def RBa (ρ : Nat → Tag) (w : World) (t : Nat) : List Nat → Nat → Nat → List D → List Value → Prop
  | _, _, _, [], vs => vs = []
  | p, i, es, d :: ds, vs => ∃ x y, vs = x ++ y ∧ x.length = es ∧ RB ρ w t (p ++ [i]) d x ∧ RBa ρ w t p (i + 1) es ds y
end

def RV1 (ρ : Nat → Tag) (w : World) (t : Nat) (p : List Nat) (d : D) (u : Value) : Prop := ∃ cs, RB ρ w t p d cs ∧ VC d u cs

def RVs (ρ : Nat → Tag) (w : World) (t : Nat) : Nat → List D → List Value → Prop
  | _, [], us => us = []
  | i, d :: ds, us => ∃ u y, us = u :: y ∧ RV1 ρ w t [i] d u ∧ RVs ρ w t (i + 1) ds y

/-- A value of a frame and its datum. -/
def RV (ρ : Nat → Tag) (w : World) (t : Nat) : D → Value → Prop
  | .tup ds, u => ∃ us, u = .tuple us.toArray ∧ RVs ρ w t 0 ds us
  | d, u => RV1 ρ w t [] d u

mutual
/-- It holds no slice of its own. -/
def D.noOwn : D → Bool
  | .own _ _ _ _ => false
  | .st ds => noOwns ds
  | .arr _ ds => noOwns ds
  | .tup ds => noOwns ds
  | _ => true
def noOwns : List D → Bool
  | [] => true
  | d :: ds => d.noOwn && noOwns ds
end

mutual
def D.size : D → Nat
  | .st ds => sizes ds
  | .arr es ds => es * ds.length
  | _ => 1
def sizes : List D → Nat
  | [] => 0
  | d :: ds => d.size + sizes ds
end

mutual
/-- As it looks to one who only reads: its own slices as slices. -/
def D.lend : D → D
  | .own _ _ es xs => .lst .any es xs
  | .st ds => .st (lends ds)
  | .arr es ds => .arr es (lends ds)
  | d => d
def lends : List D → List D
  | [] => []
  | d :: ds => d.lend :: lends ds
end

def un : D := .v (.tuple #[])

def D.get : D → List Nat → D
  | d, [] => d
  | .st ds, i :: p => (ds.getD i un).get p
  | .arr _ ds, i :: p => (ds.getD i un).get p
  | _, _ :: _ => un
def D.okp : D → List Nat → Prop
  | _, [] => True
  | .st ds, i :: p => i < ds.length ∧ (ds.getD i un).okp p
  | .arr _ ds, i :: p => i < ds.length ∧ (ds.getD i un).okp p
  | _, _ :: _ => False
def D.off : D → List Nat → Nat
  | _, [] => 0
  | .st ds, i :: p => sizes (ds.take i) + (ds.getD i un).off p
  | .arr es ds, i :: p => es * i + (ds.getD i un).off p
  | _, _ :: _ => 0
def D.set : D → List Nat → D → D
  | _, [], y => y
  | .st ds, i :: p, y => .st (ds.set i ((ds.getD i un).set p y))
  | .arr es ds, i :: p, y => .arr es (ds.set i ((ds.getD i un).set p y))
  | d, _ :: _, _ => d

/-- What is known of a slot of a frame. -/
inductive Slot where
  | un
  | no
  | d (x : D)
  | box (x : D)
  | ref (s : Nat) (p : List Nat)
  | view (s : Nat) (p : List Nat)
  | elt (s : Nat) (p : List Nat) (i : Nat) (q : List Nat)
  | sub (s : Nat) (p : List Nat) (i j : Nat)
  | wk (x : D)
  deriving Inhabited

abbrev Env := List (Nat × Slot)
def lk : Env → Nat → Slot
  | [], _ => .un
  | (k, s) :: r, t => if k = t then s else lk r t
abbrev put (env : Env) (t : Nat) (s : Slot) : Env := (t, s) :: env

end Go.Dat
