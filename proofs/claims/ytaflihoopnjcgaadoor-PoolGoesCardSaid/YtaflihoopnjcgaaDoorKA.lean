/- Texts K0, K1, K2, K3, K4, K5, K6, K7, K8 in one file. No conditions. -/
import Derived.Orders
import Derived.Below
import Derived.Laws.AppendOwn
import Derived.Laws.MakeOwn

namespace Go.Dat

/-- A slice's header: nil, of whatever capacity, or with none to spare. -/
inductive SK where
  | nl | opn | clip | any
  deriving DecidableEq, Inhabited

/-- Data: one cell, structs, arrays, slices (shared: never written again; own: of the call's own), functions, pointers to shared cells, several results. -/
inductive D where
  | v (x : Value)
  | st (ds : List D)
  | arr (es : Nat) (ds : List D)
  | lst (k : SK) (es : Nat) (xs : List D)
  | own (nl : Bool) (e es : Nat) (xs : List D)
  | fn (f : Fn) (first caps : List D)
  | pt (d : D)
  | dead (q : Bool)
  | tup (ds : List D)
  deriving Inhabited

/-- Whose a block is: nobody's here, shared, a variable's own, a slice's own. -/
inductive Tag where
  | other | sh | bx (t : Nat) | sl (t : Nat) (p : List Nat)
  deriving DecidableEq

def Hdr : SK → Option Addr → Nat → Nat → Nat → Prop
  | .nl, a, l, c, n => a = none ∧ l = 0 ∧ c = 0 ∧ n = 0
  | .opn, a, l, c, n => a.isSome = true ∧ l = n ∧ n ≤ c
  | .clip, a, l, c, n => a.isSome = true ∧ l = n ∧ c = n
  | .any, a, l, c, n => l = n ∧ n ≤ c ∧ (a = none → l = 0 ∧ c = 0)

/-- A value and its cells. -/
def VC : D → Value → List Value → Prop
  | .st _, u, cs => u = .agg cs.toArray
  | .arr _ _, u, cs => u = .agg cs.toArray
  | _, u, cs => cs = [u]

def Mem (w : World) (b : Nat) : Nat → List Value → Prop
  | _, [] => True
  | o, v :: vs => w.cell? ⟨b, o, none⟩ = some v ∧ Mem w b (o + 1) vs

mutual
/-- A shared datum and its cells. -/
def Rp (S : Nat → Prop) (w : World) : D → List Value → Prop
  | .v x, vs => vs = [x] ∧ x.oneCell' = true
  | .st ds, vs => Rps S w ds vs
  | .arr es ds, vs => Rpa S w es ds vs
  | .lst k es xs, vs => ∃ a len cap, vs = [.slice a len cap] ∧ Hdr k a len cap xs.length ∧ (∀ ad, a = some ad → Rpx S w es ad xs)
  | .own _ _ _ _, _ => False
  | .fn f first caps, vs => ∃ us ts, vs = [.func f us.toArray ts.toArray] ∧ Rpv S w first us ∧ Rpv S w caps ts
  | .pt d, vs => ∃ b o us, vs = [.pointer (some ⟨b, o, none⟩)] ∧ S b ∧ Mem w b o us ∧ Rp S w d us
  | .dead q, vs => ∃ v, vs = [v] ∧ v.oneCell' = true ∧ (q = true → ∃ t y, v = .iface t y)
  | .tup _, _ => False
def Rps (S : Nat → Prop) (w : World) : List D → List Value → Prop
  | [], vs => vs = []
  | d :: ds, vs => ∃ x y, vs = x ++ y ∧ Rp S w d x ∧ Rps S w ds y
def Rpa (S : Nat → Prop) (w : World) (es : Nat) : List D → List Value → Prop
  | [], vs => vs = []
  | d :: ds, vs => ∃ x y, vs = x ++ y ∧ x.length = es ∧ Rp S w d x ∧ Rpa S w es ds y
def Rpx (S : Nat → Prop) (w : World) (es : Nat) : Addr → List D → Prop
  | _, [] => True
  | a, d :: ds => ∃ x, x.length = es ∧ a.spot = none ∧ S a.block ∧ Mem w a.block a.off x ∧ Rp S w d x ∧ Rpx S w es ⟨a.block, a.off + es, none⟩ ds
def Rpv (S : Nat → Prop) (w : World) : List D → List Value → Prop
  | [], us => us = []
  | d :: ds, us => ∃ u y cs, us = u :: y ∧ Rp S w d cs ∧ VC d u cs ∧ Rpv S w ds y
end

def sh (ρ : Nat → Tag) (b : Nat) : Prop := ρ b = .sh

/-- A slice that owns its block. -/
def ROwn (ρ : Nat → Tag) (w : World) (tg : Tag) (nl : Bool) (e es : Nat) (xs : List D) (v : Value) : Prop :=
  ∃ cells, w.ownsRow 0 e es v xs.length cells ∧ Rpa (sh ρ) w es xs cells ∧ (nl = true ↔ v = .slice none 0 0) ∧ ∀ g, v.ownBlock = some g → ρ g = tg

mutual
/-- A datum that may hold slices of its own; t: whose; p: the place in it. -/
def RB (ρ : Nat → Tag) (w : World) (t : Nat) : List Nat → D → List Value → Prop
  | p, .own nl e es xs, vs => ∃ v, vs = [v] ∧ ROwn ρ w (.sl t p) nl e es xs v
  | p, .st ds, vs => RBs ρ w t p 0 ds vs
  | p, .arr es ds, vs => RBa ρ w t p 0 es ds vs
  | _, .v x, vs => Rp (sh ρ) w (.v x) vs
  | _, .lst k es xs, vs => Rp (sh ρ) w (.lst k es xs) vs
  | _, .fn f a b, vs => Rp (sh ρ) w (.fn f a b) vs
  | _, .pt d, vs => Rp (sh ρ) w (.pt d) vs
  | _, .dead q, vs => Rp (sh ρ) w (.dead q) vs
  | _, .tup _, _ => False
def RBs (ρ : Nat → Tag) (w : World) (t : Nat) : List Nat → Nat → List D → List Value → Prop
  | _, _, [], vs => vs = []
  | p, i, d :: ds, vs => ∃ x y, vs = x ++ y ∧ RB ρ w t (p ++ [i]) d x ∧ RBs ρ w t p (i + 1) ds y
def RBa (ρ : Nat → Tag) (w : World) (t : Nat) : List Nat → Nat → Nat → List D → List Value → Prop
  | _, _, _, [], vs => vs = []
  | p, i, es, d :: ds, vs => ∃ x y, vs = x ++ y ∧ x.length = es ∧ RB ρ w t (p ++ [i]) d x ∧ RBa ρ w t p (i + 1) es ds y
end

def RV1 (ρ : Nat → Tag) (w : World) (t : Nat) (p : List Nat) (d : D) (u : Value) : Prop := ∃ cs, RB ρ w t p d cs ∧ VC d u cs

def RVs (ρ : Nat → Tag) (w : World) (t : Nat) : Nat → List D → List Value → Prop
  | _, [], us => us = []
  | i, d :: ds, us => ∃ u y, us = u :: y ∧ RV1 ρ w t [i] d u ∧ RVs ρ w t (i + 1) ds y

/-- A value of a frame and its datum. -/
def RV (ρ : Nat → Tag) (w : World) (t : Nat) : D → Value → Prop
  | .tup ds, u => ∃ us, u = .tuple us.toArray ∧ RVs ρ w t 0 ds us
  | d, u => RV1 ρ w t [] d u

mutual
/-- It holds no slice of its own. -/
def D.noOwn : D → Bool
  | .own _ _ _ _ => false
  | .st ds => noOwns ds
  | .arr _ ds => noOwns ds
  | .tup ds => noOwns ds
  | _ => true
def noOwns : List D → Bool
  | [] => true
  | d :: ds => d.noOwn && noOwns ds
end

mutual
def D.size : D → Nat
  | .st ds => sizes ds
  | .arr es ds => es * ds.length
  | _ => 1
def sizes : List D → Nat
  | [] => 0
  | d :: ds => d.size + sizes ds
end

mutual
/-- As it looks to one who only reads: its own slices as slices. -/
def D.lend : D → D
  | .own _ _ es xs => .lst .any es xs
  | .st ds => .st (lends ds)
  | .arr es ds => .arr es (lends ds)
  | d => d
def lends : List D → List D
  | [] => []
  | d :: ds => d.lend :: lends ds
end

def un : D := .v (.tuple #[])

def D.get : D → List Nat → D
  | d, [] => d
  | .st ds, i :: p => (ds.getD i un).get p
  | .arr _ ds, i :: p => (ds.getD i un).get p
  | _, _ :: _ => un
def D.okp : D → List Nat → Prop
  | _, [] => True
  | .st ds, i :: p => i < ds.length ∧ (ds.getD i un).okp p
  | .arr _ ds, i :: p => i < ds.length ∧ (ds.getD i un).okp p
  | _, _ :: _ => False
def D.off : D → List Nat → Nat
  | _, [] => 0
  | .st ds, i :: p => sizes (ds.take i) + (ds.getD i un).off p
  | .arr es ds, i :: p => es * i + (ds.getD i un).off p
  | _, _ :: _ => 0
def D.set : D → List Nat → D → D
  | _, [], y => y
  | .st ds, i :: p, y => .st (ds.set i ((ds.getD i un).set p y))
  | .arr es ds, i :: p, y => .arr es (ds.set i ((ds.getD i un).set p y))
  | d, _ :: _, _ => d

/-- What is known of a slot of a frame. -/
inductive Slot where
  | un
  | no
  | d (x : D)
  | box (x : D)
  | ref (s : Nat) (p : List Nat)
  | view (s : Nat) (p : List Nat)
  | elt (s : Nat) (p : List Nat) (i : Nat) (q : List Nat)
  | sub (s : Nat) (p : List Nat) (i j : Nat)
  | wk (x : D)
  | mp (k : IntKind) (m : List (Int × D))
  | mq (s : Nat)
  deriving Inhabited

abbrev Env := List (Nat × Slot)
def lk : Env → Nat → Slot
  | [], _ => .un
  | (k, s) :: r, t => if k = t then s else lk r t
abbrev put (env : Env) (t : Nat) (s : Slot) : Env := (t, s) :: env

end Go.Dat

namespace Go.Dat

theorem Mem.mono {w w' : World} {b : Nat} (h : w'.heap[b]? = w.heap[b]?) : ∀ {o vs}, Mem w b o vs → Mem w' b o vs
  | _, [], _ => trivial
  | _, _ :: _, ⟨h1, h2⟩ => ⟨by rw [World.cell?_of_block (w := w) h]; exact h1, Mem.mono h h2⟩

theorem Mem.app {w : World} {b : Nat} : ∀ {o x y}, Mem w b o (x ++ y) ↔ Mem w b o x ∧ Mem w b (o + x.length) y
  | o, [], y => by simp [Mem]
  | o, v :: x, y => by
    simp only [List.cons_append, Mem, Mem.app (o := o + 1) (x := x) (y := y), List.length_cons, and_assoc]
    rw [show o + 1 + x.length = o + (x.length + 1) by omega]

theorem Mem.at {w : World} {b : Nat} : ∀ {o vs}, Mem w b o vs → ∀ j v, vs[j]? = some v → w.cell? ((⟨b, o, none⟩ : Addr).add j) = some v
  | o, [], _, j, v, h => by simp at h
  | o, u :: vs, ⟨h1, h2⟩, j, v, h => by
    cases j with
    | zero => simp at h; subst h; simpa [Addr.add] using h1
    | succ j =>
      have := Mem.at h2 j v (by simpa using h)
      have e : ((⟨b, o + 1, none⟩ : Addr).add j) = (⟨b, o, none⟩ : Addr).add (j + 1) := by
        unfold Addr.add
        by_cases hj : j = 0 <;> simp [hj]
        omega
      rwa [← e]

theorem Mem.ofAt {w : World} {b : Nat} : ∀ {o vs}, (∀ j v, vs[j]? = some v → w.cell? ⟨b, o + j, none⟩ = some v) → Mem w b o vs
  | _, [], _ => trivial
  | o, u :: vs, h => ⟨by simpa using h 0 u (by simp), Mem.ofAt fun j v hj => by
      have := h (j + 1) v (by simpa using hj)
      rwa [show o + 1 + j = o + (j + 1) by omega]⟩

theorem Mem.cell {w : World} {b : Nat} {o vs} (h : Mem w b o vs) {j v} (hj : vs[j]? = some v) : w.cell? ⟨b, o + j, none⟩ = some v := by
  have := Mem.at h j v hj
  unfold Addr.add at this
  by_cases e : j = 0
  · subst e; simpa using this
  · simpa [e] using this

mutual
theorem Rp.mono {S S' : Nat → Prop} {w w' : World} (h : ∀ b, S b → S' b ∧ w'.heap[b]? = w.heap[b]?) : ∀ (d : D) {vs}, Rp S w d vs → Rp S' w' d vs
  | .v _, _, hd => hd
  | .st ds, _, hd => by simp only [Rp] at hd ⊢; exact Rps.mono h ds hd
  | .arr _ ds, _, hd => by simp only [Rp] at hd ⊢; exact Rpa.mono h ds hd
  | .lst _ _ xs, _, hd => by
    simp only [Rp] at hd ⊢
    obtain ⟨a, l, c, e, hh, hx⟩ := hd
    exact ⟨a, l, c, e, hh, fun ad had => Rpx.mono h xs (hx ad had)⟩
  | .own _ _ _ _, _, hd => by simp only [Rp] at hd
  | .fn _ f c, _, hd => by
    simp only [Rp] at hd ⊢
    obtain ⟨us, ts, e, h1, h2⟩ := hd
    exact ⟨us, ts, e, Rpv.mono h f h1, Rpv.mono h c h2⟩
  | .pt d, _, hd => by
    simp only [Rp] at hd ⊢
    obtain ⟨b, o, us, e, hs, hm, h1⟩ := hd
    exact ⟨b, o, us, e, (h b hs).1, hm.mono (h b hs).2, Rp.mono h d h1⟩
  | .dead _, _, hd => by simpa only [Rp] using hd
  | .tup _, _, hd => by simp only [Rp] at hd
theorem Rps.mono {S S' : Nat → Prop} {w w' : World} (h : ∀ b, S b → S' b ∧ w'.heap[b]? = w.heap[b]?) : ∀ (ds : List D) {vs}, Rps S w ds vs → Rps S' w' ds vs
  | [], _, hd => hd
  | d :: ds, _, hd => by
    simp only [Rps] at hd ⊢
    obtain ⟨x, y, e, h1, h2⟩ := hd
    exact ⟨x, y, e, Rp.mono h d h1, Rps.mono h ds h2⟩
theorem Rpa.mono {S S' : Nat → Prop} {w w' : World} (h : ∀ b, S b → S' b ∧ w'.heap[b]? = w.heap[b]?) {es : Nat} : ∀ (ds : List D) {vs}, Rpa S w es ds vs → Rpa S' w' es ds vs
  | [], _, hd => hd
  | d :: ds, _, hd => by
    simp only [Rpa] at hd ⊢
    obtain ⟨x, y, e, l, h1, h2⟩ := hd
    exact ⟨x, y, e, l, Rp.mono h d h1, Rpa.mono h ds h2⟩
theorem Rpx.mono {S S' : Nat → Prop} {w w' : World} (h : ∀ b, S b → S' b ∧ w'.heap[b]? = w.heap[b]?) {es : Nat} : ∀ (ds : List D) {a}, Rpx S w es a ds → Rpx S' w' es a ds
  | [], _, _ => by simp only [Rpx]
  | d :: ds, _, hd => by
    simp only [Rpx] at hd ⊢
    obtain ⟨x, l, sp, sb, m, h1, h2⟩ := hd
    exact ⟨x, l, sp, (h _ sb).1, m.mono (h _ sb).2, Rp.mono h d h1, Rpx.mono h ds h2⟩
theorem Rpv.mono {S S' : Nat → Prop} {w w' : World} (h : ∀ b, S b → S' b ∧ w'.heap[b]? = w.heap[b]?) : ∀ (ds : List D) {us}, Rpv S w ds us → Rpv S' w' ds us
  | [], _, hd => hd
  | d :: ds, _, hd => by
    simp only [Rpv] at hd ⊢
    obtain ⟨u, y, cs, e, h1, h2, h3⟩ := hd
    exact ⟨u, y, cs, e, Rp.mono h d h1, h2, Rpv.mono h ds h3⟩
end

theorem ROwn.mono {ρ ρ' : Nat → Tag} {w w' : World} {tg tg' : Tag} {nl e es xs v} (hs : ∀ b, ρ b = .sh → ρ' b = .sh ∧ w'.heap[b]? = w.heap[b]?)
    (ho : ∀ b, ρ b = tg → ρ' b = tg' ∧ w'.heap[b]? = w.heap[b]?) (h : ROwn ρ w tg nl e es xs v) : ROwn ρ' w' tg' nl e es xs v := by
  obtain ⟨cells, h1, h2, h3, h4⟩ := h
  refine ⟨cells, ?_, Rpa.mono (fun b hb => hs b hb) xs h2, h3, fun g hg => (ho g (h4 g hg)).1⟩
  obtain ⟨hl, hr⟩ := h1
  refine ⟨hl, hr.imp id ?_⟩
  rintro ⟨g, cap, cur, hv, hb, hg, r⟩
  refine ⟨g, cap, cur, hv, hb, ?_, r⟩
  rw [(ho g (h4 g (by simp [hv, Value.ownBlock]))).2, hg]

mutual
theorem RB.mono {ρ ρ' : Nat → Tag} {w w' : World} {t t' : Nat} (hs : ∀ b, ρ b = .sh → ρ' b = .sh ∧ w'.heap[b]? = w.heap[b]?) :
    ∀ (d : D) {p p' vs}, (∀ b r, ρ b = .sl t (p ++ r) → ρ' b = .sl t' (p' ++ r) ∧ w'.heap[b]? = w.heap[b]?) → RB ρ w t p d vs → RB ρ' w' t' p' d vs
  | .own _ _ _ _, p, p', _, ho, hd => by
    simp only [RB] at hd ⊢
    obtain ⟨v, e, h⟩ := hd
    exact ⟨v, e, h.mono hs (fun b hb => by simpa using ho b [] (by simpa using hb))⟩
  | .st ds, _, _, _, ho, hd => by simp only [RB] at hd ⊢; exact RBs.mono hs ds ho hd
  | .arr _ ds, _, _, _, ho, hd => by simp only [RB] at hd ⊢; exact RBa.mono hs ds ho hd
  | .v _, _, _, _, _, hd => by simp only [RB] at hd ⊢; exact Rp.mono hs _ hd
  | .lst _ _ _, _, _, _, _, hd => by simp only [RB] at hd ⊢; exact Rp.mono hs _ hd
  | .fn _ _ _, _, _, _, _, hd => by simp only [RB] at hd ⊢; exact Rp.mono hs _ hd
  | .pt _, _, _, _, _, hd => by simp only [RB] at hd ⊢; exact Rp.mono hs _ hd
  | .dead _, _, _, _, _, hd => by simp only [RB] at hd ⊢; exact Rp.mono hs _ hd
  | .tup _, _, _, _, _, hd => by simp only [RB] at hd
theorem RBs.mono {ρ ρ' : Nat → Tag} {w w' : World} {t t' : Nat} (hs : ∀ b, ρ b = .sh → ρ' b = .sh ∧ w'.heap[b]? = w.heap[b]?) :
    ∀ (ds : List D) {p p' i vs}, (∀ b r, ρ b = .sl t (p ++ r) → ρ' b = .sl t' (p' ++ r) ∧ w'.heap[b]? = w.heap[b]?) → RBs ρ w t p i ds vs → RBs ρ' w' t' p' i ds vs
  | [], _, _, _, _, _, hd => by simpa only [RBs] using hd
  | d :: ds, p, p', i, _, ho, hd => by
    simp only [RBs] at hd ⊢
    obtain ⟨x, y, e, h1, h2⟩ := hd
    exact ⟨x, y, e, RB.mono hs d (fun b r hb => by have := ho b (i :: r) (by simpa using hb); simpa using this) h1, RBs.mono hs ds ho h2⟩
theorem RBa.mono {ρ ρ' : Nat → Tag} {w w' : World} {t t' : Nat} (hs : ∀ b, ρ b = .sh → ρ' b = .sh ∧ w'.heap[b]? = w.heap[b]?) :
    ∀ (ds : List D) {p p' i es vs}, (∀ b r, ρ b = .sl t (p ++ r) → ρ' b = .sl t' (p' ++ r) ∧ w'.heap[b]? = w.heap[b]?) → RBa ρ w t p i es ds vs → RBa ρ' w' t' p' i es ds vs
  | [], _, _, _, _, _, _, hd => by simpa only [RBa] using hd
  | d :: ds, p, p', i, _, _, ho, hd => by
    simp only [RBa] at hd ⊢
    obtain ⟨x, y, e, l, h1, h2⟩ := hd
    exact ⟨x, y, e, l, RB.mono hs d (fun b r hb => by have := ho b (i :: r) (by simpa using hb); simpa using this) h1, RBa.mono hs ds ho h2⟩
end

theorem Rp.one {S : Nat → Prop} {w : World} : ∀ (d : D) {vs}, Rp S w d vs → ∀ u ∈ vs, u.oneCell' = true
  | .v x, _, hd, u, hu => by simp only [Rp] at hd; obtain ⟨rfl, h⟩ := hd; simp at hu; subst hu; exact h
  | .st ds, _, hd, u, hu => by simp only [Rp] at hd; exact many ds hd u hu
  | .arr _ ds, _, hd, u, hu => by simp only [Rp] at hd; exact row ds hd u hu
  | .lst _ _ _, _, hd, u, hu => by simp only [Rp] at hd; obtain ⟨a, l, c, rfl, _⟩ := hd; simp at hu; subst hu; rfl
  | .own _ _ _ _, _, hd, _, _ => by simp only [Rp] at hd
  | .fn _ _ _, _, hd, u, hu => by simp only [Rp] at hd; obtain ⟨us, ts, rfl, _⟩ := hd; simp at hu; subst hu; rfl
  | .pt _, _, hd, u, hu => by simp only [Rp] at hd; obtain ⟨b, o, us, rfl, _⟩ := hd; simp at hu; subst hu; rfl
  | .dead _, _, hd, u, hu => by simp only [Rp] at hd; obtain ⟨v, rfl, h⟩ := hd; simp at hu; subst hu; exact h.1
  | .tup _, _, hd, _, _ => by simp only [Rp] at hd
where
  many : ∀ (ds : List D) {vs}, Rps S w ds vs → ∀ u ∈ vs, u.oneCell' = true
    | [], _, hd, u, hu => by simp only [Rps] at hd; subst hd; simp at hu
    | d :: ds, _, hd, u, hu => by
      simp only [Rps] at hd
      obtain ⟨x, y, rfl, h1, h2⟩ := hd
      rcases List.mem_append.1 hu with h | h
      · exact Rp.one d h1 u h
      · exact many ds h2 u h
  row : ∀ (ds : List D) {es vs}, Rpa S w es ds vs → ∀ u ∈ vs, u.oneCell' = true
    | [], _, _, hd, u, hu => by simp only [Rpa] at hd; subst hd; simp at hu
    | d :: ds, _, _, hd, u, hu => by
      simp only [Rpa] at hd
      obtain ⟨x, y, rfl, _, h1, h2⟩ := hd
      rcases List.mem_append.1 hu with h | h
      · exact Rp.one d h1 u h
      · exact row ds h2 u h

theorem Rp.len {S : Nat → Prop} {w : World} : ∀ (d : D) {vs}, Rp S w d vs → vs.length = d.size
  | .v x, _, hd => by simp only [Rp] at hd; simp [hd.1, D.size]
  | .st ds, _, hd => by simp only [Rp] at hd; simpa only [D.size] using many ds hd
  | .arr _ ds, _, hd => by simp only [Rp] at hd; simpa only [D.size] using row ds hd
  | .lst _ _ _, _, hd => by simp only [Rp] at hd; obtain ⟨a, l, c, rfl, _⟩ := hd; rfl
  | .own _ _ _ _, _, hd => by simp only [Rp] at hd
  | .fn _ _ _, _, hd => by simp only [Rp] at hd; obtain ⟨us, ts, rfl, _⟩ := hd; rfl
  | .pt _, _, hd => by simp only [Rp] at hd; obtain ⟨b, o, us, rfl, _⟩ := hd; rfl
  | .dead _, _, hd => by simp only [Rp] at hd; obtain ⟨v, rfl, h⟩ := hd; rfl
  | .tup _, _, hd => by simp only [Rp] at hd
where
  many : ∀ (ds : List D) {vs}, Rps S w ds vs → vs.length = sizes ds
    | [], _, hd => by simp only [Rps] at hd; subst hd; rfl
    | d :: ds, _, hd => by
      simp only [Rps] at hd
      obtain ⟨x, y, rfl, h1, h2⟩ := hd
      simp [sizes, Rp.len d h1, many ds h2]
  row : ∀ (ds : List D) {es vs}, Rpa S w es ds vs → vs.length = es * ds.length
    | [], _, _, hd => by simp only [Rpa] at hd; subst hd; rfl
    | d :: ds, _, _, hd => by
      simp only [Rpa] at hd
      obtain ⟨x, y, rfl, l, h1, h2⟩ := hd
      simp [row ds h2, l, Nat.mul_add, Nat.add_comm]

theorem ROwn.one {ρ w tg nl e es xs v} (h : ROwn ρ w tg nl e es xs v) : v.oneCell' = true := by
  obtain ⟨cells, ⟨_, h1⟩, _⟩ := h
  rcases h1 with ⟨rfl, _⟩ | ⟨g, cap, cur, rfl, _⟩ <;> rfl

theorem RB.one {ρ : Nat → Tag} {w : World} {t : Nat} : ∀ (d : D) {p vs}, RB ρ w t p d vs → ∀ u ∈ vs, u.oneCell' = true
  | .own _ _ _ _, _, _, hd, u, hu => by simp only [RB] at hd; obtain ⟨v, rfl, h⟩ := hd; simp at hu; subst hu; exact h.one
  | .st ds, _, _, hd, u, hu => by simp only [RB] at hd; exact many ds hd u hu
  | .arr _ ds, _, _, hd, u, hu => by simp only [RB] at hd; exact row ds hd u hu
  | .v _, _, _, hd, u, hu => by simp only [RB] at hd; exact Rp.one _ hd u hu
  | .lst _ _ _, _, _, hd, u, hu => by simp only [RB] at hd; exact Rp.one _ hd u hu
  | .fn _ _ _, _, _, hd, u, hu => by simp only [RB] at hd; exact Rp.one _ hd u hu
  | .pt _, _, _, hd, u, hu => by simp only [RB] at hd; exact Rp.one _ hd u hu
  | .dead _, _, _, hd, u, hu => by simp only [RB] at hd; exact Rp.one _ hd u hu
  | .tup _, _, _, hd, _, _ => by simp only [RB] at hd
where
  many : ∀ (ds : List D) {p i vs}, RBs ρ w t p i ds vs → ∀ u ∈ vs, u.oneCell' = true
    | [], _, _, _, hd, u, hu => by simp only [RBs] at hd; subst hd; simp at hu
    | d :: ds, _, _, _, hd, u, hu => by
      simp only [RBs] at hd
      obtain ⟨x, y, rfl, h1, h2⟩ := hd
      rcases List.mem_append.1 hu with h | h
      · exact RB.one d h1 u h
      · exact many ds h2 u h
  row : ∀ (ds : List D) {p i es vs}, RBa ρ w t p i es ds vs → ∀ u ∈ vs, u.oneCell' = true
    | [], _, _, _, _, hd, u, hu => by simp only [RBa] at hd; subst hd; simp at hu
    | d :: ds, _, _, _, _, hd, u, hu => by
      simp only [RBa] at hd
      obtain ⟨x, y, rfl, _, h1, h2⟩ := hd
      rcases List.mem_append.1 hu with h | h
      · exact RB.one d h1 u h
      · exact row ds h2 u h

theorem RB.len {ρ : Nat → Tag} {w : World} {t : Nat} : ∀ (d : D) {p vs}, RB ρ w t p d vs → vs.length = d.size
  | .own _ _ _ _, _, _, hd => by simp only [RB] at hd; obtain ⟨v, rfl, h⟩ := hd; rfl
  | .st ds, _, _, hd => by simp only [RB] at hd; simpa only [D.size] using many ds hd
  | .arr _ ds, _, _, hd => by simp only [RB] at hd; simpa only [D.size] using row ds hd
  | .v _, _, _, hd => by simp only [RB] at hd; exact Rp.len _ hd
  | .lst _ _ _, _, _, hd => by simp only [RB] at hd; exact Rp.len _ hd
  | .fn _ _ _, _, _, hd => by simp only [RB] at hd; exact Rp.len _ hd
  | .pt _, _, _, hd => by simp only [RB] at hd; exact Rp.len _ hd
  | .dead _, _, _, hd => by simp only [RB] at hd; exact Rp.len _ hd
  | .tup _, _, _, hd => by simp only [RB] at hd
where
  many : ∀ (ds : List D) {p i vs}, RBs ρ w t p i ds vs → vs.length = sizes ds
    | [], _, _, _, hd => by simp only [RBs] at hd; subst hd; rfl
    | d :: ds, _, _, _, hd => by
      simp only [RBs] at hd
      obtain ⟨x, y, rfl, h1, h2⟩ := hd
      simp [sizes, RB.len d h1, many ds h2]
  row : ∀ (ds : List D) {p i es vs}, RBa ρ w t p i es ds vs → vs.length = es * ds.length
    | [], _, _, _, _, hd => by simp only [RBa] at hd; subst hd; rfl
    | d :: ds, _, _, _, _, hd => by
      simp only [RBa] at hd
      obtain ⟨x, y, rfl, l, h1, h2⟩ := hd
      simp [row ds h2, l, Nat.mul_add, Nat.add_comm]

mutual
theorem RB.plain {ρ : Nat → Tag} {w : World} {t : Nat} : ∀ (d : D) {p vs}, d.noOwn = true → (RB ρ w t p d vs ↔ Rp (sh ρ) w d vs)
  | .own _ _ _ _, _, _, h => by simp [D.noOwn] at h
  | .st ds, _, _, h => by simp only [RB, Rp]; exact RBs.plain ds (by simpa [D.noOwn] using h)
  | .arr _ ds, _, _, h => by simp only [RB, Rp]; exact RBa.plain ds (by simpa [D.noOwn] using h)
  | .v _, _, _, _ => by simp only [RB]
  | .lst _ _ _, _, _, _ => by simp only [RB]
  | .fn _ _ _, _, _, _ => by simp only [RB]
  | .pt _, _, _, _ => by simp only [RB]
  | .dead _, _, _, _ => by simp only [RB]
  | .tup _, _, _, _ => by simp only [RB, Rp]
theorem RBs.plain {ρ : Nat → Tag} {w : World} {t : Nat} : ∀ (ds : List D) {p i vs}, noOwns ds = true → (RBs ρ w t p i ds vs ↔ Rps (sh ρ) w ds vs)
  | [], _, _, _, _ => by simp only [RBs, Rps]
  | d :: ds, p, i, vs, h => by
    simp only [noOwns, Bool.and_eq_true] at h
    have h1 := fun x => @RB.plain ρ w t d (p ++ [i]) x h.1
    have h2 := fun x => @RBs.plain ρ w t ds p (i + 1) x h.2
    simp only [RBs, Rps, h1, h2]
theorem RBa.plain {ρ : Nat → Tag} {w : World} {t : Nat} : ∀ (ds : List D) {p i es vs}, noOwns ds = true → (RBa ρ w t p i es ds vs ↔ Rpa (sh ρ) w es ds vs)
  | [], _, _, _, _, _ => by simp only [RBa, Rpa]
  | d :: ds, p, i, es, vs, h => by
    simp only [noOwns, Bool.and_eq_true] at h
    have h1 := fun x => @RB.plain ρ w t d (p ++ [i]) x h.1
    have h2 := fun x => @RBa.plain ρ w t ds p (i + 1) es x h.2
    simp only [RBa, Rpa, h1, h2]
end

end Go.Dat

namespace Go.Dat

theorem Rp.noOwn {S : Nat → Prop} {w : World} : ∀ (d : D) {vs}, Rp S w d vs → d.noOwn = true
  | .v x, _, _ => by simp [D.noOwn]
  | .st ds, _, hd => by simp only [Rp] at hd; simpa only [D.noOwn] using many ds hd
  | .arr _ ds, _, hd => by simp only [Rp] at hd; simpa only [D.noOwn] using row ds hd
  | .lst _ _ _, _, _ => by simp [D.noOwn]
  | .own _ _ _ _, _, hd => by simp only [Rp] at hd
  | .fn _ _ _, _, _ => by simp [D.noOwn]
  | .pt _, _, _ => by simp [D.noOwn]
  | .dead _, _, _ => by simp [D.noOwn]
  | .tup _, _, hd => by simp only [Rp] at hd
where
  many : ∀ (ds : List D) {vs}, Rps S w ds vs → noOwns ds = true
    | [], _, _ => by simp [noOwns]
    | d :: ds, _, hd => by
      simp only [Rps] at hd
      obtain ⟨x, y, rfl, h1, h2⟩ := hd
      simp [noOwns, Rp.noOwn d h1, many ds h2]
  row : ∀ (ds : List D) {es vs}, Rpa S w es ds vs → noOwns ds = true
    | [], _, _, _ => by simp [noOwns]
    | d :: ds, _, _, hd => by
      simp only [Rpa] at hd
      obtain ⟨x, y, rfl, _, h1, h2⟩ := hd
      simp [noOwns, Rp.noOwn d h1, row ds h2]

theorem RB.ofRp {ρ : Nat → Tag} {w : World} {t : Nat} {d : D} {p vs} (h : Rp (sh ρ) w d vs) : RB ρ w t p d vs := (RB.plain d (Rp.noOwn d h)).2 h

/-- What is kept of other places: all that is shared, and all of t's own but what is at q. -/
structure KeepBut (ρ : Nat → Tag) (w : World) (ρ' : Nat → Tag) (w' : World) (t : Nat) (q : List Nat) : Prop where
  shd : ∀ b, ρ b = .sh → ρ' b = .sh ∧ w'.heap[b]? = w.heap[b]?
  own : ∀ b r, ρ b = .sl t r → ¬ q <+: r → ρ' b = ρ b ∧ w'.heap[b]? = w.heap[b]?

theorem not_prefix_of_ne {q p r : List Nat} {i j : Nat} (h : j ≠ i) : ¬ (q ++ i :: p) <+: (q ++ j :: r) := by
  intro hp
  have := (List.prefix_append_right_inj q).1 hp
  rw [List.cons_prefix_cons] at this
  exact h this.1.symm

mutual
theorem RB.lens {ρ : Nat → Tag} {w : World} {t : Nat} : ∀ (p : List Nat) (d : D) {q vs}, RB ρ w t q d vs → d.okp p →
    ∃ a m b, vs = a ++ m ++ b ∧ a.length = d.off p ∧ RB ρ w t (q ++ p) (d.get p) m ∧
      ∀ ρ' w', KeepBut ρ w ρ' w' t (q ++ p) → ∀ y m', m'.length = m.length → RB ρ' w' t (q ++ p) y m' → RB ρ' w' t q (d.set p y) (a ++ m' ++ b)
  | [], d, q, vs, h, _ => ⟨[], vs, [], by simp, by simp [D.off], by simpa [D.get] using h, fun ρ' w' _ y m' _ hy => by simpa [D.set] using hy⟩
  | i :: p, .st ds, q, vs, h, hk => by
    simp only [D.okp] at hk
    simp only [RB] at h
    obtain ⟨a, m, b, e, hl, hm, hset⟩ := RBs.lens i ds h hk.1
    obtain ⟨a2, m2, b2, e2, hl2, hm2, hset2⟩ := RB.lens p (ds.getD i un) hm hk.2
    refine ⟨a ++ a2, m2, b2 ++ b, by simp [e, e2], by simp [D.off, hl, hl2], by simpa [D.get] using hm2, ?_⟩
    intro ρ' w' hkeep y m' hlen hy
    simp only [D.set, RB]
    have h3 := hset2 ρ' w' (by simpa using hkeep) y m' hlen (by simpa using hy)
    have h4 := hset ρ' w' ⟨hkeep.shd, fun b j r hj hb => hkeep.own b _ hb (by simpa using not_prefix_of_ne (q := q) (p := p) (r := r) (by simpa using hj))⟩ _ _ (by simp [e2, hlen]) h3
    simpa using h4
  | i :: p, .arr es ds, q, vs, h, hk => by
    simp only [D.okp] at hk
    simp only [RB] at h
    obtain ⟨a, m, b, e, hl, _, hm, hset⟩ := RBa.lens i ds h hk.1
    obtain ⟨a2, m2, b2, e2, hl2, hm2, hset2⟩ := RB.lens p (ds.getD i un) hm hk.2
    refine ⟨a ++ a2, m2, b2 ++ b, by simp [e, e2], by simp [D.off, hl, hl2], by simpa [D.get] using hm2, ?_⟩
    intro ρ' w' hkeep y m' hlen hy
    simp only [D.set, RB]
    have h3 := hset2 ρ' w' (by simpa using hkeep) y m' hlen (by simpa using hy)
    have h4 := hset ρ' w' ⟨hkeep.shd, fun b j r hj hb => hkeep.own b _ hb (by simpa using not_prefix_of_ne (q := q) (p := p) (r := r) (by simpa using hj))⟩ _ _ (by simp [e2, hlen]) h3
    simpa using h4
  | _ :: _, .v _, _, _, _, hk => by simp [D.okp] at hk
  | _ :: _, .lst _ _ _, _, _, _, hk => by simp [D.okp] at hk
  | _ :: _, .own _ _ _ _, _, _, _, hk => by simp [D.okp] at hk
  | _ :: _, .fn _ _ _, _, _, _, hk => by simp [D.okp] at hk
  | _ :: _, .pt _, _, _, _, hk => by simp [D.okp] at hk
  | _ :: _, .dead _, _, _, _, hk => by simp [D.okp] at hk
  | _ :: _, .tup _, _, _, _, hk => by simp [D.okp] at hk
theorem RBs.lens {ρ : Nat → Tag} {w : World} {t : Nat} : ∀ (i : Nat) (ds : List D) {q k vs}, RBs ρ w t q k ds vs → i < ds.length →
    ∃ a m b, vs = a ++ m ++ b ∧ a.length = sizes (ds.take i) ∧ RB ρ w t (q ++ [k + i]) (ds.getD i un) m ∧
      ∀ ρ' w', ((∀ b, ρ b = .sh → ρ' b = .sh ∧ w'.heap[b]? = w.heap[b]?) ∧ (∀ b j r, j ≠ k + i → ρ b = .sl t (q ++ j :: r) → ρ' b = ρ b ∧ w'.heap[b]? = w.heap[b]?)) →
        ∀ y m', m'.length = m.length → RB ρ' w' t (q ++ [k + i]) y m' → RBs ρ' w' t q k (ds.set i y) (a ++ m' ++ b)
  | _, [], _, _, _, _, hi => by simp at hi
  | 0, d :: ds, q, k, vs, h, _ => by
    simp only [RBs] at h
    obtain ⟨x, y, e, h1, h2⟩ := h
    refine ⟨[], x, y, by simp [e], by simp [sizes], by simpa using h1, ?_⟩
    intro ρ' w' hk z m' _ hz
    simp only [List.set, RBs]
    refine ⟨m', y, by simp, by simpa using hz, RBs.shift (k := k) hk.1 (fun b j r (hj : k < j) hb => hk.2 b j r (by omega) hb) ds h2 (by omega)⟩
  | i + 1, d :: ds, q, k, vs, h, hi => by
    simp only [RBs] at h
    obtain ⟨x, y, e, h1, h2⟩ := h
    obtain ⟨a, m, b, e2, hl, hm, hset⟩ := RBs.lens i ds h2 (by simpa using hi)
    refine ⟨x ++ a, m, b, by simp [e, e2], by simp [sizes, RB.len d h1, hl], by simpa [Nat.add_assoc, Nat.add_comm 1 i] using hm, ?_⟩
    intro ρ' w' hk z m' hz1 hz
    simp only [List.set, RBs]
    refine ⟨x, a ++ m' ++ b, by simp, ?_, hset ρ' w' ⟨hk.1, fun b j r hj hb => hk.2 b j r (by omega) hb⟩ z m' hz1 (by simpa [Nat.add_assoc, Nat.add_comm 1 i] using hz)⟩
    exact RB.mono (p := q ++ [k]) (p' := q ++ [k]) hk.1 d (fun b r hb => by
      have hb' : ρ b = .sl t (q ++ k :: r) := by simpa using hb
      obtain ⟨g1, g2⟩ := hk.2 b k r (by omega) hb'
      exact ⟨by rw [g1, hb], g2⟩) h1
theorem RBa.lens {ρ : Nat → Tag} {w : World} {t : Nat} : ∀ (i : Nat) (ds : List D) {q k es vs}, RBa ρ w t q k es ds vs → i < ds.length →
    ∃ a m b, vs = a ++ m ++ b ∧ a.length = es * i ∧ m.length = es ∧ RB ρ w t (q ++ [k + i]) (ds.getD i un) m ∧
      ∀ ρ' w', ((∀ b, ρ b = .sh → ρ' b = .sh ∧ w'.heap[b]? = w.heap[b]?) ∧ (∀ b j r, j ≠ k + i → ρ b = .sl t (q ++ j :: r) → ρ' b = ρ b ∧ w'.heap[b]? = w.heap[b]?)) →
        ∀ y m', m'.length = m.length → RB ρ' w' t (q ++ [k + i]) y m' → RBa ρ' w' t q k es (ds.set i y) (a ++ m' ++ b)
  | _, [], _, _, _, _, _, hi => by simp at hi
  | 0, d :: ds, q, k, es, vs, h, _ => by
    simp only [RBa] at h
    obtain ⟨x, y, e, hx, h1, h2⟩ := h
    refine ⟨[], x, y, by simp [e], by simp, hx, by simpa using h1, ?_⟩
    intro ρ' w' hk z m' hz1 hz
    simp only [List.set, RBa]
    refine ⟨m', y, by simp, by omega, by simpa using hz, RBa.shift (k := k) hk.1 (fun b j r (hj : k < j) hb => hk.2 b j r (by omega) hb) ds h2 (by omega)⟩
  | i + 1, d :: ds, q, k, es, vs, h, hi => by
    simp only [RBa] at h
    obtain ⟨x, y, e, hx, h1, h2⟩ := h
    obtain ⟨a, m, b, e2, hl, hml, hm, hset⟩ := RBa.lens i ds h2 (by simpa using hi)
    refine ⟨x ++ a, m, b, by simp [e, e2], by simp [hx, hl, Nat.mul_add, Nat.add_comm], hml, by simpa [Nat.add_assoc, Nat.add_comm 1 i] using hm, ?_⟩
    intro ρ' w' hk z m' hz1 hz
    simp only [List.set, RBa]
    refine ⟨x, a ++ m' ++ b, by simp, hx, ?_, hset ρ' w' ⟨hk.1, fun b j r hj hb => hk.2 b j r (by omega) hb⟩ z m' hz1 (by simpa [Nat.add_assoc, Nat.add_comm 1 i] using hz)⟩
    exact RB.mono (p := q ++ [k]) (p' := q ++ [k]) hk.1 d (fun b r hb => by
      have hb' : ρ b = .sl t (q ++ k :: r) := by simpa using hb
      obtain ⟨g1, g2⟩ := hk.2 b k r (by omega) hb'
      exact ⟨by rw [g1, hb], g2⟩) h1
theorem RBs.shift {ρ ρ' : Nat → Tag} {w w' : World} {t : Nat} {q : List Nat} {k : Nat} (hs : ∀ b, ρ b = .sh → ρ' b = .sh ∧ w'.heap[b]? = w.heap[b]?)
    (ho : ∀ b j r, k < j → ρ b = .sl t (q ++ j :: r) → ρ' b = ρ b ∧ w'.heap[b]? = w.heap[b]?) : ∀ (ds : List D) {i vs}, RBs ρ w t q i ds vs → k < i → RBs ρ' w' t q i ds vs
  | [], _, _, h, _ => by simpa only [RBs] using h
  | d :: ds, i, vs, h, hi => by
    simp only [RBs] at h ⊢
    obtain ⟨x, y, e, h1, h2⟩ := h
    refine ⟨x, y, e, RB.mono (p := q ++ [i]) (p' := q ++ [i]) hs d (fun b r hb => ?_) h1, RBs.shift hs ho ds h2 (by omega)⟩
    have hb' : ρ b = .sl t (q ++ i :: r) := by simpa using hb
    obtain ⟨g1, g2⟩ := ho b i r hi hb'
    exact ⟨by rw [g1, hb], g2⟩
theorem RBa.shift {ρ ρ' : Nat → Tag} {w w' : World} {t : Nat} {q : List Nat} {k : Nat} (hs : ∀ b, ρ b = .sh → ρ' b = .sh ∧ w'.heap[b]? = w.heap[b]?)
    (ho : ∀ b j r, k < j → ρ b = .sl t (q ++ j :: r) → ρ' b = ρ b ∧ w'.heap[b]? = w.heap[b]?) : ∀ (ds : List D) {i es vs}, RBa ρ w t q i es ds vs → k < i → RBa ρ' w' t q i es ds vs
  | [], _, _, _, h, _ => by simpa only [RBa] using h
  | d :: ds, i, es, vs, h, hi => by
    simp only [RBa] at h ⊢
    obtain ⟨x, y, e, hx, h1, h2⟩ := h
    refine ⟨x, y, e, hx, RB.mono (p := q ++ [i]) (p' := q ++ [i]) hs d (fun b r hb => ?_) h1, RBa.shift hs ho ds h2 (by omega)⟩
    have hb' : ρ b = .sl t (q ++ i :: r) := by simpa using hb
    obtain ⟨g1, g2⟩ := ho b i r hi hb'
    exact ⟨by rw [g1, hb], g2⟩
end

/-- Elements of a row. -/
theorem Rpa.lens {S : Nat → Prop} {w : World} {es : Nat} : ∀ (i : Nat) (ds : List D) {vs}, Rpa S w es ds vs → i < ds.length →
    ∃ a m b, vs = a ++ m ++ b ∧ a.length = es * i ∧ m.length = es ∧ Rp S w (ds.getD i un) m ∧
      ∀ S' w', (∀ b, S b → S' b ∧ w'.heap[b]? = w.heap[b]?) → ∀ y m', m'.length = es → Rp S' w' y m' → Rpa S' w' es (ds.set i y) (a ++ m' ++ b)
  | _, [], _, _, hi => by simp at hi
  | 0, d :: ds, vs, h, _ => by
    simp only [Rpa] at h
    obtain ⟨x, y, e, hx, h1, h2⟩ := h
    refine ⟨[], x, y, by simp [e], by simp, hx, by simpa using h1, ?_⟩
    intro S' w' hk z m' hz1 hz
    simp only [List.set, Rpa]
    exact ⟨m', y, by simp, hz1, hz, Rpa.mono hk ds h2⟩
  | i + 1, d :: ds, vs, h, hi => by
    simp only [Rpa] at h
    obtain ⟨x, y, e, hx, h1, h2⟩ := h
    obtain ⟨a, m, b, e2, hl, hm0, hm, hset⟩ := Rpa.lens i ds h2 (by simpa using hi)
    refine ⟨x ++ a, m, b, by simp [e, e2], by simp [hx, hl, Nat.mul_add, Nat.add_comm], hm0, by simpa using hm, ?_⟩
    intro S' w' hk z m' hz1 hz
    simp only [List.set, Rpa]
    exact ⟨x, a ++ m' ++ b, by simp, hx, Rp.mono hk d h1, hset S' w' hk z m' hz1 hz⟩

theorem Rpx.at {S : Nat → Prop} {w : World} {es : Nat} : ∀ (i : Nat) (ds : List D) {a}, Rpx S w es a ds → i < ds.length →
    ∃ x, x.length = es ∧ a.spot = none ∧ S a.block ∧ Mem w a.block (a.off + es * i) x ∧ Rp S w (ds.getD i un) x
  | _, [], _, _, hi => by simp at hi
  | 0, d :: ds, a, h, _ => by
    simp only [Rpx] at h
    obtain ⟨x, h1, h2, h3, h4, h5, _⟩ := h
    exact ⟨x, h1, h2, h3, by simpa using h4, by simpa using h5⟩
  | i + 1, d :: ds, a, h, hi => by
    simp only [Rpx] at h
    obtain ⟨x, h1, h2, h3, h4, h5, h6⟩ := h
    obtain ⟨x', g1, _, g3, g4, g5⟩ := Rpx.at i ds h6 (by simpa using hi)
    refine ⟨x', g1, h2, g3, ?_, by simpa using g5⟩
    rw [show a.off + es * (i + 1) = a.off + es + es * i by rw [Nat.mul_add]; omega]
    exact g4

/-! ### Frames -/

def owner : Slot → Bool
  | .box _ => true
  | .mp _ _ => true
  | .d (.own _ _ _ _) => true
  | _ => false

/-- The own slice at a place, and its header. -/
def OwnAt (w : World) (tmps : Array Value) (E : Nat → Slot) (s : Nat) (p : List Nat) (nl : Bool) (e es : Nat) (xs : List D) (v : Value) : Prop :=
  (E s = .d (.own nl e es xs) ∧ p = [] ∧ v = tmps.getD s undef) ∨
  (∃ x b, E s = .box x ∧ x.okp p ∧ x.get p = .own nl e es xs ∧ tmps.getD s undef = .pointer (some ⟨b, 0, none⟩) ∧ w.cell? ⟨b, x.off p, none⟩ = some v)

def BoxAt (w : World) (b : Nat) (cs : List Value) : Prop := ∃ e, w.heap[b]? = some (.cells cs.toArray e (0, 0))

/-- A map's keys and values, in the order in which they came; the values refer to nothing. -/
def MapRow (k : IntKind) : List MapEntry → List (Int × D) → Prop
  | [], [] => True
  | e :: es, x :: m => e.key = .int k x.1 ∧ (∀ (S : Nat → Prop) (w : World), ∃ cs, Rp S w x.2 cs ∧ VC x.2 e.val cs) ∧ MapRow k es m
  | _, _ => False
def MapAt (w : World) (b : Nat) (k : IntKind) (m : List (Int × D)) : Prop := ∃ es c, w.heap[b]? = some (.map es c) ∧ MapRow k es.toList m

/-- All memory that is there. -/
def All (w : World) (b : Nat) : Prop := b < w.heap.size

/-- A datum that may lie anywhere: true till something is written. -/
def WV (w : World) : D → Value → Prop
  | .tup ds, u => ∃ us, u = .tuple us.toArray ∧ Rpv (All w) w ds us
  | x, u => ∃ cs, Rp (All w) w x cs ∧ VC x u cs

theorem WV.mono {w w' : World} {x : D} {u : Value} (h : ∀ b, b < w.heap.size → w'.heap[b]? = w.heap[b]?) (hs : w.heap.size ≤ w'.heap.size) (k : WV w x u) : WV w' x u := by
  have hS : ∀ b, All w b → All w' b ∧ w'.heap[b]? = w.heap[b]? := fun b hb => ⟨Nat.lt_of_lt_of_le hb hs, h b hb⟩
  cases x with
  | tup ds => obtain ⟨us, e, k⟩ := k; exact ⟨us, e, Rpv.mono hS ds k⟩
  | _ => obtain ⟨cs, k1, k2⟩ := k; exact ⟨cs, Rp.mono hS _ k1, k2⟩

/-- What a slot says of a value u; t: the slot's number. -/
def RS (ρ : Nat → Tag) (w : World) (tmps : Array Value) (E : Nat → Slot) (t : Nat) (u : Value) : Slot → Prop
  | .un => True
  | .no => u = undef
  | .d x => RV ρ w t x u
  | .box x => ∃ b cs, u = .pointer (some ⟨b, 0, none⟩) ∧ ρ b = .bx t ∧ BoxAt w b cs ∧ RB ρ w t [] x cs
  | .ref s p => ∃ x b, E s = .box x ∧ x.okp p ∧ tmps.getD s undef = .pointer (some ⟨b, 0, none⟩) ∧ u = .pointer (some ⟨b, x.off p, none⟩)
  | .view s p => ∃ nl e es xs, OwnAt w tmps E s p nl e es xs u
  | .elt s p i q => ∃ nl e es xs g l c, OwnAt w tmps E s p nl e es xs (.slice (some ⟨g, 0, none⟩) l c) ∧ i < xs.length ∧ (xs.getD i un).okp q ∧
      u = .pointer (some ⟨g, es * i + (xs.getD i un).off q, none⟩)
  | .sub s p i j => ∃ nl e es xs a l c, OwnAt w tmps E s p nl e es xs (.slice a l c) ∧ i ≤ j ∧ j ≤ xs.length ∧
      ∃ a' c', u = .slice a' (j - i) c' ∧ (i < j → ∃ g, a = some ⟨g, 0, none⟩ ∧ a' = some ⟨g, es * i, none⟩)
  | .wk x => WV w x u
  | .mp k m => ∃ b, u = .map (some b) ∧ ρ b = .bx t ∧ MapAt w b k m
  | .mq s => ∃ k m, E s = .mp k m ∧ u = tmps.getD s undef

/-- What the library's tables hold, and where they lie: laid once, never changed. -/
class Tables where
  dom : Nat → Prop
  holds : World → Prop
  stable : ∀ {w w' : World}, (∀ b, dom b → w'.heap[b]? = w.heap[b]?) → holds w → holds w'

def TabS [Tables] (S : Nat → Prop) (w : World) : Prop := (∀ b, Tables.dom b → S b) ∧ Tables.holds w

theorem TabS.mono [Tables] {S S' : Nat → Prop} {w w' : World} (h : TabS S w) (k : ∀ b, S b → S' b ∧ w'.heap[b]? = w.heap[b]?) : TabS S' w' :=
  ⟨fun b hb => (k b (h.1 b hb)).1, Tables.stable (fun b hb => (k b (h.1 b hb)).2) h.2⟩

structure Inv [Tables] (n : Nat) (ρ : Nat → Tag) (w : World) (tmps : Array Value) (E : Nat → Slot) : Prop where
  size : tmps.size = n
  lt : ∀ b, ρ b ≠ .other → b < w.heap.size
  tab : TabS (sh ρ) w
  slot : ∀ t, RS ρ w tmps E t (tmps.getD t undef) (E t)

/-- New memory alone. -/
structure Grow (ρ : Nat → Tag) (w : World) (ρ' : Nat → Tag) (w' : World) : Prop where
  keep : ∀ b, ρ b ≠ .other → ρ' b = ρ b
  old : ∀ b, b < w.heap.size → ρ' b = ρ b ∧ w'.heap[b]? = w.heap[b]?
  lt : ∀ b, ρ' b ≠ .other → b < w'.heap.size
  os : w'.os = w.os
  tape : w'.tape = w.tape
  output : w'.output = w.output
  size : w.heap.size ≤ w'.heap.size

end Go.Dat

namespace Go.Dat

variable [Tables]

variable {n : Nat} {ρ ρ' ρ'' : Nat → Tag} {w w' w'' : World} {tmps : Array Value} {E : Nat → Slot} {t : Nat} {u : Value} {s : Slot}

omit [Tables] in
theorem Grow.refl (h : ∀ b, ρ b ≠ .other → b < w.heap.size) : Grow ρ w ρ w := ⟨fun _ _ => rfl, fun _ _ => ⟨rfl, rfl⟩, h, rfl, rfl, rfl, Nat.le_refl _⟩

omit [Tables] in
theorem Grow.trans (h : Grow ρ w ρ' w') (k : Grow ρ' w' ρ'' w'') : Grow ρ w ρ'' w'' := by
  refine ⟨fun b hb => ?_, fun b hb => ?_, k.lt, k.os.trans h.os, k.tape.trans h.tape, k.output.trans h.output, Nat.le_trans h.size k.size⟩
  · have e := h.keep b hb
    rw [k.keep b (by rw [e]; exact hb), e]
  · obtain ⟨a1, a2⟩ := h.old b hb
    obtain ⟨b1, b2⟩ := k.old b (Nat.lt_of_lt_of_le hb h.size)
    exact ⟨b1.trans a1, b2.trans a2⟩

omit [Tables] in
theorem Grow.same (g : Grow ρ w ρ' w') (hlt : ∀ b, ρ b ≠ .other → b < w.heap.size) {b : Nat} (hb : ρ b ≠ .other) : ρ' b = ρ b ∧ w'.heap[b]? = w.heap[b]? :=
  g.old b (hlt b hb)

omit [Tables] in
theorem Grow.shd (g : Grow ρ w ρ' w') (hlt : ∀ b, ρ b ≠ .other → b < w.heap.size) : ∀ b, ρ b = .sh → ρ' b = .sh ∧ w'.heap[b]? = w.heap[b]? := by
  intro b hb
  obtain ⟨h1, h2⟩ := g.same hlt (b := b) (by simp [hb])
  exact ⟨by rw [h1, hb], h2⟩

omit [Tables] in
theorem RV1.mono {p p' : List Nat} {t t' : Nat} {x : D} (hs : ∀ b, ρ b = .sh → ρ' b = .sh ∧ w'.heap[b]? = w.heap[b]?)
    (ho : ∀ b r, ρ b = .sl t (p ++ r) → ρ' b = .sl t' (p' ++ r) ∧ w'.heap[b]? = w.heap[b]?) (h : RV1 ρ w t p x u) : RV1 ρ' w' t' p' x u :=
  let ⟨cs, h1, h2⟩ := h
  ⟨cs, RB.mono hs x ho h1, h2⟩

omit [Tables] in
theorem RVs.mono {t t' : Nat} (hs : ∀ b, ρ b = .sh → ρ' b = .sh ∧ w'.heap[b]? = w.heap[b]?)
    (ho : ∀ b r, ρ b = .sl t r → ρ' b = .sl t' r ∧ w'.heap[b]? = w.heap[b]?) : ∀ (ds : List D) {i us}, RVs ρ w t i ds us → RVs ρ' w' t' i ds us
  | [], _, _, h => h
  | _ :: ds, _, _, ⟨u, y, e, h1, h2⟩ => ⟨u, y, e, RV1.mono hs (fun b _ hb => ho b _ hb) h1, RVs.mono hs ho ds h2⟩

omit [Tables] in
theorem RV.mono {t t' : Nat} {x : D} (hs : ∀ b, ρ b = .sh → ρ' b = .sh ∧ w'.heap[b]? = w.heap[b]?)
    (ho : ∀ b r, ρ b = .sl t r → ρ' b = .sl t' r ∧ w'.heap[b]? = w.heap[b]?) (h : RV ρ w t x u) : RV ρ' w' t' x u := by
  cases x <;> simp only [RV] at h ⊢ <;> first
    | exact RV1.mono hs (fun b r hb => by simpa using ho b r (by simpa using hb)) h
    | (obtain ⟨us, e, h1⟩ := h; exact ⟨us, e, RVs.mono hs ho _ h1⟩)

theorem Inv.box (hI : Inv n ρ w tmps E) {s : Nat} {x : D} (h : E s = .box x) :
    ∃ b cs, tmps.getD s undef = .pointer (some ⟨b, 0, none⟩) ∧ ρ b = .bx s ∧ BoxAt w b cs ∧ RB ρ w s [] x cs := by
  have := hI.slot s
  rwa [h] at this

theorem OwnAt.same {s : Nat} {p : List Nat} {nl e es xs v} (hI : Inv n ρ w tmps E) (hb : ∀ b, ρ b = .bx s → w'.heap[b]? = w.heap[b]?)
    (h : OwnAt w tmps E s p nl e es xs v) : OwnAt w' tmps E s p nl e es xs v := by
  rcases h with h | ⟨x, b, h1, h2, h3, h4, h5⟩
  · exact .inl h
  · obtain ⟨b', cs, g1, g2, _⟩ := hI.box h1
    have : b' = b := by rw [h4] at g1; simpa using g1.symm
    subst this
    exact .inr ⟨x, b', h1, h2, h3, h4, by rw [World.cell?_of_block (w := w) (hb b' g2)]; exact h5⟩

theorem RS.grow (hI : Inv n ρ w tmps E) (g : Grow ρ w ρ' w') (h : RS ρ w tmps E t u s) : RS ρ' w' tmps E t u s := by
  have hs := g.shd hI.lt
  have ho : ∀ t b r, ρ b = .sl t r → ρ' b = .sl t r ∧ w'.heap[b]? = w.heap[b]? := fun t b r hb => by
    obtain ⟨h1, h2⟩ := g.same hI.lt (b := b) (by simp [hb])
    exact ⟨by rw [h1, hb], h2⟩
  have hbx : ∀ t b, ρ b = .bx t → ρ' b = .bx t ∧ w'.heap[b]? = w.heap[b]? := fun t b hb => by
    obtain ⟨h1, h2⟩ := g.same hI.lt (b := b) (by simp [hb])
    exact ⟨by rw [h1, hb], h2⟩
  cases s with
  | un => trivial
  | no => exact h
  | d x => exact RV.mono hs (ho t) h
  | box x =>
    obtain ⟨b, cs, h1, h2, ⟨e, h3⟩, h4⟩ := h
    exact ⟨b, cs, h1, (hbx t b h2).1, ⟨e, by rw [(hbx t b h2).2, h3]⟩, RB.mono hs x (fun b r hb => by simpa using ho t b r (by simpa using hb)) h4⟩
  | ref s p => exact h
  | view s p =>
    obtain ⟨nl, e, es, xs, h1⟩ := h
    exact ⟨nl, e, es, xs, h1.same hI fun b hb => (hbx s b hb).2⟩
  | elt s p i q =>
    obtain ⟨nl, e, es, xs, g, l, c, h1, h2⟩ := h
    exact ⟨nl, e, es, xs, g, l, c, h1.same hI fun b hb => (hbx s b hb).2, h2⟩
  | sub s p i j =>
    obtain ⟨nl, e, es, xs, g, l, c, h1, h2⟩ := h
    exact ⟨nl, e, es, xs, g, l, c, h1.same hI fun b hb => (hbx s b hb).2, h2⟩
  | wk x => exact WV.mono (fun b hb => (g.old b hb).2) g.size h
  | mp k m =>
    obtain ⟨b, h1, h2, e, c, h3, h4⟩ := h
    exact ⟨b, h1, (hbx t b h2).1, e, c, by rw [(hbx t b h2).2, h3], h4⟩
  | mq s => exact h

theorem Inv.grow (hI : Inv n ρ w tmps E) (g : Grow ρ w ρ' w') : Inv n ρ' w' tmps E :=
  ⟨hI.size, g.lt, hI.tab.mono (g.shd hI.lt), fun t => (hI.slot t).grow hI g⟩

def upd (E : Nat → Slot) (t : Nat) (s : Slot) : Nat → Slot := fun u => if t = u then s else E u

omit [Tables] in
theorem getD_put (tmps : Array Value) (t k : Nat) (v : Value) (ht : t < tmps.size) : (tmps.setIfInBounds t v).getD k undef = if t = k then v else tmps.getD k undef := by
  simp only [Array.getD_eq_getD_getElem?, Array.getElem?_setIfInBounds]
  split
  · next h => subst h; simp
  · rfl

omit [Tables] in
theorem OwnAt.put {s : Nat} {p : List Nat} {nl e es xs v v'} {s' : Slot} (ht : t < tmps.size) (hn : owner (E t) = false) (h : OwnAt w tmps E s p nl e es xs v) :
    OwnAt w (tmps.setIfInBounds t v') (upd E t s') s p nl e es xs v := by
  have hne : t ≠ s := by
    rintro rfl
    rcases h with ⟨h1, _⟩ | ⟨x, b, h1, _⟩ <;> simp [h1, owner] at hn
  rcases h with ⟨h1, h2, h3⟩ | ⟨x, b, h1, h2, h3, h4, h5⟩
  · exact .inl ⟨by simp [upd, hne, h1], h2, by rw [getD_put _ _ _ _ ht, if_neg hne, h3]⟩
  · exact .inr ⟨x, b, by simp [upd, hne, h1], h2, h3, by rw [getD_put _ _ _ _ ht, if_neg hne, h4], h5⟩

omit [Tables] in
theorem RS.put {k : Nat} {v' : Value} {s' : Slot} (ht : t < tmps.size) (hn : owner (E t) = false) (h : RS ρ w tmps E k u s) :
    RS ρ w (tmps.setIfInBounds t v') (upd E t s') k u s := by
  cases s with
  | un => trivial
  | no => exact h
  | d x => exact h
  | box x => exact h
  | ref s p =>
    obtain ⟨x, b, h1, h2, h3, h4⟩ := h
    have hne : t ≠ s := by rintro rfl; simp [h1, owner] at hn
    exact ⟨x, b, by simp [upd, hne, h1], h2, by rw [getD_put _ _ _ _ ht, if_neg hne, h3], h4⟩
  | view s p =>
    obtain ⟨nl, e, es, xs, h1⟩ := h
    exact ⟨nl, e, es, xs, h1.put ht hn⟩
  | elt s p i q =>
    obtain ⟨nl, e, es, xs, g, l, c, h1, h2⟩ := h
    exact ⟨nl, e, es, xs, g, l, c, h1.put ht hn, h2⟩
  | sub s p i j =>
    obtain ⟨nl, e, es, xs, g, l, c, h1, h2⟩ := h
    exact ⟨nl, e, es, xs, g, l, c, h1.put ht hn, h2⟩
  | wk x => exact h
  | mp k m => exact h
  | mq s =>
    obtain ⟨kk, m, h1, h2⟩ := h
    have hne : t ≠ s := by rintro rfl; simp [h1, owner] at hn
    exact ⟨kk, m, by simp [upd, hne, h1], by rw [getD_put _ _ _ _ ht, if_neg hne]; exact h2⟩

theorem Inv.put {v : Value} {s : Slot} (hI : Inv n ρ w tmps E) (ht : t < n) (hn : owner (E t) = false) (h : RS ρ w tmps E t v s) :
    Inv n ρ w (tmps.setIfInBounds t v) (upd E t s) := by
  have ht' : t < tmps.size := by rw [hI.size]; exact ht
  refine ⟨by simp [hI.size], hI.lt, hI.tab, fun k => ?_⟩
  rw [getD_put _ _ _ _ ht']
  by_cases e : t = k
  · subst e
    simp only [if_true, upd]
    exact h.put ht' hn
  · simp only [e, if_false, upd]
    exact (hI.slot k).put ht' hn

/-! ### Operands -/

def D.pl : D → Bool
  | .tup _ => false
  | d => d.noOwn

def RD (S : Nat → Prop) (w : World) (x : D) (u : Value) : Prop := ∃ cs, Rp S w x cs ∧ VC x u cs

omit [Tables] in
theorem RV.plain {x : D} (h : x.pl = true) : RV ρ w t x u ↔ RD (sh ρ) w x u := by
  cases x <;> simp only [RV, RV1, RD, D.pl] at h ⊢ <;> first
    | simp only [RB.plain _ h]
    | simp at h

omit [Tables] in
theorem RD.mono {S S' : Nat → Prop} {x : D} (h : ∀ b, S b → S' b ∧ w'.heap[b]? = w.heap[b]?) (hx : RD S w x u) : RD S' w' x u :=
  let ⟨cs, h1, h2⟩ := hx
  ⟨cs, Rp.mono h x h1, h2⟩

omit [Tables] in
theorem RD.rv {x : D} (h : RD (sh ρ) w x u) : RV ρ w t x u := by
  obtain ⟨cs, h1, h2⟩ := h
  have hp := RB.ofRp (t := t) (p := []) h1
  cases x <;> first
    | exact ⟨cs, hp, h2⟩
    | simp only [Rp] at h1

omit [Tables] in
theorem RD.cells {S : Nat → Prop} {x : D} (h : RD S w x u) : Rp S w x u.cells.toList := by
  obtain ⟨cs, h1, h2⟩ := h
  cases x with
  | st ds => simp only [VC] at h2; subst h2; simpa [Value.cells] using h1
  | arr es ds => simp only [VC] at h2; subst h2; simpa [Value.cells] using h1
  | v x =>
    simp only [VC] at h2; subst h2
    have ho := Rp.one _ h1 u (by simp)
    cases u <;> first | (simpa [Value.cells] using h1) | simp [Value.oneCell'] at ho
  | lst k es xs =>
    simp only [VC] at h2; subst h2
    have ho := Rp.one _ h1 u (by simp)
    cases u <;> first | (simpa [Value.cells] using h1) | simp [Value.oneCell'] at ho
  | fn f a b =>
    simp only [VC] at h2; subst h2
    have ho := Rp.one _ h1 u (by simp)
    cases u <;> first | (simpa [Value.cells] using h1) | simp [Value.oneCell'] at ho
  | pt d =>
    simp only [VC] at h2; subst h2
    have ho := Rp.one _ h1 u (by simp)
    cases u <;> first | (simpa [Value.cells] using h1) | simp [Value.oneCell'] at ho
  | dead q =>
    simp only [VC] at h2; subst h2
    have ho := Rp.one _ h1 u (by simp)
    cases u <;> first | (simpa [Value.cells] using h1) | simp [Value.oneCell'] at ho
  | own _ _ _ _ => simp only [Rp] at h1
  | tup _ => simp only [Rp] at h1

omit [Tables] in
theorem RD.v {S : Nat → Prop} {x : Value} (h : RD S w (.v x) u) : u = x := by
  obtain ⟨cs, h1, h2⟩ := h
  simp only [Rp, VC] at h1 h2
  rw [h1.1] at h2
  simpa using h2.symm

omit [Tables] in
theorem RD.ofV {S : Nat → Prop} (h : u.oneCell' = true) : RD S w (.v u) u := ⟨[u], by simp [Rp, h], rfl⟩

/-- A constant's datum. -/
def D.flat : D → List Value
  | .v x => [x]
  | .st ds => flats ds
  | .arr _ ds => flats ds
  | .lst .nl _ _ => [.slice none 0 0]
  | _ => []
where
  flats : List D → List Value
    | [] => []
    | d :: ds => d.flat ++ flats ds
def D.konst : D → Bool
  | .v x => x.oneCell'
  | .st ds => konsts ds
  | .arr es ds => rows es ds
  | .lst .nl _ [] => true
  | _ => false
where
  konsts : List D → Bool
    | [] => true
    | d :: ds => d.konst && konsts ds
  rows (es : Nat) : List D → Bool
    | [] => true
    | d :: ds => d.konst && d.size == es && rows es ds

omit [Tables] in
mutual
theorem Rp.konst {S : Nat → Prop} : ∀ (d : D), d.konst = true → Rp S w d d.flat
  | .v x, h => by simp only [Rp, D.flat, true_and]; simpa [D.konst] using h
  | .st ds, h => by simp only [Rp, D.flat]; exact Rps.konst ds (by simpa [D.konst] using h)
  | .arr es ds, h => by simp only [Rp, D.flat]; exact Rpa.konst es ds (by simpa [D.konst] using h)
  | .lst .nl _ [], _ => by simp only [Rp, D.flat]; exact ⟨none, 0, 0, rfl, by simp [Hdr], fun ad h => by simp at h⟩
  | .lst .nl _ (_ :: _), h => by simp [D.konst] at h
  | .lst .opn _ _, h => by simp [D.konst] at h
  | .lst .clip _ _, h => by simp [D.konst] at h
  | .lst .any _ _, h => by simp [D.konst] at h
  | .own _ _ _ _, h => by simp [D.konst] at h
  | .fn _ _ _, h => by simp [D.konst] at h
  | .pt _, h => by simp [D.konst] at h
  | .dead _, h => by simp [D.konst] at h
  | .tup _, h => by simp [D.konst] at h
theorem Rps.konst {S : Nat → Prop} : ∀ (ds : List D), D.konst.konsts ds = true → Rps S w ds (D.flat.flats ds)
  | [], _ => by simp [Rps, D.flat.flats]
  | d :: ds, h => by
    simp only [D.konst.konsts, Bool.and_eq_true] at h
    simp only [Rps, D.flat.flats]
    exact ⟨_, _, rfl, Rp.konst d h.1, Rps.konst ds h.2⟩
theorem Rpa.konst {S : Nat → Prop} (es : Nat) : ∀ (ds : List D), D.konst.rows es ds = true → Rpa S w es ds (D.flat.flats ds)
  | [], _ => by simp [Rpa, D.flat.flats]
  | d :: ds, h => by
    simp only [D.konst.rows, Bool.and_eq_true, beq_iff_eq] at h
    simp only [Rpa, D.flat.flats]
    have h1 : Rp S w d d.flat := Rp.konst d h.1.1
    exact ⟨_, _, rfl, by rw [Rp.len d h1, h.1.2], h1, Rpa.konst es ds h.2⟩
end

/-- What an operand reads as, shared. -/
inductive OpD (E : Nat → Slot) : Operand → D → Prop
  | tmp {t x} : E t = .d x → x.pl = true → OpD E (.tmp t) x
  | const {v} : v.oneCell' = true → OpD E (.const v) (.v v)
  | nil {es} : OpD E (.const (.slice none 0 0)) (.lst .nl es [])
  | agg {cs : Array Value} {x : D} : (∀ y, VC x y cs.toList → y = .agg cs) → VC x (.agg cs) cs.toList → x.konst = true → x.flat = cs.toList → OpD E (.const (.agg cs)) x
  | func {f} : OpD E (.func f) (.fn (.func f) [] [])

theorem OpD.sound {a : Act} {o : Operand} {x : D} (hI : Inv n ρ w a.tmps E) (h : OpD E o x) : RD (sh ρ) w x (a.eval o) := by
  cases h with
  | tmp h1 h2 =>
    rename_i t
    have := hI.slot t
    rw [h1] at this
    exact (RV.plain h2).1 this
  | const h => exact RD.ofV h
  | nil => exact ⟨[.slice none 0 0], by simp only [Rp]; exact ⟨none, 0, 0, rfl, by simp [Hdr], fun ad h => by simp at h⟩, rfl⟩
  | agg h0 h1 h2 h3 => exact ⟨_, h3 ▸ Rp.konst x h2, h1⟩
  | func => exact ⟨[_], by simp only [Rp, Rpv]; exact ⟨[], [], rfl, rfl, rfl⟩, rfl⟩

def operand : Operand → List Nat
  | .tmp t => [t]
  | _ => []

omit [Tables] in
theorem OpD.stable {E' : Nat → Slot} {o : Operand} {x : D} (h : OpD E o x) (hE : ∀ t ∈ operand o, E' t = E t) : OpD E' o x := by
  cases h with
  | tmp h1 h2 => exact .tmp (by rw [hE _ (by simp [operand]), h1]) h2
  | const h => exact .const h
  | nil => exact .nil
  | agg h0 h1 h2 h3 => exact .agg h0 h1 h2 h3
  | func => exact .func

/-- The contract of a function: called with such data it returns this one; nothing that was there is changed. -/
def tagS (S : Nat → Prop) [DecidablePred S] (b : Nat) : Tag := if S b then .sh else .other

open Classical in
noncomputable def DFun (P : Program) (f : FuncId) (args : List D) (r : D) : Prop :=
  ∀ (S : Nat → Prop) (w : World) (vals : List Value), (∀ b, S b → b < w.heap.size) → TabS S w → Rpv S w args vals →
    Calls P f vals.toArray w fun e w' => ∃ v ρ', e = .returned v ∧ Grow (tagS S) w ρ' w' ∧ RV ρ' w' 0 r v

end Go.Dat

namespace Go.Dat

variable [Tables]

/-! ### Types' rows -/

inductive TD where
  | no | sc
  | st (fs : List (TypeId × Nat))
  | ar (len : Nat) (e : TypeId) (es : Nat)
  | sl (e es bytes : Nat)
  deriving Inhabited

structure TI where
  td : TD
  n : Nat
  z : D
  deriving Inhabited

def TD.isAgg : TD → Bool
  | .st _ => true
  | .ar _ _ _ => true
  | _ => false

def D.isAgg : D → Bool
  | .st _ => true
  | .arr _ _ => true
  | _ => false

def TD.says (P : Program) (T : TypeId) : TD → Prop
  | .no => True
  | .sc => ∃ d, P.underlying T = some d ∧ (match d with | .struct _ | .array _ _ => false | _ => true) = true
  | .st fs => ∃ F, P.underlying T = some (.struct F) ∧ F.toList.map (fun f => (f.type, f.offset)) = fs ∧ ∀ f ∈ F.toList, P.cellsOf f.type ≠ 0
  | .ar len e es => P.underlying T = some (.array len e) ∧ ∃ i, P.info? e = some i ∧ i.size = es
  | .sl e es bytes => P.underlying T = some (.slice e) ∧ ∃ i z, P.info? e = some i ∧ i.size = es ∧ i.bytes = bytes ∧ i.zero = some z ∧ z.cells.size = es ∧ 0 < es

structure TI.ok (P : Program) (T : TypeId) (ti : TI) : Prop where
  info : ∃ i v, P.info? T = some i ∧ i.size = ti.n ∧ i.zero = some v ∧ v.cells.toList = ti.z.flat ∧ VC ti.z v ti.z.flat ∧ ti.z.konst = true
  says : ti.td.says P T

def TI.known (ti : TI) : Bool := match ti.td with | .no => false | _ => true

/-- A table of types. -/
def Agree (P : Program) (Θ : TypeId → TI) : Prop := ∀ T, (Θ T).known = true → (Θ T).ok P T

def TI.fits (ti : TI) (x : D) : Bool := ti.known && (x.isAgg == ti.td.isAgg) && (x.size == ti.n)

variable {P : Program} {Θ : TypeId → TI} {n : Nat} {ρ ρ' : Nat → Tag} {w w' : World} {E : Nat → Slot} {t : Nat} {u : Value}

omit [Tables] in
theorem isAgg_run {T : TypeId} {ti : TI} (h : ti.ok P T) (hk : ti.known = true) : (isAgg T).run P w = .ok ti.td.isAgg w := by
  have hs := h.says
  unfold isAgg
  cases htd : ti.td with
  | no => simp [TI.known, htd] at hk
  | sc =>
    rw [htd] at hs
    obtain ⟨d, h1, h2⟩ := hs
    rw [Sem.run_bind, run_underlying h1]
    cases d <;> simp_all [TD.isAgg]
  | st fs =>
    rw [htd] at hs
    obtain ⟨F, h1, _⟩ := hs
    rw [Sem.run_bind, run_underlying h1]
    rfl
  | ar len e es =>
    rw [htd] at hs
    rw [Sem.run_bind, run_underlying hs.1]
    rfl
  | sl e es b =>
    rw [htd] at hs
    rw [Sem.run_bind, run_underlying hs.1]
    rfl

omit [Tables] in
theorem sizeOf_run {T : TypeId} {ti : TI} (h : ti.ok P T) : (sizeOf T).run P w = .ok ti.n w := by
  obtain ⟨i, v, h1, h2, _⟩ := h.info
  simp [sizeOf, typeInfo, h1, h2]

omit [Tables] in
theorem VC.ofOne {x : D} {v : Value} (h : x.isAgg = false) : VC x v [v] := by
  cases x <;> simp [D.isAgg] at h <;> rfl

omit [Tables] in
theorem VC.ofAgg {x : D} {cs : List Value} (h : x.isAgg = true) : VC x (.agg cs.toArray) cs := by
  cases x <;> simp [D.isAgg] at h <;> rfl

omit [Tables] in
/-- A variable is loaded. -/
theorem loadVar_run {T : TypeId} {x : D} {cs : List Value} {b o : Nat} (h : Agree P Θ) (hf : (Θ T).fits x = true) (hl : cs.length = x.size) (hm : Mem w b o cs) :
    ∃ u, VC x u cs ∧ (loadVar T ⟨b, o, none⟩).run P w = .ok u w := by
  simp only [TI.fits, Bool.and_eq_true, beq_iff_eq] at hf
  obtain ⟨⟨hk, ha⟩, hn⟩ := hf
  have hok := h T hk
  unfold loadVar
  rw [Sem.run_bind, isAgg_run hok hk, Result.andThen_ok]
  cases hx : (Θ T).td.isAgg with
  | true =>
    refine ⟨.agg cs.toArray, VC.ofAgg (by rw [ha, hx]), ?_⟩
    have hc := run_loadCells_list (P := P) w ⟨b, o, none⟩ cs (Mem.at hm)
    simp [sizeOf_run hok, ← hn, ← hl, hc]
  | false =>
    have hs : x.size = 1 := by cases x <;> first | rfl | (simp [D.isAgg, hx] at ha)
    obtain ⟨v, rfl⟩ : ∃ v, cs = [v] := by
      match cs, hl with
      | [v], _ => exact ⟨v, rfl⟩
      | [], h => simp [hs] at h
      | _ :: _ :: _, h => simp [hs] at h
    refine ⟨v, VC.ofOne (by rw [ha, hx]), ?_⟩
    simp [hm.1]

/-! ### What an operation yields -/

/-- o, from such a frame, yields what s says for slot t, in grown memory. -/
def Yields (P : Program) (o : Oper) (a : Act) (ρ : Nat → Tag) (w : World) (E : Nat → Slot) (t : Nat) (s : Slot) : Prop :=
  ∀ (Q : Exit → Act → World → Prop) (K : Act → World → Prop), (∀ v ρ' w', Grow ρ w ρ' w' → RS ρ' w' a.tmps E t v s → K (a.put o.dst v) w') → o.wp P a w K Q

omit [Tables] in
theorem Yields.val {o : Oper} {a : Act} {s : Slot} {v : Value} (h : (execOp a.eval o).run P w = .ok (.value v) w') (g : Grow ρ w ρ' w') (hs : RS ρ' w' a.tmps E t v s) :
    Yields P o a ρ w E t s := by
  intro Q K hK
  unfold Oper.wp
  rw [h]
  exact hK v ρ' w' g hs

theorem Yields.pure {o : Oper} {a : Act} {s : Slot} {v : Value} (hI : Inv n ρ w a.tmps E) (h : (execOp a.eval o).run P w = .ok (.value v) w) (hs : RS ρ w a.tmps E t v s) :
    Yields P o a ρ w E t s := .val h (.refl hI.lt) hs

def BinV (P : Program) (op : BinOp) (T : TypeId) (x y : Operand) (a b z : Value) : Prop :=
  ∀ w, (do eqGuard op T x y a b; binOp op T a b : Sem Value).run P w = .ok z w

/-- The parts of a struct that is built: the fields named, the others as at the zero. -/
def built : List D → List (Nat × D) → List D
  | zs, [] => zs
  | zs, (i, x) :: r => built (zs.set i x) r

inductive OpDs (E : Nat → Slot) : List Operand → List D → Prop
  | nil : OpDs E [] []
  | cons {o x os xs} : OpD E o x → OpDs E os xs → OpDs E (o :: os) (x :: xs)

theorem OpDs.sound {a : Act} {os : List Operand} {xs : List D} (hI : Inv n ρ w a.tmps E) (h : OpDs E os xs) : Rpv (sh ρ) w xs (os.map a.eval) := by
  induction h with
  | nil => simp [Rpv]
  | cons h1 _ ih =>
    simp only [List.map_cons, Rpv]
    obtain ⟨cs, h2, h3⟩ := h1.sound hI
    exact ⟨_, _, cs, rfl, h2, h3, ih⟩

omit [Tables] in
theorem OpDs.stable {E' : Nat → Slot} {os : List Operand} {xs : List D} (h : OpDs E os xs) (hE : ∀ t ∈ os.flatMap operand, E' t = E t) : OpDs E' os xs := by
  induction h with
  | nil => exact .nil
  | cons h1 _ ih =>
    simp only [List.flatMap_cons, List.mem_append] at hE
    exact .cons (h1.stable fun t ht => hE t (.inl ht)) (ih fun t ht => hE t (.inr ht))

omit [Tables] in
theorem Rpv.app {S : Nat → Prop} : ∀ {xs ys : List D} {us vs : List Value}, Rpv S w xs us → Rpv S w ys vs → Rpv S w (xs ++ ys) (us ++ vs)
  | [], _, _, _, h, k => by simp only [Rpv] at h; subst h; simpa using k
  | x :: xs, ys, us, vs, h, k => by
    simp only [Rpv] at h
    obtain ⟨u, y, cs, rfl, h1, h2, h3⟩ := h
    simp only [List.cons_append, Rpv]
    exact ⟨u, _, cs, rfl, h1, h2, Rpv.app h3 k⟩

def Callable (P : Program) (f : FuncId) : Prop := ∃ fn, P.funcs[f]? = some fn ∧ (fn.name == "runtime.NumGoroutine") = false ∧ fn.body.isNone = false

omit [Tables] in
theorem callFunc_run {f : FuncId} {args : Array Value} (h : Callable P f) : (callFunc f args).run P w = .ok (.enter f args) w := by
  obtain ⟨fn, h1, h2, h3⟩ := h
  simp only [callFunc, Sem.run_bind, run_program, Result.andThen_ok, h1, h2, h3, Bool.false_eq_true, if_false, Sem.run_pure]

omit [Tables] in
/-- What a function value is called with. -/
theorem callValue_run {o : Oper} {a : Act} {x : Operand} {args : Array Operand} {ts : Array TypeId} {f : FuncId} {first cap : Array Value}
    (ho : o.op = .call { callee := .value x, args := args, argTypes := ts }) (hx : a.eval x = .func (.func f) first cap) (hf : Callable P f) :
    (execOp a.eval o).run P w = .ok (.enter f (first ++ args.map a.eval ++ cap)) w := by
  simp [execOp, ho, resolve, Deferred.ofValue, hx, invoke, callFunc_run hf]

end Go.Dat

namespace Go.Dat

variable [Tables]

variable {P : Program} {Θ : TypeId → TI} {n : Nat} {ρ ρ' : Nat → Tag} {w w' : World} {E : Nat → Slot} {t : Nat} {u : Value}

/-- Slot k is an address in the box of slot s. -/
def Adr (E : Nat → Slot) (k s : Nat) (p : List Nat) (x : D) : Prop := E s = .box x ∧ (E k = .ref s p ∨ (k = s ∧ p = []))
/-- Slot k is the own slice at (s, p). -/
def Vw (E : Nat → Slot) (k s : Nat) (p : List Nat) (nl : Bool) (e es : Nat) (xs : List D) : Prop :=
  (E k = .view s p ∧ (E s = .d (.own nl e es xs) ∨ ∃ x, E s = .box x ∧ x.get p = .own nl e es xs)) ∨ (E k = .d (.own nl e es xs) ∧ k = s ∧ p = [])
/-- Slot k is an address in an element of the own slice at (s, p). -/
def Elt (E : Nat → Slot) (k s : Nat) (p : List Nat) (i : Nat) (q : List Nat) (nl : Bool) (e es : Nat) (xs : List D) : Prop :=
  E k = .elt s p i q ∧ ((E s = .d (.own nl e es xs)) ∨ ∃ x, E s = .box x ∧ x.get p = .own nl e es xs)

def Same (s : Slot) : Bool := match s with | .ref _ _ => true | .view _ _ => true | .elt _ _ _ _ => true | .sub _ _ _ _ => true | _ => false

def BinD (P : Program) (op : BinOp) (T : TypeId) (x y : Operand) (a b z : D) : Prop :=
  ∀ (S : Nat → Prop) w u v, RD S w a u → RD S w b v → ∃ q, (do eqGuard op T x y u v; binOp op T u v : Sem Value).run P w = .ok q w ∧ RD S w z q
def UnD (P : Program) (op : UnOp) (a z : D) : Prop := ∀ (S : Nat → Prop) w u, RD S w a u → ∃ q, (Op.unary op u).run P w = .ok q w ∧ RD S w z q
def CvD (P : Program) (src dst : TypeId) (a z : D) : Prop := ∀ (S : Nat → Prop) w u, RD S w a u → ∃ q, (convert src dst u).run P w = .ok q w ∧ RD S w z q
/-- An operation over plain values: what a call of a builtin, an index, a slice expression comes to. -/
def ExD (P : Program) (o : Oper) (xs : List (Operand × D)) (z : D) : Prop :=
  ∀ (S : Nat → Prop) w (ev : Operand → Value), (∀ c, ev (.const c) = c) → (∀ x ∈ xs, RD S w x.2 (ev x.1)) → ∃ q, (execOp ev o).run P w = .ok (.value q) w ∧ RD S w z q

/-- An operand that is a slice, whose elements are these. -/
inductive Src (E : Nat → Slot) : Operand → Nat → List D → Prop
  | lst {x k es ys} : OpD E x (.lst k es ys) → Src E x es ys
  | vw {k s p nl e es ys} : Vw E k s p nl e es ys → Src E (.tmp k) es ys
  | sub {k s i j nl e es xs} : E k = .sub s [] i j → E s = .d (.own nl e es xs) → Src E (.tmp k) es ((xs.take j).drop i)

/-- Arguments, own slices among them, that are looked at alone. -/
inductive BArgs (E : Nat → Slot) : List Operand → List D → Prop
  | nil : BArgs E [] []
  | plain {o x os xs} : OpD E o x → BArgs E os xs → BArgs E (o :: os) (x :: xs)
  | own {k s p nl e es xs os ds} : Vw E k s p nl e es xs → 0 < es → BArgs E os ds → BArgs E (.tmp k :: os) (.lst .any es xs :: ds)

mutual
/-- It holds plain cells alone. -/
def D.flatv : D → Bool
  | .v _ => true
  | .st ds => flatvs ds
  | .arr _ ds => flatvs ds
  | .tup ds => flatvs ds
  | .dead _ => true
  | _ => false
def flatvs : List D → Bool
  | [] => true
  | d :: ds => d.flatv && flatvs ds
end

/-- It holds plain cells alone, or is a new slice of such. -/
def D.fl : D → Bool
  | .own _ _ _ xs => flatvs xs
  | d => d.flatv

def D.isTup : D → Bool
  | .tup _ => true
  | _ => false

/-- What an operand reads as, to one who only reads. -/
inductive WOp (E : Nat → Slot) : Operand → D → Prop
  | pl {o x} : OpD E o x → WOp E o x
  | wk {k x} : E k = .wk x → x.isTup = false → WOp E (.tmp k) x
  | adr {k s p x} : Adr E k s p x → WOp E (.tmp k) (.pt (x.get p).lend)
  | vw {k s p nl e es xs} : Vw E k s p nl e es xs → WOp E (.tmp k) (.lst .any es xs)
  | elt {k s p i q nl e es xs} : Elt E k s p i q nl e es xs → WOp E (.tmp k) (.pt ((xs.getD i un).get q))

inductive WOps (E : Nat → Slot) : List Operand → List D → Prop
  | nil : WOps E [] []
  | cons {o x os xs} : WOp E o x → WOps E os xs → WOps E (o :: os) (x :: xs)

/-- What a map has at a key; a map with another value there. -/
def mget : List (Int × D) → Int → Option D
  | [], _ => none
  | x :: m, i => if i = x.1 then some x.2 else mget m i
def mput : List (Int × D) → Int → D → List (Int × D)
  | [], i, d => [(i, d)]
  | x :: m, i, d => if i = x.1 then (x.1, d) :: m else x :: mput m i d

/-- A bound of a slice expression. -/
inductive Bnd (E : Nat → Slot) : Option Operand → Nat → Nat → Prop
  | no {d} : Bnd E none d d
  | at {x d k v} : OpD E x (.v (.int k v)) → 0 ≤ v → Bnd E (some x) d v.toNat

inductive Ev (P : Program) (Θ : TypeId → TI) (E : Nat → Slot) : Oper → Slot → Prop
  | mv {o x d} : (o.op = .move x ∨ o.op = .assign x) → OpD E x d → Ev P Θ E o (.d d)
  | mvBox {o s x} : o.op = .move (.tmp s) → E s = .box x → Ev P Θ E o (.ref s [])
  | mvOwn {o s nl e es xs} : o.op = .move (.tmp s) → E s = .d (.own nl e es xs) → Ev P Θ E o (.view s [])
  | mvSame {o k s} : (o.op = .move (.tmp k) ∨ o.op = .assign (.tmp k) ∨ o.op = .nilCheck (.tmp k)) → E k = s → Same s = true → Ev P Θ E o s
  | mvTup {o k ds} : o.op = .move (.tmp k) → E k = .d (.tup ds) → noOwns ds = true → Ev P Θ E o (.d (.tup ds))
  | pickT {o c x y d} : o.op = .pick c x y → OpD E c (.v (.bool true)) → OpD E x d → Ev P Θ E o (.d d)
  | pickF {o c x y d} : o.op = .pick c x y → OpD E c (.v (.bool false)) → OpD E y d → Ev P Θ E o (.d d)
  | alloc {o T} : o.op = .alloc T → (Θ T).known = true → Ev P Θ E o (.box (Θ T).z)
  | box {o T x d} : o.op = .box T x → OpD E x d → Ev P Θ E o (.box d)
  | ldBox {o T k s p x} : o.op = .load T (.tmp k) → Adr E k s p x → (Θ T).fits (x.get p) = true → (x.get p).pl = true → Ev P Θ E o (.d (x.get p))
  | ldView {o T k s p x nl e es xs} : o.op = .load T (.tmp k) → Adr E k s p x → x.get p = .own nl e es xs → (Θ T).fits (.own nl e es xs) = true → Ev P Θ E o (.view s p)
  | ldElt {o T k s p i q nl e es xs} : o.op = .load T (.tmp k) → Elt E k s p i q nl e es xs → (Θ T).fits ((xs.getD i un).get q) = true → Ev P Θ E o (.d ((xs.getD i un).get q))
  | ldPt {o T k x} : o.op = .load T (.tmp k) → E k = .d (.pt x) → (Θ T).fits x = true → Ev P Θ E o (.d x)
  | faBox {o T k f s p x ds fs Tf} : o.op = .fieldAddr T (.tmp k) f → Adr E k s p x → x.get p = .st ds → f < ds.length → (Θ T).td = .st fs → fs[f]? = some (Tf, sizes (ds.take f)) → Ev P Θ E o (.ref s (p ++ [f]))
  | faElt {o T k f s p i q nl e es xs ds fs Tf} : o.op = .fieldAddr T (.tmp k) f → Elt E k s p i q nl e es xs → (xs.getD i un).get q = .st ds → f < ds.length → (Θ T).td = .st fs → fs[f]? = some (Tf, sizes (ds.take f)) →
      Ev P Θ E o (.elt s p i (q ++ [f]))
  | faPt {o T k f ds fs Tf} : o.op = .fieldAddr T (.tmp k) f → E k = .d (.pt (.st ds)) → f < ds.length → (Θ T).td = .st fs → fs[f]? = some (Tf, sizes (ds.take f)) → Ev P Θ E o (.d (.pt (ds.getD f un)))
  | iaBox {o T k ix s p x es ds ik i e} : o.op = .indexAddr T (.tmp k) ix → Adr E k s p x → x.get p = .arr es ds → OpD E ix (.v (.int ik i)) → 0 ≤ i → i.toNat < ds.length → (Θ T).td = .ar ds.length e es →
      Ev P Θ E o (.ref s (p ++ [i.toNat]))
  | iaPt {o T k ix es ds ik i e} : o.op = .indexAddr T (.tmp k) ix → E k = .d (.pt (.arr es ds)) → OpD E ix (.v (.int ik i)) → 0 ≤ i → i.toNat < ds.length → (Θ T).td = .ar ds.length e es → Ev P Θ E o (.d (.pt (ds.getD i.toNat un)))
  | iaLst {o T x ix sk es xs ik i e b} : o.op = .indexAddr T x ix → OpD E x (.lst sk es xs) → OpD E ix (.v (.int ik i)) → 0 ≤ i → i.toNat < xs.length → (Θ T).td = .sl e es b → Ev P Θ E o (.d (.pt (xs.getD i.toNat un)))
  | iaView {o T k ix s p nl e es xs ik i e' b} : o.op = .indexAddr T (.tmp k) ix → Vw E k s p nl e es xs → OpD E ix (.v (.int ik i)) → 0 ≤ i → i.toNat < xs.length → (Θ T).td = .sl e' es b → Ev P Θ E o (.elt s p i.toNat [])
  | buildSlice {o T len e es b} {parts : Array (Nat × Operand)} {xs : List D} : o.op = .buildSlice T len parts → OpDs E (parts.toList.map (·.2)) xs → parts.toList.map (·.1) = List.range len → (Θ T).td = .sl e es b →
      (∀ x ∈ xs, x.size = es) → len * es ≤ 16777216 → Ev P Θ E o (.d (.own false e es xs))
  | buildShared {o T len e es b} {parts : Array (Nat × Operand)} {xs : List D} : o.op = .buildSlice T len parts → OpDs E (parts.toList.map (·.2)) xs → parts.toList.map (·.1) = List.range len → (Θ T).td = .sl e es b →
      (∀ x ∈ xs, x.size = es) → len * es ≤ 16777216 → Ev P Θ E o (.d (.lst .any es xs))
  | build {o T fs zs} {parts : Array (Nat × Operand)} {xs : List D} : o.op = .build T parts → OpDs E (parts.toList.map (·.2)) xs → (Θ T).td = .st fs → (Θ T).z = .st zs →
      (∀ ix ∈ (parts.toList.map (·.1)).zip xs, ∃ Tf, fs[ix.1]? = some (Tf, sizes (zs.take ix.1)) ∧ (Θ Tf).fits ix.2 = true ∧ ix.1 < zs.length ∧ (zs.getD ix.1 un).size = ix.2.size) →
      Ev P Θ E o (.d (.st (built zs ((parts.toList.map (·.1)).zip xs))))
  | bin {o op T x y T2 a b z} : o.op = .binOp op T x y T2 → OpD E x a → OpD E y b → BinD P op T x y a b z → Ev P Θ E o (.d z)
  | uno {o op T x a z} : o.op = .unOp op T x → OpD E x a → UnD P op a z → Ev P Θ E o (.d z)
  | cv {o src dst x a z} : o.op = .convert src dst x → OpD E x a → CvD P src dst a z → Ev P Θ E o (.d z)
  | mf {o f first cap fs cs} : o.op = .makeFunc f first cap → OpDs E first.toList fs → OpDs E cap.toList cs → Ev P Θ E o (.d (.fn f fs cs))
  | ext {o k i ds} : o.op = .extract (.tmp k) i → E k = .d (.tup ds) → i < ds.length → (ds.getD i un).pl = true → Ev P Θ E o (.d (ds.getD i un))
  | lenView {o k T s p nl e es xs e' es' b} : o.op = .call { callee := .builtin .len, args := #[.tmp k], argTypes := #[T] } → Vw E k s p nl e es xs → (Θ T).td = .sl e' es' b → Ev P Θ E o (.d (.v (.int .i64 xs.length)))
  | subView {o T k lo hi s p nl e es xs e' b i j} : o.op = .slice T (.tmp k) lo hi none → Vw E k s p nl e es xs → (Θ T).td = .sl e' es b → Bnd E lo 0 i → Bnd E hi xs.length j → i ≤ j → j ≤ xs.length → Ev P Θ E o (.sub s p i j)
  | lenSub {o k T s p i j e' es' b} : o.op = .call { callee := .builtin .len, args := #[.tmp k], argTypes := #[T] } → E k = .sub s p i j → (Θ T).td = .sl e' es' b → Ev P Θ E o (.d (.v (.int .i64 ((j - i : Nat) : Int))))
  | iaSub {o T k ix s p i j nl e es xs ik m e' b} : o.op = .indexAddr T (.tmp k) ix → E k = .sub s p i j → (E s = .d (.own nl e es xs)) → p = [] → OpD E ix (.v (.int ik m)) → 0 ≤ m → m.toNat < j - i → (Θ T).td = .sl e' es b → Ev P Θ E o (.elt s p (i + m.toNat) [])
  | mk {o T l c e es b kl kc m z} : o.op = .makeSlice T l c → OpD E l (.v (.int kl m)) → OpD E c (.v (.int kc m)) → (Θ T).td = .sl e es b → (Θ e).known = true → (Θ e).z = z → 0 ≤ m → m.toNat * b ≤ 281474976710656 → m.toNat ≤ maxLen →
      Ev P Θ E o (.d (.own false e es (List.replicate m.toNat z)))
  | plain {o z} {xs : List (Operand × D)} : (∀ x ∈ xs, OpD E x.1 x.2 ∧ x.1 ∈ o.op.operands.toList) → ExD P o xs z → Ev P Θ E o (.d z)
  | appNil {o x T e es b es' ys} {s : Operand} : o.op = .call { callee := .builtin .append, args := #[s, x], argTypes := #[T, T] } → OpD E s (.lst .nl es' []) → Src E x es ys → (Θ T).td = .sl e es b → ys.length * b ≤ 140737488355328 → ys.length ≤ maxLen →
      Ev P Θ E o (.d (.own ys.isEmpty e es ys))
  | callB {o fo args ts f fs cs ds r} : o.op = .call { callee := .value fo, args := args, argTypes := ts } → OpD E fo (.fn (.func f) fs cs) → BArgs E args.toList ds → Callable P f → DFun P f (fs ++ ds ++ cs) r → r.flatv = true → Ev P Θ E o (.d r)
  | call {o fo args ts f fs cs ds r} : o.op = .call { callee := .value fo, args := args, argTypes := ts } → OpD E fo (.fn (.func f) fs cs) → OpDs E args.toList ds → Callable P f → DFun P f (fs ++ ds ++ cs) r → Ev P Θ E o (.d r)
  | wmv {o k x} : (o.op = .move (.tmp k) ∨ o.op = .assign (.tmp k)) → E k = .wk x → Ev P Θ E o (.wk x)
  | wplain {o z} {xs : List (Operand × D)} : (∀ x ∈ xs, WOp E x.1 x.2 ∧ x.1 ∈ o.op.operands.toList) → ExD P o xs z → Ev P Θ E o (.wk z)
  | wplainF {o z} {xs : List (Operand × D)} : (∀ x ∈ xs, WOp E x.1 x.2 ∧ x.1 ∈ o.op.operands.toList) → ExD P o xs z → z.flatv = true → Ev P Θ E o (.d z)
  | wmf {o f first cap fs cs} : o.op = .makeFunc f first cap → WOps E first.toList fs → WOps E cap.toList cs → Ev P Θ E o (.wk (.fn f fs cs))
  | wext {o k i ds} : o.op = .extract (.tmp k) i → E k = .wk (.tup ds) → i < ds.length → Ev P Θ E o (.wk (ds.getD i un))
  | wextF {o k i ds} : o.op = .extract (.tmp k) i → E k = .wk (.tup ds) → i < ds.length → (ds.getD i un).flatv = true → Ev P Θ E o (.d (ds.getD i un))
  | wcall {o fo args ts f fs cs ds r} : o.op = .call { callee := .value fo, args := args, argTypes := ts } → WOp E fo (.fn (.func f) fs cs) → WOps E args.toList ds → Callable P f → DFun P f (fs ++ ds ++ cs) r → r.fl = true → Ev P Θ E o (.d r)
  | mvMap {o s k m} : (o.op = .move (.tmp s) ∨ o.op = .assign (.tmp s)) → E s = .mp k m → Ev P Θ E o (.mq s)
  | mvMq {o k s} : (o.op = .move (.tmp k) ∨ o.op = .assign (.tmp k)) → E k = .mq s → Ev P Θ E o (.mq s)
  | makeMap {o T k} : o.op = .makeMap T none → Ev P Θ E o (.mp k [])
  | lookup {o T q x s k m i T1 T2 d k0} : o.op = .lookup T (.tmp q) x false → E q = .mq s → E s = .mp k m → P.underlying T = some (.map T1 T2) → P.underlying T1 = some (.int k0) → OpD E x (.v (.int k i)) → mget m i = some d → d.pl = true → Ev P Θ E o (.d d)
  | lookupNo {o T q x s k m i T1 T2 k0} : o.op = .lookup T (.tmp q) x false → E q = .mq s → E s = .mp k m → P.underlying T = some (.map T1 T2) → P.underlying T1 = some (.int k0) → OpD E x (.v (.int k i)) → mget m i = none → (Θ T2).known = true → (Θ T2).z.pl = true → Ev P Θ E o (.d (Θ T2).z)
  | lookupOk {o T q x s k m i T1 T2 d k0} : o.op = .lookup T (.tmp q) x true → E q = .mq s → E s = .mp k m → P.underlying T = some (.map T1 T2) → P.underlying T1 = some (.int k0) → OpD E x (.v (.int k i)) → mget m i = some d → d.pl = true → Ev P Θ E o (.d (.tup [d, .v (.bool true)]))
  | lookupOkNo {o T q x s k m i T1 T2 k0} : o.op = .lookup T (.tmp q) x true → E q = .mq s → E s = .mp k m → P.underlying T = some (.map T1 T2) → P.underlying T1 = some (.int k0) → OpD E x (.v (.int k i)) → mget m i = none → (Θ T2).known = true → (Θ T2).z.pl = true → Ev P Θ E o (.d (.tup [(Θ T2).z, .v (.bool false)]))
  | wcallW {o fo args ts f fs cs ds r} : o.op = .call { callee := .value fo, args := args, argTypes := ts } → WOp E fo (.fn (.func f) fs cs) → WOps E args.toList ds → Callable P f → DFun P f (fs ++ ds ++ cs) r → r.noOwn = true → Ev P Θ E o (.wk r)

omit [Tables] in
theorem BoxAt.mem {b : Nat} {cs : List Value} (h : BoxAt w b cs) : Mem w b 0 cs := by
  obtain ⟨e, h⟩ := h
  refine Mem.ofAt fun j v hj => ?_
  rw [cell_of_row w b _ _ _ _ h]
  simpa using hj

/-- An address in a box: where it is, and what lies there. -/
theorem Adr.sound {tmps : Array Value} {k s : Nat} {p : List Nat} {x : D} (hI : Inv n ρ w tmps E) (h : Adr E k s p x) :
    ∃ b cs, tmps.getD s undef = .pointer (some ⟨b, 0, none⟩) ∧ tmps.getD k undef = .pointer (some ⟨b, x.off p, none⟩) ∧ ρ b = .bx s ∧ BoxAt w b cs ∧ RB ρ w s [] x cs ∧ x.okp p := by
  obtain ⟨h1, h2⟩ := h
  obtain ⟨b, cs, g1, g2, g3, g4⟩ := hI.box h1
  rcases h2 with h2 | ⟨rfl, rfl⟩
  · have := hI.slot k
    rw [h2] at this
    obtain ⟨x', b', e1, e2, e3, e4⟩ := this
    rw [h1] at e1
    cases e1
    rw [g1] at e3
    cases e3
    exact ⟨b, cs, g1, e4, g2, g3, g4, e2⟩
  · exact ⟨b, cs, g1, by simpa [D.off] using g1, g2, g3, g4, by simp [D.okp]⟩

theorem Vw.sound {tmps : Array Value} {k s : Nat} {p : List Nat} {nl e es xs} (hI : Inv n ρ w tmps E) (h : Vw E k s p nl e es xs) : OwnAt w tmps E s p nl e es xs (tmps.getD k undef) := by
  rcases h with ⟨h1, h2⟩ | ⟨h1, rfl, rfl⟩
  · have := hI.slot k
    rw [h1] at this
    obtain ⟨nl', e', es', xs', ho⟩ := this
    rcases ho with ⟨g1, g2, g3⟩ | ⟨x, b, g1, g2, g3, g4, g5⟩
    · rcases h2 with h2 | ⟨x, h2, _⟩
      · rw [g1] at h2; cases h2
        exact .inl ⟨g1, g2, g3⟩
      · rw [g1] at h2; cases h2
    · rcases h2 with h2 | ⟨x', h2, h3⟩
      · rw [g1] at h2; cases h2
      · rw [g1] at h2; cases h2
        exact .inr ⟨x, b, g1, g2, h3, g4, g5⟩
  · exact .inl ⟨h1, rfl, rfl⟩

omit [Tables] in
theorem RV.own {x : Value} {nl e es xs} (h : RV ρ w t (.own nl e es xs) x) : ROwn ρ w (.sl t []) nl e es xs x := by
  obtain ⟨cs, h1, h2⟩ := h
  simp only [RB] at h1
  obtain ⟨v, rfl, h3⟩ := h1
  simp only [VC] at h2
  obtain rfl : v = x := by simpa using h2
  exact h3

/-- The own slice at a place is one, and its tag is its place. -/
theorem OwnAt.own {tmps : Array Value} {s : Nat} {p : List Nat} {nl e es xs v} (hI : Inv n ρ w tmps E) (h : OwnAt w tmps E s p nl e es xs v) : ROwn ρ w (.sl s p) nl e es xs v := by
  rcases h with ⟨h1, rfl, rfl⟩ | ⟨x, b, h1, h2, h3, h4, h5⟩
  · have := hI.slot s
    rw [h1] at this
    exact this.own
  · obtain ⟨b', cs, g1, g2, g3, g4⟩ := hI.box h1
    rw [h4] at g1; cases g1
    obtain ⟨a, m, c, e1, e2, e3, _⟩ := RB.lens p x g4 h2
    rw [h3] at e3
    simp only [RB, List.nil_append] at e3
    obtain ⟨v', rfl, h6⟩ := e3
    have hm := g3.mem
    rw [e1, Mem.app, Mem.app] at hm
    have h7 := hm.1.2.1
    rw [e2] at h7
    rw [show 0 + x.off p = x.off p by omega] at h7
    rw [h5] at h7
    cases h7
    exact h6

end Go.Dat

namespace Go.Dat

variable [Tables]

variable {P : Program} {Θ : TypeId → TI} {n : Nat} {ρ ρ' : Nat → Tag} {w w' : World} {E : Nat → Slot} {t : Nat} {u : Value}

omit [Tables] in
theorem splice_toList : ∀ (l : List Value) (off k : Nat) (cells : Array Value), off + k + l.length ≤ cells.size →
    ((l.zipIdx k).foldl (fun (cs : Array Value) (x : Value × Nat) => cs.setIfInBounds (off + x.2) x.1) cells).toList = cells.toList.take (off + k) ++ l ++ cells.toList.drop (off + k + l.length)
  | [], off, k, cells, _ => by simp
  | v :: l, off, k, cells, h => by
    simp only [List.zipIdx_cons, List.foldl_cons]
    rw [splice_toList l off (k + 1) _ (by simp at h ⊢; omega)]
    have hk : off + k < cells.toList.length := by simp at h ⊢; omega
    simp only [Array.toList_setIfInBounds]
    have e1 : (cells.toList.set (off + k) v).take (off + (k + 1)) = cells.toList.take (off + k) ++ [v] := by
      rw [← Nat.add_assoc, List.take_set, List.take_succ_eq_append_getElem hk]
      have hmin : min (off + k) cells.size = off + k := by simp at hk; omega
      rw [List.set_append_right _ _ (by simp [hmin])]
      simp [hmin]
    have e2 : (cells.toList.set (off + k) v).drop (off + (k + 1) + l.length) = cells.toList.drop (off + k + (v :: l).length) := by
      rw [List.drop_set_of_lt (by omega)]
      congr 1
      simp
      omega
    rw [e1, e2]
    simp

omit [Tables] in
theorem fill_step (place : Nat → Option (Nat × Nat)) (cells : Array Value) (i : Nat) (v : Value) (rest : List (Nat × Value)) {off : Nat} (hp : place i = some (off, v.cells.size)) (hb : off + v.cells.size ≤ cells.size) :
    ∃ c' : Array Value, Instr.fill place cells ((i, v) :: rest) = Instr.fill place c' rest ∧ c'.toList = cells.toList.take off ++ v.cells.toList ++ cells.toList.drop (off + v.cells.size) ∧ c'.size = cells.size := by
  refine ⟨v.cells.zipIdx.foldl (fun cs (c, j) => cs.setIfInBounds (off + j) c) cells, ?_, ?_, ?_⟩
  · have h2 : ¬ (off + v.cells.size > cells.size) := by omega
    simp only [Instr.fill, hp]
    simp [h2]
  all_goals
    have h3 : (v.cells.zipIdx.foldl (fun (cs : Array Value) (x : Value × Nat) => cs.setIfInBounds (off + x.2) x.1) cells).toList = cells.toList.take off ++ v.cells.toList ++ cells.toList.drop (off + v.cells.size) := by
      rw [← Array.foldl_toList]
      have := splice_toList v.cells.toList off 0 cells (by simpa using hb)
      simpa using this
  · exact h3
  · have := congrArg List.length h3
    simp only [Array.length_toList, List.length_append, List.length_take, List.length_drop] at this
    rw [this]
    omega

omit [Tables] in
theorem fill_row (es : Nat) : ∀ (vs : List Value) (k : Nat) (cells : Array Value), (∀ v ∈ vs, v.cells.size = es) → (k + vs.length) * es = cells.size →
    ∃ c' : Array Value, Instr.fill (fun i => some (i * es, es)) cells ((List.range' k vs.length).zip vs) = some c' ∧ c'.toList = cells.toList.take (k * es) ++ vs.flatMap (·.cells.toList)
  | [], k, cells, _, h => ⟨cells, rfl, by
    have h' : k * es = cells.toList.length := by simpa using h
    rw [h', List.take_length]
    simp⟩
  | v :: vs, k, cells, hv, h => by
    have hve := hv v (by simp)
    have hmul : (k + (v :: vs).length) * es = k * es + es + vs.length * es := by simp only [List.length_cons, Nat.add_mul, Nat.one_mul]; omega
    obtain ⟨c1, h1, h2, h3⟩ := fill_step (fun i => some (i * es, es)) cells k v ((List.range' (k + 1) vs.length).zip vs) (off := k * es) (by simp [hve]) (by rw [hve]; omega)
    obtain ⟨c2, h4, h5⟩ := fill_row es vs (k + 1) c1 (fun v hv' => hv v (by simp [hv'])) (by rw [h3, ← h]; congr 1; simp; omega)
    refine ⟨c2, ?_, ?_⟩
    · rw [List.length_cons, List.range'_succ, List.zip_cons_cons, h1, h4]
    · rw [h5, h2, hve]
      have hlen : (cells.toList.take (k * es)).length = k * es := by simp; omega
      have hl2 : v.cells.toList.length = es := by simpa using hve
      rw [show (k + 1) * es = (cells.toList.take (k * es) ++ v.cells.toList).length by rw [List.length_append, hlen, hl2]; simp [Nat.add_mul]]
      rw [List.take_left]
      simp

omit [Tables] in
/-- Values of one size, as elements. -/
theorem Rpa.ofVals {S : Nat → Prop} {es : Nat} : ∀ {xs : List D} {vs : List Value}, Rpv S w xs vs → (∀ x ∈ xs, x.size = es) → Rpa S w es xs (vs.flatMap (·.cells.toList)) ∧ vs.length = xs.length ∧ ∀ v ∈ vs, v.cells.size = es
  | [], _, h, _ => by simp only [Rpv] at h; subst h; simp [Rpa]
  | x :: xs, _, h, hs => by
    simp only [Rpv] at h
    obtain ⟨u, y, cs, rfl, h1, h2, h3⟩ := h
    have hc := RD.cells ⟨cs, h1, h2⟩
    have hl := Rp.len x hc
    rw [hs x (by simp)] at hl
    obtain ⟨g1, g2, g3⟩ := Rpa.ofVals h3 (fun x hx => hs x (by simp [hx]))
    refine ⟨?_, by simp [g2], ?_⟩
    · simp only [List.flatMap_cons, Rpa]
      exact ⟨_, _, rfl, hl, hc, g1⟩
    · intro v hv
      rcases List.mem_cons.1 hv with rfl | hv
      · simpa using hl
      · exact g3 v hv

omit [Tables] in
theorem zip_fst_snd {α β : Type} : ∀ (l : List (α × β)), (l.map (·.1)).zip (l.map (·.2)) = l
  | [] => rfl
  | x :: l => by simp [zip_fst_snd l]

omit [Tables] in
theorem buildSlice_run {S : Nat → Prop} {T len e es b : Nat} {parts : List (Nat × Value)} {xs : List D} (h : TD.says P T (.sl e es b)) (hv : Rpv S w xs (parts.map (·.2))) (hi : parts.map (·.1) = List.range len)
    (hs : ∀ x ∈ xs, x.size = es) (hb : len * es ≤ 16777216) :
    ∃ c : Array Value, (Instr.buildSlice T len parts.toArray).run P w = .ok (.slice (some ⟨w.heap.size, 0, none⟩) len len) (w.alloc (.cells c e)) ∧ Rpa S w es xs c.toList ∧ c.size = len * es ∧ xs.length = len := by
  obtain ⟨h1, i, z, h2, h3, h4, h5, h6, h7⟩ := h
  obtain ⟨g1, g2, g3⟩ := Rpa.ofVals hv hs
  have hlen : parts.length = len := by have := congrArg List.length hi; simpa using this
  have hparts : parts = (List.range' 0 (parts.map (·.2)).length).zip (parts.map (·.2)) := by
    conv => lhs; rw [← zip_fst_snd parts]
    rw [hi, List.length_map, hlen, List.range_eq_range']
  obtain ⟨c, k1, k2⟩ := fill_row es (parts.map (·.2)) 0 ((Array.range (len * es)).map fun j => (if len * es = 0 then #[] else z.cells)[j % (if len * es = 0 then #[] else z.cells).size]!) g3 (by simp [hlen])
  rw [← hparts] at k1
  have hbig : ¬ (16777216 < len * es) := by omega
  refine ⟨c, ?_, ?_, ?_, ?_⟩
  · by_cases h0 : len * es = 0
    · obtain rfl : len = 0 := by rcases Nat.mul_eq_zero.1 h0 with h | h <;> omega
      obtain rfl : parts = [] := by simpa using hlen
      simp only [h0, if_true, Instr.fill, Option.some.injEq] at k1
      subst k1
      simp [Instr.buildSlice, run_underlying h1, sizeOf, typeInfo, h2, Instr.fill, newRow]
    · simp only [h0, if_false] at k1
      simp [Instr.buildSlice, run_underlying h1, sizeOf, typeInfo, h2, h3, zeroValue, h5, h0, hbig, k1, newRow]
  · rw [k2]; simpa using g1
  · have hl : c.toList.length = es * xs.length := Rp.len.row xs (by rw [k2]; simpa using g1)
    rw [Array.length_toList] at hl
    rw [hl, ← g2, List.length_map, hlen, Nat.mul_comm]
  · rw [← g2]; simpa using hlen

/-! ### New blocks -/

def ext (ρ : Nat → Tag) (w : World) (tg : Tag) (b : Nat) : Tag := if b = w.heap.size then tg else ρ b

omit [Tables] in
theorem Grow.alloc (hlt : ∀ b, ρ b ≠ .other → b < w.heap.size) (tg : Tag) (o : Obj) : Grow ρ w (ext ρ w tg) (w.alloc o) := by
  refine ⟨fun b hb => ?_, fun b hb => ⟨?_, heap_alloc_old w o b hb⟩, fun b hb => ?_, rfl, rfl, rfl, by simp⟩
  · have := hlt b hb
    simp [ext, Nat.ne_of_lt this]
  · simp [ext, Nat.ne_of_lt hb]
  · simp only [ext] at hb
    split at hb
    · subst_vars; simp
    · have := hlt b hb; simp; omega

omit [Tables] in
theorem Grow.drew (g : Grow ρ w ρ' w') : Grow ρ w ρ' w'.drew := ⟨g.keep, g.old, g.lt, g.os, g.tape, g.output, g.size⟩

omit [Tables] in
theorem RS.newBox {tmps : Array Value} {d : D} {cs : Array Value} {e : TypeId} (hlt : ∀ b, ρ b ≠ .other → b < w.heap.size) (h : Rp (sh ρ) w d cs.toList) :
    RS (ext ρ w (.bx t)) (w.alloc (.cells cs e)) tmps E t (.pointer (some ⟨w.heap.size, 0, none⟩)) (.box d) := by
  have g := Grow.alloc hlt (.bx t) (.cells cs e)
  refine ⟨w.heap.size, cs.toList, rfl, by simp [ext], ⟨e, ?_⟩, RB.ofRp ?_⟩
  · rw [heap_alloc_new]
  · exact Rp.mono (g.shd hlt) d h

omit [Tables] in
theorem RS.newOwn {tmps : Array Value} {xs : List D} {cs : Array Value} {e es cap : Nat} (hlt : ∀ b, ρ b ≠ .other → b < w.heap.size) (hes : xs.length ≤ cap) (hcap : cap ≤ maxLen) (hcs : cs.size = cap * es)
    (h : Rpa (sh ρ) w es xs (cs.toList.take (xs.length * es))) (hl : (cs.toList.take (xs.length * es)).length = xs.length * es) :
    RS (ext ρ w (.sl t [])) (w.alloc (.cells cs e)) tmps E t (.slice (some ⟨w.heap.size, 0, none⟩) xs.length cap) (.d (.own false e es xs)) := by
  have g := Grow.alloc hlt (.sl t []) (.cells cs e)
  refine ⟨[.slice (some ⟨w.heap.size, 0, none⟩) xs.length cap], ?_, rfl⟩
  simp only [RB]
  refine ⟨_, rfl, cs.toList.take (xs.length * es), ⟨hl, .inr ⟨w.heap.size, cap, cs, rfl, Nat.zero_le _, heap_alloc_new _ _, hes, hcap, hcs, rfl⟩⟩, ?_, by simp, ?_⟩
  · exact Rpa.mono (g.shd hlt) xs h
  · intro g' hg'
    simp only [Value.ownBlock, Option.some.injEq] at hg'
    subst hg'
    simp [ext]

/-! ### Structs -/

open Classical in
omit [Tables] in
theorem sh_tagS (S : Nat → Prop) : sh (tagS S) = S := by funext b; simp [sh, tagS]

omit [Tables] in
theorem fields_run (F : List Field) (h : ∀ f ∈ F, P.cellsOf f.type ≠ 0) :
    (F.mapM fun f => do pure (f.offset, ← sizeOf f.type) : Sem (List (Nat × Nat))).run P w = .ok (F.map fun f => (f.offset, P.cellsOf f.type)) w := by
  induction F with
  | nil => rfl
  | cons f F ih =>
    have h1 := h f (by simp)
    have h2 : (sizeOf f.type).run P w = .ok (P.cellsOf f.type) w := by
      unfold Program.cellsOf at h1 ⊢
      cases hq : P.info? f.type with
      | none => simp [hq] at h1
      | some i => simp [sizeOf, typeInfo, hq]
    simp only [List.mapM_cons, Sem.run_bind, h2, Result.andThen_ok, Sem.run_pure, ih (fun f hf => h f (by simp [hf])), List.map_cons]

omit [Tables] in
theorem fill_struct {S : Nat → Prop} {place : Nat → Option (Nat × Nat)} : ∀ (parts : List (Nat × Value)) (zs : List D) (xs : List D) (cells : Array Value), Rps S w zs cells.toList → Rpv S w xs (parts.map (·.2)) →
    (∀ ix ∈ (parts.map (·.1)).zip xs, place ix.1 = some (sizes (zs.take ix.1), ix.2.size) ∧ ix.1 < zs.length ∧ (zs.getD ix.1 un).size = ix.2.size) →
    ∃ c' : Array Value, Instr.fill place cells parts = some c' ∧ Rps S w (built zs ((parts.map (·.1)).zip xs)) c'.toList
  | [], zs, xs, cells, h, hv, _ => by
    exact ⟨cells, rfl, by simpa [built] using h⟩
  | (i, v) :: parts, zs, [], cells, h, hv, _ => by
    simp [Rpv] at hv
  | (i, v) :: parts, zs, x :: xs, cells, h, hv, hp => by
    simp only [List.map_cons, Rpv] at hv
    obtain ⟨u, y, cs, e1, h1, h2, h3⟩ := hv
    injection e1 with e1 e1'
    subst e1 e1'
    have hc := RD.cells ⟨cs, h1, h2⟩
    have hl := Rp.len x hc
    obtain ⟨p1, p2, p3⟩ := hp (i, x) (by simp)
    simp only at p1 p2 p3
    have hsz : v.cells.size = x.size := by simpa using hl
    -- the place of part i
    classical
    obtain ⟨a, m, b, q1, q2, q3, q4⟩ := RBs.lens (ρ := tagS S) (t := 0) (q := []) (k := 0) i zs ((RBs.plain zs (Rp.noOwn.many zs h)).2 (by rw [sh_tagS]; exact h)) p2
    have hm : m.length = x.size := by rw [RB.len _ q3, p3]
    have hcl : cells.size = a.length + m.length + b.length := by
      have := congrArg List.length q1
      simp only [Array.length_toList, List.length_append] at this
      omega
    obtain ⟨c1, f1, f2, f3⟩ := fill_step place cells i v parts (off := sizes (zs.take i)) (by rw [hsz]; exact p1) (by rw [← q2, hsz]; omega)
    have f2' : c1.toList = a ++ v.cells.toList ++ b := by
      rw [f2, q1, ← q2, hsz, ← hm]
      simp
    have hnew : Rps S w (zs.set i x) c1.toList := by
      rw [f2']
      have := q4 (tagS S) w ⟨fun b hb => ⟨hb, rfl⟩, fun b j r _ hb => ⟨rfl, rfl⟩⟩ x v.cells.toList (by rw [hl, hm]) (RB.ofRp (by rw [sh_tagS]; exact hc))
      have hno : noOwns (zs.set i x) = true := by
        have hz := Rp.noOwn.many zs h
        have hx := Rp.noOwn x hc
        clear q4 q3 q1 p1 p2 p3 hp f1 f2 f2' this q2 h
        revert i
        induction zs with
        | nil => intros; simp [noOwns]
        | cons z zs ih =>
          simp only [noOwns, Bool.and_eq_true] at hz
          intro i
          cases i with
          | zero => simp [noOwns, hx, hz.2]
          | succ i => simp [noOwns, hz.1, ih hz.2 i]
      have h5 := (RBs.plain (zs.set i x) hno).1 this
      rw [sh_tagS] at h5
      exact h5
    obtain ⟨c', g1, g2⟩ := fill_struct parts (zs.set i x) xs c1 hnew h3 (by
      intro ix hix
      obtain ⟨r1, r2, r3⟩ := hp ix (by simp [hix])
      have hsizes : ∀ (zs : List D) (i j : Nat), (zs.getD i un).size = x.size → i < zs.length → sizes ((zs.set i x).take j) = sizes (zs.take j) ∧ ((zs.set i x).getD j un).size = (zs.getD j un).size := by
        intro zs
        induction zs with
        | nil => intro i j _ h; simp at h
        | cons z zs ih =>
          intro i j hi hlt
          cases i with
          | zero =>
            simp at hi
            cases j <;> simp [sizes, hi]
          | succ i =>
            cases j with
            | zero => simp [sizes]
            | succ j =>
              obtain ⟨k1, k2⟩ := ih i j (by simpa using hi) (by simpa using hlt)
              constructor
              · simp [sizes, k1]
              · simpa using k2
      obtain ⟨k1, k2⟩ := hsizes zs i ix.1 p3 p2
      exact ⟨by rw [k1]; exact r1, by simpa using r2, by rw [k2]; exact r3⟩)
    exact ⟨c', by rw [f1]; exact g1, by simpa [built] using g2⟩

end Go.Dat

namespace Go.Dat

variable [Tables]

variable {P : Program} {Θ : TypeId → TI} {n : Nat} {ρ ρ' : Nat → Tag} {w w' : World} {E : Nat → Slot} {t : Nat} {u : Value}

omit [Tables] in
theorem Rpx.mem {S : Nat → Prop} {es : Nat} : ∀ {xs : List D} {a : Addr}, Rpx S w es a xs → ∃ cells, cells.length = xs.length * es ∧ Mem w a.block a.off cells ∧ Rpa S w es xs cells ∧ (xs ≠ [] → a.spot = none)
  | [], _, _ => ⟨[], by simp, trivial, by simp [Rpa], by simp⟩
  | x :: xs, a, h => by
    simp only [Rpx] at h
    obtain ⟨c, h1, h2, h3, h4, h5, h6⟩ := h
    obtain ⟨cs, g1, g2, g3, _⟩ := Rpx.mem h6
    refine ⟨c ++ cs, by simp [g1, h1, Nat.add_mul]; omega, ?_, ?_, fun _ => h2⟩
    · rw [Mem.app, h1]; exact ⟨h4, g2⟩
    · simp only [Rpa]; exact ⟨c, cs, rfl, h1, h5, g3⟩

omit [Tables] in
theorem Rpa.split {S : Nat → Prop} {es : Nat} : ∀ {xs ys : List D} {vs : List Value}, Rpa S w es (xs ++ ys) vs → ∃ a b, vs = a ++ b ∧ a.length = xs.length * es ∧ Rpa S w es xs a ∧ Rpa S w es ys b
  | [], _, vs, h => ⟨[], vs, rfl, by simp, by simp [Rpa], h⟩
  | x :: xs, _, vs, h => by
    simp only [List.cons_append, Rpa] at h
    obtain ⟨c, y, rfl, h1, h2, h3⟩ := h
    obtain ⟨a, b, rfl, g1, g2, g3⟩ := Rpa.split h3
    exact ⟨c ++ a, b, by simp, by simp [h1, g1, Nat.add_mul]; omega, by simp only [Rpa]; exact ⟨c, a, rfl, h1, h2, g2⟩, g3⟩

theorem Src.sound {a : Act} {x : Operand} {es : Nat} {ys : List D} (hI : Inv n ρ w a.tmps E) (h : Src E x es ys) :
    ∃ ad c news, a.eval x = .slice ad ys.length c ∧ news.length = ys.length * es ∧ Rpa (sh ρ) w es ys news ∧ (ys = [] ∨ ∃ b o, ad = some ⟨b, o, none⟩ ∧ Mem w b o news) := by
  cases h with
  | lst h =>
    obtain ⟨cs, h1, h2⟩ := h.sound hI
    simp only [Rp] at h1
    obtain ⟨ad, l, c, rfl, h3, h4⟩ := h1
    simp only [VC] at h2
    have he : a.eval x = .slice ad l c := by simpa using h2.symm
    rename_i k
    have hl : l = ys.length := by cases k <;> simp_all [Hdr]
    subst hl
    cases ad with
    | none =>
      have : ys = [] := by
        cases k <;> simp_all [Hdr]
      subst this
      exact ⟨none, c, [], he, by simp, by simp [Rpa], .inl rfl⟩
    | some ad =>
      obtain ⟨cells, g1, g2, g3, g4⟩ := (h4 ad rfl).mem
      refine ⟨some ad, c, cells, he, g1, g3, ?_⟩
      by_cases hy : ys = []
      · exact .inl hy
      · exact .inr ⟨ad.block, ad.off, by have := g4 hy; cases ad; simp_all, g2⟩
  | vw h =>
    rename_i k s p nl e
    have ho := (h.sound hI).own hI
    obtain ⟨cells, ⟨h1, h2⟩, h3, _⟩ := ho
    rcases h2 with ⟨h2, h2'⟩ | ⟨g, cap, cur, h2, _, h4, h5, h6, h7, h8⟩
    · refine ⟨none, 0, cells, ?_, h1, h3, .inl (List.eq_nil_of_length_eq_zero h2')⟩
      show a.tmps.getD k undef = _
      rw [h2, h2']
    · refine ⟨some ⟨g, 0, none⟩, cap, cells, ?_, h1, h3, .inr ⟨g, 0, rfl, ?_⟩⟩
      · show a.tmps.getD k undef = _
        rw [h2]
      · refine Mem.ofAt fun j v hj => ?_
        rw [cell_of_row w g _ _ _ _ h4, ← h8] at *
        rw [List.getElem?_take] at hj
        split at hj
        · simpa using hj
        · cases hj
  | @sub k s i j nl e es xs h g =>
    have h1 := hI.slot k
    rw [h] at h1
    obtain ⟨nl', e', es', xs', ad, l, c, k1, k2, k3, a', c', k4, k5⟩ := h1
    have k0 : nl' = nl ∧ e' = e ∧ es' = es ∧ xs' = xs := by
      rcases k1 with ⟨q1, _⟩ | ⟨x, b, q1, _⟩ <;> rw [g] at q1 <;> cases q1
      simp
    obtain ⟨rfl, rfl, rfl, rfl⟩ := k0
    obtain ⟨cells, ⟨h1, h2⟩, h3, _⟩ := k1.own hI
    have hlen : ((xs'.take j).drop i).length = j - i := by simp; omega
    have hsp : xs' = xs'.take i ++ ((xs'.take j).drop i ++ xs'.drop j) := by
      rw [← List.append_assoc]
      have h1 : xs'.take i = (xs'.take j).take i := by rw [List.take_take, Nat.min_eq_left k2]
      rw [h1, List.take_append_drop, List.take_append_drop]
    rw [hsp] at h3
    obtain ⟨A, r, q1, q2, q3, q4⟩ := h3.split
    obtain ⟨M, B, q5, q6, q7, q8⟩ := q4.split
    refine ⟨a', c', M, ?_, q6, q7, ?_⟩
    · show a.tmps.getD k undef = _
      rw [k4, hlen]
    · by_cases hij : i < j
      · right
        obtain ⟨g', rfl, rfl⟩ := k5 hij
        refine ⟨g', _, rfl, ?_⟩
        rcases h2 with ⟨h2, _⟩ | ⟨g2, cap, cur, h2, _, p1, p2, p3, p4, p5⟩
        · cases h2
        cases h2
        refine Mem.ofAt fun m v hm => ?_
        rw [cell_of_row w g' _ _ _ _ p1]
        have hcells : cells[es' * i + m]? = some v := by
          have hA : A.length = es' * i := by rw [q2, List.length_take, Nat.min_eq_left (by omega), Nat.mul_comm]
          rw [q1, q5, List.getElem?_append_right (by omega), hA, Nat.add_sub_cancel_left, List.getElem?_append_left]
          · exact hm
          · exact (List.getElem?_eq_some_iff.1 hm).1
        rw [← p5, List.getElem?_take] at hcells
        split at hcells
        · simpa using hcells
        · cases hcells
      · left
        exact List.eq_nil_of_length_eq_zero (by rw [hlen]; omega)

theorem OwnAt.elt {tmps : Array Value} {s : Nat} {p : List Nat} {nl e es xs g l c i} (hI : Inv n ρ w tmps E) (h : OwnAt w tmps E s p nl e es xs (.slice (some ⟨g, 0, none⟩) l c)) (hi : i < xs.length) :
    ∃ m, m.length = es ∧ Mem w g (es * i) m ∧ Rp (sh ρ) w (xs.getD i un) m := by
  obtain ⟨cells, ⟨h1, h2⟩, h3, _⟩ := h.own hI
  rcases h2 with ⟨h2, h2'⟩ | ⟨g', cap, cur, h2, _, h4, h5, h6, h7, h8⟩
  · simp at h2
  · cases h2
    obtain ⟨a, m, b, e1, e2, e3, e4, _⟩ := Rpa.lens i xs h3 hi
    refine ⟨m, e3, ?_, e4⟩
    have hm : Mem w g 0 cells := Mem.ofAt fun j v hj => by
      rw [cell_of_row w g _ _ _ _ h4, ← h8] at *
      rw [List.getElem?_take] at hj
      split at hj
      · simpa using hj
      · cases hj
    rw [e1, Mem.app, Mem.app] at hm
    have := hm.1.2
    rwa [Nat.zero_add, e2] at this

omit [Tables] in
/-- A part of shared cells. -/
theorem Rp.part {S : Nat → Prop} {p : List Nat} {d : D} {b o : Nat} {cs : List Value} (h : Rp S w d cs) (hm : Mem w b o cs) (hk : d.okp p) :
    ∃ m, Mem w b (o + d.off p) m ∧ Rp S w (d.get p) m ∧ m.length = (d.get p).size := by
  classical
  obtain ⟨a, m, c, e1, e2, e3, _⟩ := RB.lens (ρ := tagS S) (t := 0) (q := []) p d (RB.ofRp (by rw [sh_tagS]; exact h)) hk
  rw [e1, Mem.app, Mem.app] at hm
  have hno : (d.get p).noOwn = true := D.get_noOwn p d (Rp.noOwn d h)
  have h3 := (RB.plain _ hno).1 e3
  rw [sh_tagS] at h3
  exact ⟨m, by rw [← e2]; exact hm.1.2, h3, Rp.len _ h3⟩
where
  D.get_noOwn : ∀ (p : List Nat) (d : D), d.noOwn = true → (d.get p).noOwn = true
    | [], d, h => by simpa [D.get] using h
    | i :: p, .st ds, h => by simp only [D.get]; exact D.get_noOwn p _ (nth ds i (by simpa [D.noOwn] using h))
    | i :: p, .arr _ ds, h => by simp only [D.get]; exact D.get_noOwn p _ (nth ds i (by simpa [D.noOwn] using h))
    | _ :: _, .v _, _ => by simp [D.get, un, D.noOwn]
    | _ :: _, .lst _ _ _, _ => by simp [D.get, un, D.noOwn]
    | _ :: _, .own _ _ _ _, h => by simp [D.noOwn] at h
    | _ :: _, .fn _ _ _, _ => by simp [D.get, un, D.noOwn]
    | _ :: _, .pt _, _ => by simp [D.get, un, D.noOwn]
    | _ :: _, .dead _, _ => by simp [D.get, un, D.noOwn]
    | _ :: _, .tup _, _ => by simp [D.get, un, D.noOwn]
  nth : ∀ (ds : List D) (i : Nat), noOwns ds = true → (ds.getD i un).noOwn = true
    | [], _, _ => by simp [un, D.noOwn]
    | d :: ds, 0, h => by simp only [noOwns, Bool.and_eq_true] at h; simpa using h.1
    | d :: ds, i + 1, h => by simp only [noOwns, Bool.and_eq_true] at h; simpa using nth ds i h.2

omit [Tables] in
theorem fieldAt_run {T f b o Tf off : Nat} {fs : List (TypeId × Nat)} (h : TD.says P T (.st fs)) (hf : fs[f]? = some (Tf, off)) :
    (Instr.fieldAt T (.pointer (some ⟨b, o, none⟩)) f).run P w = .ok (.pointer (some ⟨b, o + off, none⟩)) w := by
  obtain ⟨F, h1, h2, h3⟩ := h
  rw [← h2, List.getElem?_map] at hf
  cases hF : F[f]? with
  | none => rw [← Array.getElem?_toList] at hF; simp [hF] at hf
  | some fl =>
    rw [← Array.getElem?_toList] at hF
    rw [hF] at hf
    simp only [Option.map_some, Option.some.injEq, Prod.mk.injEq] at hf
    have hne := h3 fl (List.mem_of_getElem? hF)
    have hsz : (sizeOf fl.type).run P w = .ok (P.cellsOf fl.type) w := by
      unfold Program.cellsOf at hne ⊢
      cases hq : P.info? fl.type with
      | none => simp [hq] at hne
      | some i => simp [sizeOf, typeInfo, hq]
    rw [Array.getElem?_toList] at hF
    simp only [Instr.fieldAt, Sem.run_bind, run_underlying h1, Result.andThen_ok, hF, Instr.sureAddr, Sem.run_pure, fieldPlace, hsz, hne, if_false, hf.2]
    congr 4
    unfold Addr.add
    by_cases h0 : off = 0 <;> simp [h0]

omit [Tables] in
theorem indexAt_slice_run {T b o l c e es by' : Nat} {ik : IntKind} {i : Int} (h : TD.says P T (.sl e es by')) (h0 : 0 ≤ i) (hi : i < l) :
    (Instr.indexAt T (.slice (some ⟨b, o, none⟩) l c) (.int ik i)).run P w = .ok (.pointer (some ⟨b, o + es * i.toNat, none⟩)) w := by
  obtain ⟨h1, ie, z, h2, h3, _⟩ := h
  have hc : 0 ≤ i ∧ i < (l : Int) := ⟨h0, hi⟩
  simp only [Instr.indexAt, asIntOf, Sem.run_bind, Sem.run_pure, Result.andThen_ok, run_underlying h1, Bool.and_false, hc, and_self, if_true, sizeOf, typeInfo, run_program, h2, h3]
  congr 4
  unfold Addr.add
  rw [Nat.mul_comm es]
  by_cases h0 : i.toNat * es = 0 <;> simp [h0]

omit [Tables] in
theorem indexAt_array_run {T b o len e es : Nat} {ik : IntKind} {i : Int} (h : TD.says P T (.ar len e es)) (h0 : 0 ≤ i) (hi : i < len) :
    (Instr.indexAt T (.pointer (some ⟨b, o, none⟩)) (.int ik i)).run P w = .ok (.pointer (some ⟨b, o + es * i.toNat, none⟩)) w := by
  obtain ⟨h1, ie, h2, h3⟩ := h
  have hc : 0 ≤ i ∧ i < (len : Int) := ⟨h0, hi⟩
  simp only [Instr.indexAt, asIntOf, Sem.run_bind, Sem.run_pure, Result.andThen_ok, run_underlying h1, Instr.sureAddr, hc, and_self, if_true, sizeOf, typeInfo, run_program, h2, h3]
  congr 4
  unfold Addr.add
  rw [Nat.mul_comm es]
  by_cases h0 : i.toNat * es = 0 <;> simp [h0]

end Go.Dat

namespace Go.Dat

variable [Tables]

variable {P : Program} {Θ : TypeId → TI} {n : Nat} {ρ ρ' : Nat → Tag} {w w' : World} {E : Nat → Slot} {t : Nat} {u : Value}

omit [Tables] in
theorem Agree.says {T : TypeId} {td : TD} (h : Agree P Θ) (ht : (Θ T).td = td) : td.says P T := by
  cases htd : td with
  | no => trivial
  | _ =>
  have := h T (by simp [TI.known, ht, htd])
  rw [← htd, ← ht]
  exact this.says

omit [Tables] in
theorem eval_tmp {a : Act} {k : Nat} : a.eval (.tmp k) = a.tmps.getD k undef := rfl

theorem Elt.sound {tmps : Array Value} {k s : Nat} {p : List Nat} {i : Nat} {q : List Nat} {nl e es xs} (hI : Inv n ρ w tmps E) (h : Elt E k s p i q nl e es xs) :
    ∃ g l c, OwnAt w tmps E s p nl e es xs (.slice (some ⟨g, 0, none⟩) l c) ∧ i < xs.length ∧ (xs.getD i un).okp q ∧ tmps.getD k undef = .pointer (some ⟨g, es * i + (xs.getD i un).off q, none⟩) := by
  obtain ⟨h1, h2⟩ := h
  have := hI.slot k
  rw [h1] at this
  obtain ⟨nl', e', es', xs', g, l, c, ho, g1, g2, g3⟩ := this
  have heq : nl' = nl ∧ e' = e ∧ es' = es ∧ xs' = xs := by
    rcases ho with ⟨g1, _⟩ | ⟨x, b, g1, _, g2, _⟩
    · rcases h2 with h2 | ⟨x, h2, _⟩ <;> rw [g1] at h2 <;> cases h2
      simp
    · rcases h2 with h2 | ⟨x', h2, h3⟩ <;> rw [g1] at h2 <;> cases h2
      rw [g2] at h3
      cases h3
      simp
  obtain ⟨rfl, rfl, rfl, rfl⟩ := heq
  exact ⟨g, l, c, ho, g1, g2, g3⟩

omit [Tables] in
theorem D.get_app : ∀ (p : List Nat) (d : D) (q : List Nat), d.get (p ++ q) = (d.get p).get q
  | [], d, q => by simp [D.get]
  | i :: p, .st ds, q => by simp only [List.cons_append, D.get]; exact D.get_app p _ q
  | i :: p, .arr _ ds, q => by simp only [List.cons_append, D.get]; exact D.get_app p _ q
  | _ :: _, .v _, q => by cases q <;> simp [D.get, un]
  | _ :: _, .lst _ _ _, q => by cases q <;> simp [D.get, un]
  | _ :: _, .own _ _ _ _, q => by cases q <;> simp [D.get, un]
  | _ :: _, .fn _ _ _, q => by cases q <;> simp [D.get, un]
  | _ :: _, .pt _, q => by cases q <;> simp [D.get, un]
  | _ :: _, .dead _, q => by cases q <;> simp [D.get, un]
  | _ :: _, .tup _, q => by cases q <;> simp [D.get, un]

omit [Tables] in
theorem D.okp_app : ∀ (p : List Nat) (d : D) (q : List Nat), d.okp (p ++ q) ↔ d.okp p ∧ (d.get p).okp q
  | [], d, q => by simp [D.get, D.okp]
  | i :: p, .st ds, q => by simp only [List.cons_append, D.okp, D.get, D.okp_app p, and_assoc]
  | i :: p, .arr _ ds, q => by simp only [List.cons_append, D.okp, D.get, D.okp_app p, and_assoc]
  | _ :: _, .v _, q => by simp [D.okp]
  | _ :: _, .lst _ _ _, q => by simp [D.okp]
  | _ :: _, .own _ _ _ _, q => by simp [D.okp]
  | _ :: _, .fn _ _ _, q => by simp [D.okp]
  | _ :: _, .pt _, q => by simp [D.okp]
  | _ :: _, .dead _, q => by simp [D.okp]
  | _ :: _, .tup _, q => by simp [D.okp]

omit [Tables] in
theorem D.off_app : ∀ (p : List Nat) (d : D) (q : List Nat), d.okp p → d.off (p ++ q) = d.off p + (d.get p).off q
  | [], d, q, _ => by simp [D.get, D.off]
  | i :: p, .st ds, q, h => by simp only [D.okp] at h; simp only [List.cons_append, D.off, D.get, D.off_app p _ q h.2, Nat.add_assoc]
  | i :: p, .arr _ ds, q, h => by simp only [D.okp] at h; simp only [List.cons_append, D.off, D.get, D.off_app p _ q h.2, Nat.add_assoc]
  | _ :: _, .v _, q, h => by simp [D.okp] at h
  | _ :: _, .lst _ _ _, q, h => by simp [D.okp] at h
  | _ :: _, .own _ _ _ _, q, h => by simp [D.okp] at h
  | _ :: _, .fn _ _ _, q, h => by simp [D.okp] at h
  | _ :: _, .pt _, q, h => by simp [D.okp] at h
  | _ :: _, .dead _, q, h => by simp [D.okp] at h
  | _ :: _, .tup _, q, h => by simp [D.okp] at h

omit [Tables] in
theorem nth_map_vals {S : Nat → Prop} : ∀ {ds : List D} {us : List Value} {i : Nat}, Rpv S w ds us → i < ds.length → ∃ v, us[i]? = some v ∧ RD S w (ds.getD i un) v
  | [], _, _, _, h => by simp at h
  | d :: ds, _, i, h, hi => by
    simp only [Rpv] at h
    obtain ⟨u, y, cs, rfl, h1, h2, h3⟩ := h
    cases i with
    | zero => exact ⟨u, by simp, cs, by simpa using h1, by simpa using h2⟩
    | succ i =>
      obtain ⟨v, g1, g2⟩ := nth_map_vals h3 (by simpa using hi)
      exact ⟨v, by simpa using g1, by simpa using g2⟩

omit [Tables] in
theorem RVs.nth : ∀ {ds : List D} {us : List Value} {k i : Nat}, RVs ρ w t k ds us → i < ds.length → ∃ v, us[i]? = some v ∧ RV1 ρ w t [k + i] (ds.getD i un) v
  | [], _, _, _, _, h => by simp at h
  | d :: ds, _, k, i, h, hi => by
    obtain ⟨u, y, rfl, h1, h2⟩ := h
    cases i with
    | zero => exact ⟨u, by simp, by simpa using h1⟩
    | succ i =>
      obtain ⟨v, g1, g2⟩ := RVs.nth h2 (i := i) (by simpa using hi)
      exact ⟨v, by simpa using g1, by simpa [Nat.add_assoc, Nat.add_comm 1 i] using g2⟩

omit [Tables] in
theorem RV1.plain {x : D} {p : List Nat} (h : x.pl = true) (hx : RV1 ρ w t p x u) : RD (sh ρ) w x u := by
  obtain ⟨cs, h1, h2⟩ := hx
  refine ⟨cs, (RB.plain x ?_).1 h1, h2⟩
  cases x <;> simp_all [D.pl]

omit [Tables] in
theorem RVs.at {t t' : Nat} : ∀ {ds : List D} {us : List Value} {i : Nat}, RVs ρ w t i ds us → noOwns ds = true → RVs ρ w t' i ds us
  | [], _, _, h, _ => h
  | d :: ds, us, i, h, hn => by
    simp only [noOwns, Bool.and_eq_true] at hn
    obtain ⟨u, y, rfl, ⟨cs, h1, h2⟩, h3⟩ := h
    exact ⟨u, y, rfl, ⟨cs, (RB.plain d hn.1).2 ((RB.plain d hn.1).1 h1), h2⟩, h3.at hn.2⟩

section
variable {a : Act} {o : Oper}

theorem Ev.sound_mv {x d} (hI : Inv n ρ w a.tmps E) (ho : o.op = .move x ∨ o.op = .assign x) (hx : OpD E x d) : Yields P o a ρ w E t (.d d) := by
  refine .pure (v := a.eval x) hI ?_ (hx.sound hI).rv
  rcases ho with ho | ho <;> simp [execOp, ho]

theorem Ev.sound_load {T k b o' : Nat} {x : D} {cs : List Value} (hΘ : Agree P Θ) (hI : Inv n ρ w a.tmps E) (ho : o.op = .load T (.tmp k)) (hk : a.tmps.getD k undef = .pointer (some ⟨b, o', none⟩))
    (hm : Mem w b o' cs) (hx : Rp (sh ρ) w x cs) (hf : (Θ T).fits x = true) : Yields P o a ρ w E t (.d x) := by
  obtain ⟨u, h1, h2⟩ := loadVar_run (P := P) hΘ hf (Rp.len x hx) hm
  refine .pure (v := u) hI ?_ (RD.rv ⟨cs, hx, h1⟩)
  simp [execOp, ho, Instr.loadAt, Instr.sureAddr, eval_tmp, hk, h2]

omit [Tables] in
theorem RS.dat {tmps : Array Value} {x : D} {cs : List Value} (h : Rp (sh ρ) w x cs) (hv : VC x u cs) : RS ρ w tmps E t u (.d x) := RD.rv ⟨cs, h, hv⟩

omit [Tables] in
theorem D.pl_noOwn {x : D} (h : x.pl = true) : x.noOwn = true := by cases x <;> simp_all [D.pl]

omit [Tables] in
theorem sliceBound_run {k : IntKind} {v : Int} {y : Nat} {c : BoundsCode} (h0 : 0 ≤ v) (h : v.toNat ≤ y) : (Instr.sliceBound (.int k v) y c).run P w = .ok v.toNat w := by
  have : v ≤ (y : Int) := by omega
  simp [Instr.sliceBound, asIntOf, h0, this]

omit [Tables] in
/-- A slice expression over a slice. -/
theorem slice_run {T e es b : Nat} {lo hi : Option Operand} {ad : Option Addr} {l cap i j : Nat} {f : Operand → Value} (ht : TD.says P T (.sl e es b))
    (hl : (lo = none ∧ i = 0) ∨ ∃ x k v, lo = some x ∧ f x = .int k v ∧ 0 ≤ v ∧ v.toNat = i) (hh : (hi = none ∧ j = l) ∨ ∃ x k v, hi = some x ∧ f x = .int k v ∧ 0 ≤ v ∧ v.toNat = j) (hij : i ≤ j) (hj : j ≤ cap) :
    (Instr.sliceAt T (.slice ad l cap) (lo.map f) (hi.map f) none).run P w = .ok (.slice (if cap = i then ad else ad.map (·.add (i * es))) (j - i) (cap - i)) w := by
  obtain ⟨hu, q, z, h1, h2, _⟩ := ht
  have hsz : (sizeOf e).run P w = .ok es w := by simp [sizeOf, typeInfo, h1, h2]
  have hb : (Instr.sliceBounds true l cap (lo.map f) (hi.map f) none).run P w = .ok (i, j, cap) w := by
    unfold Instr.sliceBounds
    rcases hh with ⟨rfl, rfl⟩ | ⟨x, k, v, rfl, h3, h4, rfl⟩ <;> rcases hl with ⟨rfl, rfl⟩ | ⟨x', k', v', rfl, h5, h6, rfl⟩
    · simp
    · simp [h5, sliceBound_run h6 hij]
    · simp [h3, sliceBound_run h4 hj]
    · simp [h3, h5, sliceBound_run h4 hj, sliceBound_run h6 hij]
  simp [Instr.sliceAt, Instr.slice, run_underlying hu, hb, hsz]

theorem Bnd.sound {tmps : Array Value} {a : Act} {x d i} (ha : a.tmps = tmps) (hI : Inv n ρ w tmps E) (h : Bnd E x d i) : (x = none ∧ i = d) ∨ ∃ y k v, x = some y ∧ a.eval y = .int k v ∧ 0 ≤ v ∧ v.toNat = i := by
  subst ha
  cases h with
  | no => exact .inl ⟨rfl, rfl⟩
  | «at» h h0 => exact .inr ⟨_, _, _, rfl, (h.sound hI).v, h0, rfl⟩

omit [Tables] in
theorem Rpx.of {S : Nat → Prop} {es b : Nat} (hS : S b) : ∀ {xs : List D} {o : Nat} {cells : List Value}, Rpa S w es xs cells → Mem w b o cells → Rpx S w es ⟨b, o, none⟩ xs
  | [], _, _, _, _ => by simp [Rpx]
  | x :: xs, o, _, h, hm => by
    simp only [Rpa] at h
    obtain ⟨c, y, rfl, h1, h2, h3⟩ := h
    rw [Mem.app] at hm
    simp only [Rpx]
    exact ⟨c, h1, trivial, hS, hm.1, h2, Rpx.of hS h3 (by rw [← h1]; exact hm.2)⟩

omit [Tables] in
theorem Rp.flatv {S S' : Nat → Prop} {w w' : World} : ∀ (d : D) {vs}, d.flatv = true → Rp S w d vs → Rp S' w' d vs
  | .v x, vs, _, h => by simpa only [Rp] using h
  | .st ds, vs, hf, h => by simp only [Rp] at h ⊢; exact many ds (by simpa [D.flatv] using hf) h
  | .tup _, _, _, h => by simp only [Rp] at h
  | .arr _ ds, _, hf, h => by simp only [Rp] at h ⊢; exact row ds (by simpa [D.flatv] using hf) h
  | .lst _ _ _, _, hf, _ => by simp [D.flatv] at hf
  | .own _ _ _ _, _, hf, _ => by simp [D.flatv] at hf
  | .fn _ _ _, _, hf, _ => by simp [D.flatv] at hf
  | .pt _, _, hf, _ => by simp [D.flatv] at hf
  | .dead _, _, _, h => by simpa only [Rp] using h
where
  many : ∀ (ds : List D) {vs}, flatvs ds = true → Rps S w ds vs → Rps S' w' ds vs
    | [], _, _, h => by simpa only [Rps] using h
    | d :: ds, _, hf, h => by
      simp only [flatvs, Bool.and_eq_true] at hf
      simp only [Rps] at h ⊢
      obtain ⟨x, y, rfl, h1, h2⟩ := h
      exact ⟨x, y, rfl, Rp.flatv d hf.1 h1, many ds hf.2 h2⟩
  row : ∀ (ds : List D) {es vs}, flatvs ds = true → Rpa S w es ds vs → Rpa S' w' es ds vs
    | [], _, _, _, h => by simpa only [Rpa] using h
    | d :: ds, _, _, hf, h => by
      simp only [flatvs, Bool.and_eq_true] at hf
      simp only [Rpa] at h ⊢
      obtain ⟨x, y, rfl, l, h1, h2⟩ := h
      exact ⟨x, y, rfl, l, Rp.flatv d hf.1 h1, row ds hf.2 h2⟩

omit [Tables] in
mutual
theorem D.flatv_noOwn : ∀ (d : D), d.flatv = true → d.noOwn = true
  | .v _, _ => rfl
  | .st ds, h => by simp only [D.flatv] at h; simp only [D.noOwn]; exact flatvs_noOwns ds h
  | .tup ds, h => by simp only [D.flatv] at h; simp only [D.noOwn]; exact flatvs_noOwns ds h
  | .arr _ ds, h => by simp only [D.flatv] at h; simp only [D.noOwn]; exact flatvs_noOwns ds h
  | .lst _ _ _, h => by simp [D.flatv] at h
  | .own _ _ _ _, h => by simp [D.flatv] at h
  | .fn _ _ _, h => by simp [D.flatv] at h
  | .pt _, h => by simp [D.flatv] at h
  | .dead _, _ => rfl
theorem flatvs_noOwns : ∀ (ds : List D), flatvs ds = true → noOwns ds = true
  | [], _ => rfl
  | d :: ds, h => by
    simp only [flatvs, Bool.and_eq_true] at h
    simp only [noOwns, Bool.and_eq_true]
    exact ⟨D.flatv_noOwn d h.1, flatvs_noOwns ds h.2⟩
end

omit [Tables] in
theorem RV1.flatv {t t' : Nat} {p : List Nat} {d : D} (hf : d.flatv = true) (h : RV1 ρ w t p d u) : RV1 ρ' w' t' p d u := by
  obtain ⟨cs, h1, h2⟩ := h
  have hn := D.flatv_noOwn d hf
  exact ⟨cs, (RB.plain d hn).2 (Rp.flatv d hf ((RB.plain d hn).1 h1)), h2⟩

omit [Tables] in
theorem RVs.flatv {t t' : Nat} : ∀ {ds : List D} {us : List Value} {i : Nat}, flatvs ds = true → RVs ρ w t i ds us → RVs ρ' w' t' i ds us
  | [], _, _, _, h => h
  | d :: ds, us, i, hf, h => by
    simp only [flatvs, Bool.and_eq_true] at hf
    obtain ⟨u, y, rfl, h1, h3⟩ := h
    exact ⟨u, y, rfl, h1.flatv hf.1, h3.flatv hf.2⟩

omit [Tables] in
theorem RV.flatv {t t' : Nat} {d : D} (hf : d.flatv = true) (h : RV ρ w t d u) : RV ρ' w' t' d u := by
  cases d with
  | tup ds => obtain ⟨us, h1, h2⟩ := h; exact ⟨us, h1, h2.flatv hf⟩
  | v x => exact RV1.flatv (d := .v x) hf h
  | st ds => exact RV1.flatv (d := .st ds) hf h
  | arr es ds => exact RV1.flatv (d := .arr es ds) hf h
  | dead q => exact RV1.flatv (d := .dead q) hf h
  | _ => simp [D.flatv] at hf

theorem BArgs.sound {a : Act} {os : List Operand} {xs : List D} (hI : Inv n ρ w a.tmps E) (h : BArgs E os xs) : Rpv (fun b => b < w.heap.size) w xs (os.map a.eval) := by
  have hS : ∀ b, sh ρ b → b < w.heap.size ∧ w.heap[b]? = w.heap[b]? := fun b hb => ⟨hI.lt b (by simp only [sh] at hb; simp [hb]), rfl⟩
  induction h with
  | nil => simp [Rpv]
  | plain h1 _ ih =>
    obtain ⟨cs, h2, h3⟩ := h1.sound hI
    simp only [List.map_cons, Rpv]
    exact ⟨_, _, cs, rfl, Rp.mono hS _ h2, h3, ih⟩
  | @own k s p nl e es xs os ds h1 hp _ ih =>
    obtain ⟨cells, ⟨o1, o2⟩, o3, _⟩ := (h1.sound hI).own hI
    simp only [List.map_cons, Rpv]
    refine ⟨_, _, [a.eval (.tmp k)], rfl, ?_, rfl, ih⟩
    simp only [Rp]
    rcases o2 with ⟨o2, o2'⟩ | ⟨g, cap, cur, o2, _, p1, p2, p3, p4, p5⟩
    · have hx : xs = [] := List.eq_nil_of_length_eq_zero o2'
      subst hx
      exact ⟨none, 0, 0, by rw [eval_tmp, o2], by simp [Hdr], by simp⟩
    · refine ⟨some ⟨g, 0, none⟩, xs.length, cap, by rw [eval_tmp, o2], ⟨rfl, p2, by simp⟩, fun ad had => ?_⟩
      cases had
      refine Rpx.of (S := fun b => b < w.heap.size) (Array.getElem?_eq_some_iff.1 p1).1 (Rpa.mono hS _ o3) (Mem.ofAt fun m v hm => ?_)
      rw [cell_of_row w g _ _ _ _ p1]
      rw [← p5, List.getElem?_take] at hm
      split at hm
      · simpa using hm
      · cases hm

/-! ### What may lie anywhere -/

omit [Tables] in
theorem ROwn.lend {tg : Tag} {nl e es xs} {v : Value} (hlt : ∀ b, ρ b ≠ .other → b < w.heap.size) (h : ROwn ρ w tg nl e es xs v) : Rp (All w) w (.lst .any es xs) [v] := by
  have hS : ∀ b, sh ρ b → All w b ∧ w.heap[b]? = w.heap[b]? := fun b hb => ⟨hlt b (by simp only [sh] at hb; simp [hb]), rfl⟩
  obtain ⟨cells, ⟨o1, o2⟩, o3, _⟩ := h
  simp only [Rp]
  rcases o2 with ⟨o2, o2'⟩ | ⟨g, cap, cur, o2, _, p1, p2, p3, p4, p5⟩
  · have hx : xs = [] := List.eq_nil_of_length_eq_zero o2'
    subst hx
    exact ⟨none, 0, 0, by rw [o2], by simp [Hdr], by simp⟩
  · refine ⟨some ⟨g, 0, none⟩, xs.length, cap, by rw [o2], ⟨rfl, p2, by simp⟩, fun ad had => ?_⟩
    cases had
    refine Rpx.of (S := All w) (Array.getElem?_eq_some_iff.1 p1).1 (Rpa.mono hS _ o3) (Mem.ofAt fun m v hm => ?_)
    rw [cell_of_row w g _ _ _ _ p1]
    rw [← p5, List.getElem?_take] at hm
    split at hm
    · simpa using hm
    · cases hm

omit [Tables] in
theorem RB.lend (hlt : ∀ b, ρ b ≠ .other → b < w.heap.size) {t : Nat} : ∀ (d : D) {p vs}, RB ρ w t p d vs → Rp (All w) w d.lend vs
  | .own _ _ _ _, _, _, h => by
    simp only [RB] at h
    obtain ⟨v, rfl, h⟩ := h
    exact h.lend hlt
  | .st ds, _, _, h => by simp only [RB] at h; simp only [D.lend, Rp]; exact many ds h
  | .arr _ ds, _, _, h => by simp only [RB] at h; simp only [D.lend, Rp]; exact row ds h
  | .v _, _, _, h => by simp only [RB] at h; exact Rp.mono hS _ h
  | .lst _ _ _, _, _, h => by simp only [RB] at h; exact Rp.mono hS _ h
  | .fn _ _ _, _, _, h => by simp only [RB] at h; exact Rp.mono hS _ h
  | .pt _, _, _, h => by simp only [RB] at h; exact Rp.mono hS _ h
  | .dead _, _, _, h => by simp only [RB] at h; exact Rp.mono hS _ h
  | .tup _, _, _, h => by simp only [RB] at h
where
  hS : ∀ b, sh ρ b → All w b ∧ w.heap[b]? = w.heap[b]? := fun b hb => ⟨hlt b (by simp only [sh] at hb; simp [hb]), rfl⟩
  many : ∀ (ds : List D) {p i vs}, RBs ρ w t p i ds vs → Rps (All w) w (lends ds) vs
    | [], _, _, _, h => by simpa only [RBs, Rps, lends] using h
    | d :: ds, _, _, _, h => by
      simp only [RBs] at h
      simp only [Rps, lends]
      obtain ⟨x, y, rfl, h1, h2⟩ := h
      exact ⟨x, y, rfl, RB.lend hlt d h1, many ds h2⟩
  row : ∀ (ds : List D) {p i es vs}, RBa ρ w t p i es ds vs → Rpa (All w) w es (lends ds) vs
    | [], _, _, _, _, h => by simpa only [RBa, Rpa, lends] using h
    | d :: ds, _, _, _, _, h => by
      simp only [RBa] at h
      simp only [Rpa, lends]
      obtain ⟨x, y, rfl, l, h1, h2⟩ := h
      exact ⟨x, y, rfl, l, RB.lend hlt d h1, row ds h2⟩

theorem Inv.all {tmps : Array Value} (hI : Inv n ρ w tmps E) : ∀ b, sh ρ b → All w b ∧ w.heap[b]? = w.heap[b]? := fun b hb => ⟨hI.lt b (by simp only [sh] at hb; simp [hb]), rfl⟩

omit [Tables] in
theorem WV.rd {x : D} {u : Value} (hx : x.isTup = false) (h : WV w x u) : RD (All w) w x u := by
  cases x <;> first | exact h | cases hx

theorem WOp.sound {a : Act} {o : Operand} {x : D} (hI : Inv n ρ w a.tmps E) (h : WOp E o x) : RD (All w) w x (a.eval o) := by
  cases h with
  | pl h => exact (h.sound hI).mono hI.all
  | @wk k _ h hx =>
    have h1 := hI.slot k
    rw [h] at h1
    exact WV.rd hx h1
  | @adr k s p x h =>
    obtain ⟨b, cs, g1, g2, g3, g4, g5, g6⟩ := h.sound hI
    obtain ⟨c1, m, c2, e1, e2, e3, _⟩ := RB.lens p x g5 g6
    have hm := g4.mem
    rw [e1, Mem.app, Mem.app] at hm
    refine ⟨[.pointer (some ⟨b, x.off p, none⟩)], ?_, by simp [VC, eval_tmp, g2]⟩
    simp only [Rp]
    exact ⟨b, _, m, rfl, hI.lt b (by simp [g3]), by rw [← e2]; simpa using hm.1.2, RB.lend hI.lt _ e3⟩
  | @vw k s p nl e es xs h => exact ⟨[a.tmps.getD k undef], ((h.sound hI).own hI).lend hI.lt, rfl⟩
  | @elt k s p i q nl e es xs h =>
    obtain ⟨g, l, c, h1, h2, h3, h4⟩ := h.sound hI
    obtain ⟨m, g1, g2, g3⟩ := h1.elt hI h2
    obtain ⟨m', k1, k2, k3⟩ := Rp.part g3 g2 h3
    refine ⟨[.pointer (some ⟨g, es * i + (xs.getD i un).off q, none⟩)], ?_, by simp [VC, eval_tmp, h4]⟩
    simp only [Rp]
    have hg : g < w.heap.size := by
      obtain ⟨cells, ⟨_, o2⟩, _⟩ := h1.own hI
      rcases o2 with ⟨o2, _⟩ | ⟨g', cap, cur, o2, _, p1, _⟩
      · cases o2
      · simp only [Value.slice.injEq, Option.some.injEq, Addr.mk.injEq] at o2
        rw [o2.1.1]
        exact (Array.getElem?_eq_some_iff.1 p1).1
    exact ⟨g, _, m', rfl, hg, k1, Rp.mono hI.all _ k2⟩

theorem WOps.sound {a : Act} {os : List Operand} {xs : List D} (hI : Inv n ρ w a.tmps E) (h : WOps E os xs) : Rpv (All w) w xs (os.map a.eval) := by
  induction h with
  | nil => simp [Rpv]
  | cons h1 _ ih =>
    obtain ⟨cs, h2, h3⟩ := h1.sound hI
    simp only [List.map_cons, Rpv]
    exact ⟨_, _, cs, rfl, h2, h3, ih⟩

omit [Tables] in
theorem RD.wv {x : D} (h : RD (All w) w x u) : WV w x u := by
  cases x <;> first
    | exact h
    | (obtain ⟨cs, h1, _⟩ := h; simp only [Rp] at h1)

omit [Tables] in
theorem RD.flat {S S' : Nat → Prop} {x : D} (hf : x.flatv = true) (h : RD S w x u) : RD S' w' x u := let ⟨cs, h1, h2⟩ := h; ⟨cs, Rp.flatv x hf h1, h2⟩

omit [Tables] in
theorem Rpv.nth {S : Nat → Prop} : ∀ {ds : List D} {us : List Value} {i : Nat}, Rpv S w ds us → i < ds.length → ∃ v, us[i]? = some v ∧ RD S w (ds.getD i un) v
  | [], _, _, _, h => by simp at h
  | d :: ds, us, i, h, hi => by
    simp only [Rpv] at h
    obtain ⟨u, y, cs, rfl, h1, h2, h3⟩ := h
    cases i with
    | zero => exact ⟨u, rfl, cs, h1, h2⟩
    | succ i =>
      obtain ⟨v, g1, g2⟩ := h3.nth (i := i) (by simpa using hi)
      exact ⟨v, by simpa using g1, by simpa using g2⟩

omit [Tables] in
theorem RV.wv {t : Nat} {x : D} (hx : x.noOwn = true) (hs : ∀ b, ρ b = .sh → All w b) (h : RV ρ w t x u) : WV w x u := by
  have hS : ∀ b, sh ρ b → All w b ∧ w.heap[b]? = w.heap[b]? := fun b hb => ⟨hs b hb, rfl⟩
  have one : ∀ {p : List Nat} {x : D} {u : Value}, x.noOwn = true → RV1 ρ w t p x u → RD (All w) w x u := fun hx ⟨cs, h1, h2⟩ => ⟨cs, Rp.mono hS _ ((RB.plain _ hx).1 h1), h2⟩
  cases x with
  | tup ds =>
    obtain ⟨us, e, h⟩ := h
    refine ⟨us, e, ?_⟩
    simp only [D.noOwn] at hx
    clear e
    have key : ∀ (ds : List D) {i us}, noOwns ds = true → RVs ρ w t i ds us → Rpv (All w) w ds us := by
      intro ds
      induction ds with
      | nil => intro i us _ h; simp only [RVs] at h; subst h; simp [Rpv]
      | cons d ds ih =>
        intro i us hx h
        simp only [noOwns, Bool.and_eq_true] at hx
        obtain ⟨u, y, rfl, h1, h2⟩ := h
        obtain ⟨cs, g1, g2⟩ := one hx.1 h1
        simp only [Rpv]
        exact ⟨u, y, cs, rfl, g1, g2, ih hx.2 h2⟩
    exact key ds hx h
  | _ => exact (one hx h).wv

omit [Tables] in
theorem RS.newShared {tmps : Array Value} {xs : List D} {cs : Array Value} {e es cap : Nat} (hlt : ∀ b, ρ b ≠ .other → b < w.heap.size) (hes : xs.length ≤ cap)
    (h : Rpa (sh ρ) w es xs cs.toList) : RS (ext ρ w .sh) (w.alloc (.cells cs e)) tmps E t (.slice (some ⟨w.heap.size, 0, none⟩) xs.length cap) (.d (.lst .any es xs)) := by
  have g := Grow.alloc hlt .sh (.cells cs e)
  refine RS.dat (cs := [.slice (some ⟨w.heap.size, 0, none⟩) xs.length cap]) ?_ rfl
  simp only [Rp]
  refine ⟨_, _, _, rfl, ⟨rfl, hes, by simp⟩, fun ad had => ?_⟩
  cases had
  refine Rpx.of (by simp [sh, ext]) (Rpa.mono (g.shd hlt) _ h) (Mem.ofAt fun m v hm => ?_)
  rw [cell_of_row _ w.heap.size _ _ _ _ (heap_alloc_new _ _)]
  simpa using hm

omit [Tables] in
theorem made_list (z : Array Value) (hz : 0 < z.size) : ∀ n, (madeCells z (n * z.size)).toList = (List.replicate n z.toList).flatten
  | 0 => by simp [madeCells]
  | n + 1 => by
    have h := made_list z hz n
    have e : (n + 1) * z.size = n * z.size + z.size := Nat.succ_mul n z.size
    simp only [madeCells, Array.toList_map, Array.toList_range, e, List.range_add, List.map_append, List.map_map] at h ⊢
    rw [h, List.replicate_succ', List.flatten_append]
    congr 1
    simp only [List.flatten_cons, List.flatten_nil, List.append_nil]
    apply List.ext_getElem
    · simp
    · intro k h1 h2
      simp only [List.length_map, List.length_range] at h1
      have hm : (n * z.size + k) % z.size = k := by rw [Nat.mul_add_mod_self_right, Nat.mod_eq_of_lt h1]
      simp [hm, h1]

omit [Tables] in
theorem Rpa.replicate {S : Nat → Prop} {es : Nat} {z : D} {c : List Value} (h : Rp S w z c) (hl : c.length = es) : ∀ n, Rpa S w es (List.replicate n z) (List.replicate n c).flatten
  | 0 => by simp [Rpa]
  | n + 1 => by
    simp only [List.replicate_succ, List.flatten_cons, Rpa]
    exact ⟨c, _, rfl, hl, h, Rpa.replicate h hl n⟩

/-! ### Maps -/

omit [Tables] in
theorem sameNow_int {k k0 : IntKind} {i j : Int} : Instr.sameNow (.int k0) (.int k i) (.int k j) = some (i == j) := by simp [Instr.sameNow]

omit [Tables] in
theorem mapRow_some {k k0 : IntKind} {i : Int} {d : D} : ∀ {es : List MapEntry} {m : List (Int × D)}, MapRow k es m → mget m i = some d →
    ∃ (j : Nat) (e : MapEntry), es[j]? = some e ∧ e.key = .int k i ∧ (∀ (S : Nat → Prop) (w : World), ∃ cs, Rp S w d cs ∧ VC d e.val cs) ∧ (∀ n, Instr.findNow (.int k0) (.int k i) es n = some (some (n + j, e.val))) ∧
      ∀ d' v', (∀ (S : Nat → Prop) (w : World), ∃ cs, Rp S w d' cs ∧ VC d' v' cs) → MapRow k (es.modify j fun e => { e with key := .int k i, val := v' }) (mput m i d')
  | [], [], _, h => by simp [mget] at h
  | [], _ :: _, h, _ => by simp [MapRow] at h
  | _ :: _, [], h, _ => by simp [MapRow] at h
  | e :: es, x :: m, h, hm => by
    obtain ⟨h1, h2, h3⟩ := h
    simp only [mget] at hm
    by_cases hi : i = x.1
    · rw [if_pos hi] at hm
      cases hm
      refine ⟨0, e, rfl, by rw [h1, hi], h2, fun n => ?_, fun d' v' hd => ?_⟩
      · simp only [Instr.findNow, h1, sameNow_int, hi, beq_self_eq_true, Nat.add_zero]
      · simp only [mput, if_pos hi, List.modify_zero_cons, MapRow]
        exact ⟨by rw [hi], hd, h3⟩
    · rw [if_neg hi] at hm
      obtain ⟨j, e', g1, g2, g3, g4, g5⟩ := mapRow_some (k0 := k0) h3 hm
      refine ⟨j + 1, e', by simpa using g1, g2, g3, fun n => ?_, fun d' v' hd => ?_⟩
      · have hb : (i == x.1) = false := by simpa using hi
        simp only [Instr.findNow, h1, sameNow_int, hb]
        rw [g4 (n + 1)]
        simp only [Option.some.injEq, Prod.mk.injEq, and_true]
        omega
      · simp only [mput, if_neg hi, List.modify_succ_cons, MapRow]
        exact ⟨h1, h2, g5 d' v' hd⟩

omit [Tables] in
theorem mapRow_none {k k0 : IntKind} {i : Int} : ∀ {es : List MapEntry} {m : List (Int × D)}, MapRow k es m → mget m i = none →
    (∀ n, Instr.findNow (.int k0) (.int k i) es n = some none) ∧
      ∀ d' v' c, (∀ (S : Nat → Prop) (w : World), ∃ cs, Rp S w d' cs ∧ VC d' v' cs) → MapRow k (es ++ [{ key := .int k i, val := v', born := c }]) (mput m i d')
  | [], [], _, _ => ⟨fun _ => by simp [Instr.findNow], fun d' v' c hd => by simp only [mput, List.nil_append, MapRow, and_true]; exact ⟨trivial, hd⟩⟩
  | [], _ :: _, h, _ => by simp [MapRow] at h
  | _ :: _, [], h, _ => by simp [MapRow] at h
  | e :: es, x :: m, h, hm => by
    obtain ⟨h1, h2, h3⟩ := h
    simp only [mget] at hm
    by_cases hi : i = x.1
    · rw [if_pos hi] at hm
      cases hm
    · rw [if_neg hi] at hm
      obtain ⟨g1, g2⟩ := mapRow_none (k0 := k0) h3 hm
      have hb : (i == x.1) = false := by simpa using hi
      refine ⟨fun n => ?_, fun d' v' c hd => ?_⟩
      · simp only [Instr.findNow, h1, sameNow_int, hb]
        exact g1 (n + 1)
      · simp only [mput, if_neg hi, List.cons_append, MapRow]
        exact ⟨h1, h2, g2 d' v' c hd⟩

omit [Tables] in
theorem checkKey_runN {T1 : TypeId} {k k0 : IntKind} {i : Int} {b : Bool} (N : Nat) (h : P.underlying T1 = some (.int k0)) : (Instr.checkKey b (N + 1) T1 (.int k i)).run P w = .ok () w := by
  simp only [Instr.checkKey, Sem.run_bind, run_underlying h, Result.andThen_ok, Sem.run_pure]
omit [Tables] in
theorem checkKey_run {T1 : TypeId} {k k0 : IntKind} {i : Int} {b : Bool} (h : P.underlying T1 = some (.int k0)) : (Instr.checkKey b 10000 T1 (.int k i)).run P w = .ok () w := checkKey_runN 9999 h
omit [Tables] in
theorem findKey_run {T1 : TypeId} {k k0 : IntKind} {i : Int} {es : List MapEntry} {r : Option (Nat × Value)} (h : P.underlying T1 = some (.int k0)) (hf : Instr.findNow (.int k0) (.int k i) es 0 = some r) : (Instr.findKey T1 (.int k i) es).run P w = .ok r w := by
  simp only [Instr.findKey, Sem.run_bind, run_underlying h, Result.andThen_ok, hf, Sem.run_pure]
omit [Tables] in
theorem getMap_run {b c : Nat} {es : Array MapEntry} (h : w.heap[b]? = some (.map es c)) : (getObj b).run P w = .ok (.map es c) w := by
  simp only [getObj, Sem.run, h]
omit [Tables] in
theorem zero_run {T2 : TypeId} (hΘ : Agree P Θ) (hk : (Θ T2).known = true) : ∃ z, (zeroValue T2).run P w = .ok z w ∧ ∀ (S : Nat → Prop) (w' : World), ∃ cs, Rp S w' (Θ T2).z cs ∧ VC (Θ T2).z z cs := by
  obtain ⟨i, v, h1, h2, h3, h4, h5, h6⟩ := (hΘ T2 hk).info
  exact ⟨v, by simp [zeroValue, typeInfo, h1, h3], fun S w' => ⟨_, Rp.konst _ h6, h5⟩⟩
omit [Tables] in
theorem RV.pair {d : D} {v : Value} {b : Bool} (h : ∃ cs, Rp (sh ρ) w d cs ∧ VC d v cs) : RV ρ w t (.tup [d, .v (.bool b)]) (.tuple #[v, .bool b]) := by
  obtain ⟨cs, h1, h2⟩ := h
  exact ⟨[v, .bool b], rfl, v, [.bool b], rfl, ⟨cs, RB.ofRp h1, h2⟩, .bool b, [], rfl, ⟨[.bool b], RB.ofRp (by simp [Rp, Value.oneCell']), rfl⟩, rfl⟩
theorem Inv.map {tmps : Array Value} (hI : Inv n ρ w tmps E) {s : Nat} {k : IntKind} {m : List (Int × D)} (h : E s = .mp k m) : ∃ b, tmps.getD s undef = .map (some b) ∧ ρ b = .bx s ∧ MapAt w b k m := by
  have := hI.slot s
  rwa [h] at this
theorem Inv.mapQ {tmps : Array Value} (hI : Inv n ρ w tmps E) {q s : Nat} (h : E q = .mq s) : tmps.getD q undef = tmps.getD s undef := by
  have := hI.slot q
  rw [h] at this
  obtain ⟨_, _, _, h2⟩ := this
  exact h2
omit [Tables] in
theorem lookup_some {T T1 T2 : TypeId} {b c : Nat} {es : Array MapEntry} {k k0 : IntKind} {i : Int} {m : List (Int × D)} {d : D} {ok : Bool} (hT : P.underlying T = some (.map T1 T2)) (h1 : P.underlying T1 = some (.int k0)) (hb : w.heap[b]? = some (.map es c)) (hr : MapRow k es.toList m) (hm : mget m i = some d) :
    ∃ v, (Instr.lookup T (.map (some b)) (.int k i) ok).run P w = .ok (if ok then .tuple #[v, .bool true] else v) w ∧ ∀ (S : Nat → Prop) (w : World), ∃ cs, Rp S w d cs ∧ VC d v cs := by
  obtain ⟨j, e, _, _, g3, g4, _⟩ := mapRow_some (k0 := k0) hr hm
  refine ⟨e.val, ?_, g3⟩
  simp only [Instr.lookup, Sem.run_bind, run_underlying hT, Result.andThen_ok, getMap_run hb, checkKey_run h1, findKey_run h1 (g4 0), Sem.run_pure]
omit [Tables] in
theorem lookup_none {T T1 T2 : TypeId} {b c : Nat} {es : Array MapEntry} {k k0 : IntKind} {i : Int} {m : List (Int × D)} {z : Value} {ok : Bool} (hT : P.underlying T = some (.map T1 T2)) (h1 : P.underlying T1 = some (.int k0)) (hb : w.heap[b]? = some (.map es c)) (hr : MapRow k es.toList m) (hm : mget m i = none)
    (hz : (zeroValue T2).run P w = .ok z w) : (Instr.lookup T (.map (some b)) (.int k i) ok).run P w = .ok (if ok then .tuple #[z, .bool false] else z) w := by
  obtain ⟨g1, _⟩ := mapRow_none (k0 := k0) hr hm
  simp only [Instr.lookup, Sem.run_bind, run_underlying hT, Result.andThen_ok, getMap_run hb, checkKey_run h1, findKey_run h1 (g1 0), Sem.run_pure, hz]

theorem Ev.sound (hΘ : Agree P Θ) (hI : Inv n ρ w a.tmps E) {s : Slot} (h : Ev P Θ E o s) : Yields P o a ρ w E t s := by
  cases h with
  | mv ho hx => exact Ev.sound_mv hI ho hx
  | @mvBox s x ho hs =>
    obtain ⟨b, cs, g1, _⟩ := hI.box hs
    exact .pure (v := a.eval (.tmp s)) hI (by simp [execOp, ho]) ⟨x, b, hs, by simp [D.okp], g1, by simp only [D.off]; exact g1⟩
  | @mvOwn s nl e es xs ho hs => exact .pure (v := a.eval (.tmp s)) hI (by simp [execOp, ho]) ⟨nl, e, es, xs, .inl ⟨hs, rfl, rfl⟩⟩
  | @mvSame k _ ho hs hsame =>
    have h1 := hI.slot k
    rw [hs] at h1
    rcases ho with ho | ho | ho
    · refine .pure (v := a.eval (.tmp k)) hI (by simp [execOp, ho]) ?_
      cases s <;> first | exact h1 | simp [Same] at hsame
    · refine .pure (v := a.eval (.tmp k)) hI (by simp [execOp, ho]) ?_
      cases s <;> first | exact h1 | simp [Same] at hsame
    · cases s with
      | ref s p =>
        obtain ⟨x, b, g1, g2, g3, g4⟩ := h1
        refine .pure (v := a.eval (.tmp k)) hI (by simp only [execOp, ho, eval_tmp, g4, Sem.run_pure]) ⟨x, b, g1, g2, g3, g4⟩
      | view s p =>
        obtain ⟨nl, e, es, xs, g1⟩ := h1
        have g2 := g1.own hI
        obtain ⟨cells, ⟨_, g3⟩, _⟩ := g2
        refine .pure (v := a.eval (.tmp k)) hI ?_ ⟨nl, e, es, xs, g1⟩
        rcases g3 with ⟨g3, _⟩ | ⟨g, cap, cur, g3, _⟩ <;> simp only [execOp, ho, eval_tmp, g3, Sem.run_pure]
      | elt s p i q =>
        obtain ⟨nl, e, es, xs, g, l, c, g1, g2, g3, g4⟩ := h1
        refine .pure (v := a.eval (.tmp k)) hI (by simp only [execOp, ho, eval_tmp, g4, Sem.run_pure]) ⟨nl, e, es, xs, g, l, c, g1, g2, g3, g4⟩
      | sub s p i j =>
        obtain ⟨nl, e, es, xs, g, l, c, g1, g2, g3, a', c', g4, g5⟩ := h1
        refine .pure (v := a.eval (.tmp k)) hI (by simp only [execOp, ho, eval_tmp, g4, Sem.run_pure]) ⟨nl, e, es, xs, g, l, c, g1, g2, g3, a', c', g4, g5⟩
      | _ => simp [Same] at hsame
  | @mvTup k ds ho hs hn =>
    have h1 := hI.slot k
    rw [hs] at h1
    obtain ⟨us, h2, h3⟩ := h1
    exact .pure (v := a.eval (.tmp k)) hI (by simp [execOp, ho]) ⟨us, h2, h3.at hn⟩
  | @pickT c x y d ho hc hx =>
    have := (hc.sound hI).v
    exact .pure (v := a.eval x) hI (by simp [execOp, ho, this, asBool]) (hx.sound hI).rv
  | @pickF c x y d ho hc hx =>
    have := (hc.sound hI).v
    exact .pure (v := a.eval y) hI (by simp [execOp, ho, this, asBool]) (hx.sound hI).rv
  | @alloc T ho hk =>
    have hok := hΘ T hk
    obtain ⟨i, v, h1, h2, h3, h4, h5, h6⟩ := hok.info
    refine .val (w' := w.alloc (.cells v.cells T)) (v := .pointer (some ⟨w.heap.size, 0, none⟩)) ?_ (.alloc hI.lt (.bx t) _) (RS.newBox hI.lt ?_)
    · simp [execOp, ho, Instr.alloc, zeroValue, typeInfo, h1, h3, newVar, newRow]
    · rw [h4]; exact Rp.konst _ h6
  | @box T x d ho hx =>
    refine .val (w' := w.alloc (.cells (a.eval x).cells T)) (v := .pointer (some ⟨w.heap.size, 0, none⟩)) ?_ (.alloc hI.lt (.bx t) _) (RS.newBox hI.lt (hx.sound hI).cells)
    simp [execOp, ho, Instr.box, newVar, newRow]
  | @ldBox T k s p x ho hk hf hp =>
    obtain ⟨b, cs, g1, g2, g3, g4, g5, g6⟩ := hk.sound hI
    obtain ⟨c1, m, c2, e1, e2, e3, _⟩ := RB.lens p x g5 g6
    have hm := g4.mem
    rw [e1, Mem.app, Mem.app] at hm
    exact Ev.sound_load hΘ hI ho g2 (by rw [← e2]; simpa using hm.1.2) ((RB.plain _ (D.pl_noOwn hp)).1 e3) hf
  | @ldView T k s p x nl e es xs ho hk hx hf =>
    obtain ⟨b, cs, g1, g2, g3, g4, g5, g6⟩ := hk.sound hI
    obtain ⟨c1, m, c2, e1, e2, e3, _⟩ := RB.lens p x g5 g6
    have hm := g4.mem
    rw [e1, Mem.app, Mem.app] at hm
    have hl := RB.len _ e3
    rw [hx] at e3 hl
    have hm2 : Mem w b (x.off p) m := by rw [← e2]; simpa using hm.1.2
    obtain ⟨u, h1, h2⟩ := loadVar_run (P := P) hΘ hf hl hm2
    simp only [VC] at h1
    subst h1
    refine .pure (v := u) hI (by simp [execOp, ho, Instr.loadAt, Instr.sureAddr, eval_tmp, g2, h2]) ⟨nl, e, es, xs, .inr ⟨x, b, hk.1, g6, hx, g1, hm2.1⟩⟩
  | @ldElt T k s p i q nl e es xs ho hk hf =>
    obtain ⟨g, l, c, h1, h2, h3, h4⟩ := hk.sound hI
    obtain ⟨m, g1, g2, g3⟩ := h1.elt hI h2
    obtain ⟨m', k1, k2, k3⟩ := Rp.part g3 g2 h3
    exact Ev.sound_load hΘ hI ho h4 k1 k2 hf
  | @ldPt T k x ho hk hf =>
    have h1 := (RV.plain (x := .pt x) rfl).1 (by have := hI.slot k; rw [hk] at this; exact this)
    obtain ⟨cs, h2, h3⟩ := h1
    simp only [Rp] at h2
    obtain ⟨b, o', us, rfl, h4, h5, h6⟩ := h2
    simp only [VC] at h3
    exact Ev.sound_load hΘ hI ho (by simpa using h3.symm) h5 h6 hf
  | @faBox T k f s p x ds fs Tf ho hk hx hf ht hfs =>
    obtain ⟨b, cs, g1, g2, g3, g4, g5, g6⟩ := hk.sound hI
    refine .pure hI (by simp [execOp, ho, eval_tmp, g2, fieldAt_run (hΘ.says ht) hfs]; rfl) ⟨x, b, hk.1, ?_, g1, ?_⟩
    · rw [D.okp_app, hx]; exact ⟨g6, by simp [D.okp, hf]⟩
    · rw [D.off_app _ _ _ g6, hx]; simp [D.off]
  | @faElt T k f s p i q nl e es xs ds fs Tf ho hk hx hf ht hfs =>
    obtain ⟨g, l, c, h1, h2, h3, h4⟩ := hk.sound hI
    refine .pure hI (by simp [execOp, ho, eval_tmp, h4, fieldAt_run (hΘ.says ht) hfs]; rfl) ⟨nl, e, es, xs, g, l, c, h1, h2, ?_, ?_⟩
    · rw [D.okp_app, hx]; exact ⟨h3, by simp [D.okp, hf]⟩
    · rw [D.off_app _ _ _ h3, hx]; simp [D.off, Nat.add_assoc]
  | @faPt T k f ds fs Tf ho hk hf ht hfs =>
    have h1 := (RV.plain (x := .pt (.st ds)) rfl).1 (by have := hI.slot k; rw [hk] at this; exact this)
    obtain ⟨cs, h2, h3⟩ := h1
    simp only [Rp] at h2
    obtain ⟨b, o', us, rfl, h4, h5, h6⟩ := h2
    simp only [VC] at h3
    obtain ⟨m, k1, k2, k3⟩ := Rp.part (p := [f]) (d := .st ds) (by simpa only [Rp] using h6) h5 (by simp [D.okp, hf])
    have hk' : a.tmps.getD k undef = .pointer (some ⟨b, o', none⟩) := by simpa using h3.symm
    refine .pure (v := .pointer (some ⟨b, o' + sizes (ds.take f), none⟩)) hI (by simp [execOp, ho, eval_tmp, hk', fieldAt_run (hΘ.says ht) hfs]) (RS.dat (cs := [.pointer (some ⟨b, o' + sizes (ds.take f), none⟩)]) ?_ (by rfl))
    simp only [Rp]
    refine ⟨b, o' + sizes (ds.take f), m, rfl, h4, ?_, by simpa [D.get] using k2⟩
    simpa [D.off] using k1
  | @iaBox T k ix s p x es ds ik i e ho hk hx hix h0 hi ht =>
    obtain ⟨b, cs, g1, g2, g3, g4, g5, g6⟩ := hk.sound hI
    have hv := (hix.sound hI).v
    have hlt : i < (ds.length : Int) := by omega
    have hes : ∃ c1 m c2, cs = c1 ++ m ++ c2 ∧ c1.length = x.off p ∧ RB ρ w s p (x.get p) m := by
      obtain ⟨c1, m, c2, e1, e2, e3, _⟩ := RB.lens p x g5 g6
      exact ⟨c1, m, c2, e1, e2, by simpa using e3⟩
    refine .pure (v := .pointer (some ⟨b, x.off p + es * i.toNat, none⟩)) hI (by simp [execOp, ho, eval_tmp, g2, hv, indexAt_array_run (hΘ.says ht) h0 hlt]) ⟨x, b, hk.1, ?_, g1, ?_⟩
    · rw [D.okp_app, hx]; exact ⟨g6, by simp [D.okp, hi]⟩
    · rw [D.off_app _ _ _ g6, hx]; simp [D.off]
  | @iaPt T k ix es ds ik i e ho hk hix h0 hi ht =>
    have h1 := (RV.plain (x := .pt (.arr es ds)) rfl).1 (by have := hI.slot k; rw [hk] at this; exact this)
    obtain ⟨cs, h2, h3⟩ := h1
    simp only [Rp] at h2
    obtain ⟨b, o', us, rfl, h4, h5, h6⟩ := h2
    simp only [VC] at h3
    obtain ⟨m, k1, k2, k3⟩ := Rp.part (p := [i.toNat]) (d := .arr es ds) (by simpa only [Rp] using h6) h5 (by simp [D.okp, hi])
    have hk' : a.tmps.getD k undef = .pointer (some ⟨b, o', none⟩) := by simpa using h3.symm
    have hv := (hix.sound hI).v
    have hlt : i < (ds.length : Int) := by omega
    refine .pure (v := .pointer (some ⟨b, o' + es * i.toNat, none⟩)) hI (by simp [execOp, ho, eval_tmp, hk', hv, indexAt_array_run (hΘ.says ht) h0 hlt]) (RS.dat (cs := [.pointer (some ⟨b, o' + es * i.toNat, none⟩)]) ?_ (by rfl))
    simp only [Rp]
    refine ⟨b, o' + es * i.toNat, m, rfl, h4, ?_, by simpa [D.get] using k2⟩
    simpa [D.off] using k1
  | @iaLst T x ix sk es xs ik i e b ho hx hix h0 hi ht =>
    obtain ⟨cs, h1, h2⟩ := hx.sound hI
    have hv := (hix.sound hI).v
    simp only [Rp] at h1
    obtain ⟨ad, l, c, rfl, h3, h4⟩ := h1
    simp only [VC] at h2
    have he : a.eval x = .slice ad l c := by simpa using h2.symm
    have hl : l = xs.length := by cases sk <;> simp_all [Hdr]
    subst hl
    cases ad with
    | none =>
      have : xs = [] := by cases sk <;> simp_all [Hdr]
      subst this
      simp at hi
    | some ad =>
      obtain ⟨m, k1, k2, k3, k4, k5⟩ := Rpx.at _ xs (h4 ad rfl) hi
      obtain ⟨b', o', sp⟩ := ad
      simp only at k2 k3 k4
      subst k2
      have hlt : i < (xs.length : Int) := by omega
      refine .pure (v := .pointer (some ⟨b', o' + es * i.toNat, none⟩)) hI (by simp [execOp, ho, he, hv, indexAt_slice_run (hΘ.says ht) h0 hlt]) (RS.dat (cs := [.pointer (some ⟨b', o' + es * i.toNat, none⟩)]) ?_ (by rfl))
      simp only [Rp]
      exact ⟨b', _, m, rfl, k3, k4, k5⟩
  | @iaView T k ix s p nl e es xs ik i e' b ho hk hix h0 hi ht =>
    have h1 := hk.sound hI
    have hv := (hix.sound hI).v
    obtain ⟨cells, ⟨g1, g2⟩, _⟩ := h1.own hI
    rcases g2 with ⟨_, g2⟩ | ⟨g, cap, cur, g2, _⟩
    · omega
    · have hlt : i < (xs.length : Int) := by omega
      refine .pure (v := .pointer (some ⟨g, 0 + es * i.toNat, none⟩)) hI (by simp [execOp, ho, eval_tmp, g2, hv, indexAt_slice_run (hΘ.says ht) h0 hlt]) ⟨nl, e, es, xs, g, xs.length, cap, ?_, hi, by simp [D.okp], by simp [D.off]⟩
      rw [g2] at h1
      exact h1
  | @buildSlice T len e es b parts xs ho hx hi ht hs hb =>
    have hv := hx.sound hI
    rw [List.map_map] at hv
    obtain ⟨c, h1, h2, h3, h4⟩ := buildSlice_run (P := P) (w := w) (parts := parts.toList.map fun x => (x.1, a.eval x.2)) (hΘ.says ht) (by rw [List.map_map]; exact hv) (by rw [List.map_map]; exact hi) hs hb
    have hl : c.toList.length = xs.length * es := by rw [Array.length_toList, h3, h4]
    have htake : c.toList.take (xs.length * es) = c.toList := by rw [← hl, List.take_length]
    have hpos : 0 < es := (hΘ.says ht).2.elim fun i ⟨z, _, _, _, _, _, h⟩ => h
    refine .val (w' := w.alloc (.cells c e)) (v := .slice (some ⟨w.heap.size, 0, none⟩) xs.length len) ?_ (.alloc hI.lt (.sl t []) _)
      (RS.newOwn hI.lt (by omega) ?_ h3 (by rw [htake]; exact h2) (by rw [htake, hl]))
    · rw [h4]
      have : (parts.toList.map fun x => (x.1, a.eval x.2)).toArray = parts.map fun x => (x.1, a.eval x.2) := by apply Array.ext'; simp
      rw [this] at h1
      simp only [execOp, ho, Sem.run_bind, h1, Result.andThen_ok, Sem.run_pure]
    · have : len ≤ len * es := Nat.le_mul_of_pos_right _ hpos
      unfold maxLen
      omega
  | @buildShared T len e es b parts xs ho hx hi ht hs hb =>
    have hv := hx.sound hI
    rw [List.map_map] at hv
    obtain ⟨c, h1, h2, h3, h4⟩ := buildSlice_run (P := P) (w := w) (parts := parts.toList.map fun x => (x.1, a.eval x.2)) (hΘ.says ht) (by rw [List.map_map]; exact hv) (by rw [List.map_map]; exact hi) hs hb
    have hl : c.toList.length = xs.length * es := by rw [Array.length_toList, h3, h4]
    have htake : c.toList.take (xs.length * es) = c.toList := by rw [← hl, List.take_length]
    have hpos : 0 < es := (hΘ.says ht).2.elim fun i ⟨z, _, _, _, _, _, h⟩ => h
    refine .val (w' := w.alloc (.cells c e)) (v := .slice (some ⟨w.heap.size, 0, none⟩) xs.length len) ?_ (.alloc hI.lt .sh _)
      (RS.newShared hI.lt ?_ h2)
    · rw [h4]
      have : (parts.toList.map fun x => (x.1, a.eval x.2)).toArray = parts.map fun x => (x.1, a.eval x.2) := by apply Array.ext'; simp
      rw [this] at h1
      simp only [execOp, ho, Sem.run_bind, h1, Result.andThen_ok, Sem.run_pure]
    · omega
  | @build T fs zs parts xs ho hx ht hz hp =>
    have hv := hx.sound hI
    rw [List.map_map] at hv
    obtain ⟨F, f1, f2, f3⟩ := hΘ.says ht
    obtain ⟨i, v, h1, h2, h3, h4, h5, h6⟩ := (hΘ T (by simp [TI.known, ht])).info
    have hzero : Rps (sh ρ) w zs v.cells.toList := by
      have := Rp.konst (S := sh ρ) (w := w) _ h6
      rw [← h4, hz] at this
      simpa only [Rp] using this
    have hplaces := fields_run (P := P) (w := w) F.toList f3
    obtain ⟨c, k1, k2⟩ := fill_struct (place := fun j => (F.toList.map fun f => (f.offset, P.cellsOf f.type)).toArray[j]?) (parts.toList.map fun x => (x.1, a.eval x.2)) zs xs v.cells hzero (by rw [List.map_map]; exact hv) (by
      intro ix hix
      rw [List.map_map] at hix
      obtain ⟨Tf, q1, q2, q3, q4⟩ := hp ix hix
      refine ⟨?_, q3, q4⟩
      rw [← f2, List.getElem?_map] at q1
      cases hq : F.toList[ix.1]? with
      | none => rw [hq] at q1; cases q1
      | some fl =>
        rw [hq] at q1
        simp only [Option.map_some, Option.some.injEq, Prod.mk.injEq] at q1
        simp only [TI.fits, Bool.and_eq_true, beq_iff_eq] at q2
        obtain ⟨iT, vT, r1, r2, _⟩ := (hΘ Tf q2.1.1).info
        have hcell : P.cellsOf fl.type = ix.2.size := by rw [q1.1]; simp [Program.cellsOf, r1, r2, ← q2.2]
        simp only [List.getElem?_toArray, List.getElem?_map, hq, Option.map_some, q1.2, hcell])
    refine .pure (v := .agg c) hI ?_ (RS.dat (cs := c.toList) (by simp only [Rp]; rw [List.map_map] at k2; exact k2) (by simp [VC]))
    have hmap : (F.mapM fun f => do pure (f.offset, ← sizeOf f.type) : Sem (Array (Nat × Nat))).run P w = .ok (F.toList.map fun f => (f.offset, P.cellsOf f.type)).toArray w := by
      rw [Array.mapM_eq_mapM_toList, Sem.run_map, hplaces]
      rfl
    have hparts : (parts.map fun x => (x.1, a.eval x.2)).toList = parts.toList.map fun x => (x.1, a.eval x.2) := by simp
    simp only [execOp, ho, Instr.build, Sem.run_bind, zeroValue, typeInfo, run_program, Result.andThen_ok, h1, Sem.run_pure, h3, run_underlying f1, hmap, hparts, k1]
  | @bin op T x y T2 x1 y1 z ho hx hy hb =>
    obtain ⟨q, h1, h2⟩ := hb (sh ρ) w _ _ (hx.sound hI) (hy.sound hI)
    refine .pure (v := q) hI ?_ h2.rv
    simp only [execOp, ho]
    rw [Sem.run_bind, h1]
    rfl
  | @uno op T x x1 z ho hx hb =>
    obtain ⟨q, h1, h2⟩ := hb (sh ρ) w _ (hx.sound hI)
    exact .pure (v := q) hI (by simp only [execOp, ho, Sem.run_bind, h1, Result.andThen_ok, Sem.run_pure]) h2.rv
  | @cv src dst x x1 z ho hx hb =>
    obtain ⟨q, h1, h2⟩ := hb (sh ρ) w _ (hx.sound hI)
    exact .pure (v := q) hI (by simp only [execOp, ho, Sem.run_bind, h1, Result.andThen_ok, Sem.run_pure]) h2.rv
  | @mf f first cap fs cs ho hf hc =>
    refine .pure (v := .func f (first.map a.eval) (cap.map a.eval)) hI (by simp [execOp, ho, Instr.makeFunc]) (RS.dat (cs := [.func f (first.map a.eval) (cap.map a.eval)]) ?_ (by rfl))
    simp only [Rp]
    have e : ∀ x : Array Operand, (x.toList.map a.eval).toArray = x.map a.eval := fun x => by apply Array.ext'; simp
    exact ⟨_, _, by rw [e, e], hf.sound hI, hc.sound hI⟩
  | @ext k i ds ho hk hi hp =>
    have h1 := hI.slot k
    rw [hk] at h1
    obtain ⟨us, h2, h3⟩ := h1
    obtain ⟨v, h4, h5⟩ := h3.nth hi
    refine .pure (v := v) hI ?_ (RV1.plain hp h5).rv
    simp [execOp, ho, eval_tmp, h2, Instr.extract, h4]
  | @lenView k T s p nl e es xs e' es' b ho hk ht =>
    obtain ⟨cells, ⟨_, g2⟩, _⟩ := (hk.sound hI).own hI
    refine .pure (v := .int .i64 xs.length) hI ?_ (RD.ofV rfl).rv
    have hu := (hΘ.says ht).1
    rcases g2 with ⟨g2, g3⟩ | ⟨g, cap, cur, g2, _⟩ <;>
      simp [execOp, ho, resolve, invoke, builtin, Builtin.len_, eval_tmp, g2, run_underlying hu, goInt]
    omega
  | @subView T k lo hi s p nl e es xs e' b i j ho hk ht hl hh h1 h2 =>
    have h3 := hk.sound hI
    obtain ⟨cells, ⟨g1, g2⟩, _⟩ := h3.own hI
    have hlo := hl.sound rfl hI
    have hhi := hh.sound rfl hI
    rcases g2 with ⟨g2, g3⟩ | ⟨g, cap, cur, g2, _, g4, g5, _⟩
    · rw [g2] at h3
      obtain rfl : j = 0 := by omega
      obtain rfl : i = 0 := by omega
      have hr := slice_run (P := P) (w := w) (ad := none) (l := 0) (cap := 0) (i := 0) (j := 0) (f := a.eval) (hΘ.says ht) (by simpa using hlo) (by rw [g3] at hhi; exact hhi) (Nat.le_refl _) (Nat.le_refl _)
      refine .pure (v := .slice none 0 0) hI ?_ ⟨nl, e, es, xs, none, 0, 0, h3, Nat.le_refl _, Nat.zero_le _, none, 0, by simp, fun h => by omega⟩
      simp only [execOp, ho, Option.map_none, Sem.run_bind]
      rw [eval_tmp, g2, hr]
      simp
    · rw [g2] at h3
      have hr := slice_run (P := P) (w := w) (ad := some ⟨g, 0, none⟩) (l := xs.length) (cap := cap) (i := i) (j := j) (f := a.eval) (hΘ.says ht) (by simpa using hlo) (by simpa using hhi) h1 (by omega)
      refine .pure (v := .slice (if cap = i then some ⟨g, 0, none⟩ else (some ⟨g, 0, none⟩ : Option Addr).map (·.add (i * es))) (j - i) (cap - i)) hI ?_ ⟨nl, e, es, xs, _, _, _, h3, h1, h2, _, _, rfl, fun h => ⟨g, rfl, ?_⟩⟩
      · simp only [execOp, ho, Option.map_none, Sem.run_bind]
        rw [eval_tmp, g2, hr]
        simp
      · have : ¬ cap = i := by omega
        simp only [this, if_false, Option.map_some, Addr.add]
        split
        · next h0 => rw [Nat.mul_comm, h0]
        · simp [Nat.mul_comm]
  | @lenSub k T s p i j e' es' b ho hk ht =>
    have h1 := hI.slot k
    rw [hk] at h1
    obtain ⟨nl, e, es, xs, ad, l, c, _, _, _, a', c', h2, _⟩ := h1
    refine .pure (v := .int .i64 ((j - i : Nat) : Int)) hI ?_ (RD.ofV rfl).rv
    have hu := (hΘ.says ht).1
    simp [execOp, ho, resolve, invoke, builtin, Builtin.len_, eval_tmp, h2, run_underlying hu, goInt]
  | @iaSub T k ix s p i j nl e es xs ik m e' b ho hk hs hp hix h0 hi ht =>
    have h1 := hI.slot k
    rw [hk] at h1
    obtain ⟨nl', e0, es', xs', ad, l, c, k1, k2, k3, a', c', k4, k5⟩ := h1
    have hv := (hix.sound hI).v
    obtain ⟨g, rfl, rfl⟩ := k5 (by omega)
    rcases k1 with ⟨q1, q2, q3⟩ | ⟨x, b', q1, _⟩
    · rw [hs] at q1
      cases q1
      have hlt : m < ((j - i : Nat) : Int) := by omega
      refine .pure (v := .pointer (some ⟨g, es * i + es * m.toNat, none⟩)) hI (by simp [execOp, ho, eval_tmp, k4, hv, indexAt_slice_run (hΘ.says ht) h0 hlt]) ⟨nl, e, es, xs, g, l, c, .inl ⟨hs, hp, q3⟩, by omega, by simp [D.okp], by simp [D.off, Nat.mul_add]⟩
    · rw [hs] at q1; cases q1
  | @mk T l c e es b kl kc m z ho hl hc ht hk hz h0 hb hm =>
    have hu := hΘ.says ht
    obtain ⟨hu, i, z', h1, h2, h3, h4, h5, h6⟩ := hu
    obtain ⟨i', v', q1, q2, q3, q4, q5, q6⟩ := (hΘ e hk).info
    rw [h1] at q1; cases q1
    rw [h4] at q3; cases q3
    rw [hz] at q4 q5 q6
    have hm' : m ≤ 9223372036854775807 := by unfold maxLen at hm; omega
    have hb' : (i.bytes : Int) * m ≤ 281474976710656 := by
      have : ((i.bytes * m.toNat : Nat) : Int) ≤ 281474976710656 := by rw [h3, Nat.mul_comm]; omega
      rwa [Int.natCast_mul, Int.toNat_of_nonneg h0] at this
    have hr := run_make (P := P) w T e i z' hu h1 h4 kl kc m m h0 (Int.le_refl _) hb' hm'
    rw [h2, ← h5] at hr
    have hcells := made_list z'.cells (by omega) m.toNat
    have hlen : (madeCells z'.cells (m.toNat * z'.cells.size)).toList.take ((List.replicate m.toNat z).length * es) = (List.replicate m.toNat z'.cells.toList).flatten := by
      rw [List.length_replicate, ← h5, hcells, List.take_of_length_le]
      simp
    refine .val (w' := w.alloc (.cells (madeCells z'.cells (m.toNat * z'.cells.size)) e)) (v := .slice (some ⟨w.heap.size, 0, none⟩) m.toNat m.toNat) ?_ (.alloc hI.lt (.sl t []) _) ?_
    · simp only [execOp, ho, (hl.sound hI).v, (hc.sound hI).v, Sem.run_bind, hr, Result.andThen_ok, Sem.run_pure]
    · have := RS.newOwn (E := E) (t := t) (tmps := a.tmps) (xs := List.replicate m.toNat z) (cs := madeCells z'.cells (m.toNat * z'.cells.size)) (e := e) (es := es) (cap := m.toNat) hI.lt (by simp) hm (by rw [size_madeCells, h5])
        (by rw [hlen, q4]; exact Rpa.replicate (Rp.konst z q6) (by rw [← q4]; simpa using h5) _) (by rw [hlen]; simp [h5])
      simpa using this
  | @plain z xs hx hz =>
    obtain ⟨q, h1, h2⟩ := hz (sh ρ) w a.eval (fun _ => rfl) (fun x hx' => (hx x hx').1.sound hI)
    exact .pure (v := q) hI h1 h2.rv
  | @appNil x T e es b es' ys s ho hs hx ht hb hm =>
    obtain ⟨c0, s1, s2⟩ := hs.sound hI
    simp only [Rp] at s1
    obtain ⟨ad0, l0, cap0, rfl, s3, _⟩ := s1
    simp only [VC] at s2
    simp only [Hdr] at s3
    obtain ⟨rfl, rfl, rfl, _⟩ := s3
    have he : a.eval s = .slice none 0 0 := by simpa using s2.symm
    obtain ⟨ad, c, news, h1, h2, h3, h4⟩ := hx.sound hI
    obtain ⟨hu, i, z, i1, i2, i3, i4, i5, i6⟩ := hΘ.says ht
    by_cases hy : ys = []
    · subst hy
      have hr : (Builtin.append_ #[T, T] o.type #[.slice none 0 0, .slice ad 0 c]).run P w = .ok (.slice none 0 0) w := by
        cases ad <;> simp [Builtin.append_, run_underlying hu, sizeOf, typeInfo, i1, Builtin.lenOf, Builtin.firstCells, loadCells, loadCellsFrom]
      refine .pure (v := .slice none 0 0) hI ?_ ⟨[.slice none 0 0], ?_, rfl⟩
      · simp only [execOp, ho, resolve, invoke, builtin, Sem.run_bind, Sem.run_pure, Result.andThen_ok, List.map_toArray, List.map_cons, List.map_nil, he, h1, List.length_nil, hr]
      · simp only [RB]
        exact ⟨_, rfl, [], World.ownsRow_nil w 0 e es, by simp [Rpa], by simp, by simp [Value.ownBlock]⟩
    · obtain ⟨b', o', rfl, hmem⟩ := h4.resolve_left hy
      have hlen : 0 < ys.length := by cases ys <;> simp_all
      have hm' : (ys.length : Int) ≤ 9223372036854775807 := by unfold maxLen at hm; omega
      have hr := run_append_nil (P := P) w T o.type e i z hu i1 i4 ⟨b', o', none⟩ ys.length c news (by rw [i2]; exact h2) (Mem.at hmem) hlen hm' (by rw [i3]; omega)
      have hge := grownCap_ge w ys.length 0 e
      have hcm := grownCap_le_maxLen w ys.length 0 e hm
      have hsz : (news.toArray ++ Builtin.zeroCells z.cells (grownCap w ys.length 0 e - ys.length)).size = grownCap w ys.length 0 e * es := by
        simp only [Array.size_append, List.size_toArray, size_zeroCells, i5, h2, ← Nat.add_mul]
        congr 1
        omega
      have htk : (news.toArray ++ Builtin.zeroCells z.cells (grownCap w ys.length 0 e - ys.length)).toList.take (ys.length * es) = news := by
        simp only [Array.toList_append, ← h2, List.take_left']
      have hnl : ys.isEmpty = false := by cases ys <;> simp_all
      rw [hnl]
      refine .val (w' := w.drew.alloc (.cells (news.toArray ++ Builtin.zeroCells z.cells (grownCap w ys.length 0 e - ys.length)) e)) (v := .slice (some ⟨w.heap.size, 0, none⟩) ys.length (grownCap w ys.length 0 e)) ?_ ?_
        (RS.newOwn (w := w.drew) (cs := news.toArray ++ Builtin.zeroCells z.cells (grownCap w ys.length 0 e - ys.length)) hI.lt hge hcm hsz (by rw [htk]; exact Rpa.mono (w := w) (w' := w.drew) (fun b hb => ⟨hb, rfl⟩) ys h3) (by rw [htk]; exact h2))
      · simp only [execOp, ho, resolve, invoke, builtin, Sem.run_bind, Sem.run_pure, Result.andThen_ok, List.map_toArray, List.map_cons, List.map_nil, he, h1, hr]
      · exact (Grow.refl hI.lt).drew.trans (Grow.alloc (w := w.drew) hI.lt (.sl t []) _)
  | @callB fo args ts f fs cs ds r ho hf ha hc hd hr =>
    obtain ⟨c1, h1, h2⟩ := hf.sound hI
    simp only [Rp] at h1
    obtain ⟨us, ts', rfl, h3, h4⟩ := h1
    simp only [VC] at h2
    have hS : ∀ b, sh ρ b → b < w.heap.size ∧ w.heap[b]? = w.heap[b]? := fun b hb => ⟨hI.lt b (by simp only [sh] at hb; simp [hb]), rfl⟩
    have he : a.eval fo = .func (.func f) us.toArray ts'.toArray := by simpa using h2.symm
    intro Q K hK
    unfold Oper.wp
    rw [callValue_run ho he hc]
    have hargs : us.toArray ++ args.map a.eval ++ ts'.toArray = (us ++ args.toList.map a.eval ++ ts').toArray := by apply Array.ext'; simp
    rw [hargs]
    refine (hd (fun b => b < w.heap.size) w (us ++ args.toList.map a.eval ++ ts') (fun b hb => hb) (hI.tab.mono hS) (Rpv.app (Rpv.app (Rpv.mono hS _ h3) (ha.sound hI)) (Rpv.mono hS _ h4))).mono ?_
    rintro e w' ⟨v, ρ', rfl, g, hr'⟩
    let ρ2 : Nat → Tag := fun b => if b < w.heap.size then ρ b else .other
    have g2 : Grow ρ w ρ2 w' := by
      refine ⟨fun b hb => ?_, fun b hb => ⟨?_, (g.old b hb).2⟩, fun b hb => ?_, g.os, g.tape, g.output, g.size⟩
      · have := hI.lt b hb; simp [ρ2, this]
      · simp [ρ2, hb]
      · simp only [ρ2] at hb
        split at hb
        · next h => exact Nat.lt_of_lt_of_le h g.size
        · exact absurd rfl hb
    exact hK v ρ2 w' g2 (RV.flatv hr hr')
  | @call fo args ts f fs cs ds r ho hf ha hc hd =>
    obtain ⟨c1, h1, h2⟩ := hf.sound hI
    simp only [Rp] at h1
    obtain ⟨us, ts', rfl, h3, h4⟩ := h1
    simp only [VC] at h2
    have he : a.eval fo = .func (.func f) us.toArray ts'.toArray := by simpa using h2.symm
    intro Q K hK
    unfold Oper.wp
    rw [callValue_run ho he hc]
    have hargs : us.toArray ++ args.map a.eval ++ ts'.toArray = (us ++ args.toList.map a.eval ++ ts').toArray := by apply Array.ext'; simp
    rw [hargs]
    refine (hd (sh ρ) w (us ++ args.toList.map a.eval ++ ts') (fun b hb => hI.lt b (by simp [sh] at hb; simp [hb])) hI.tab (Rpv.app (Rpv.app h3 (ha.sound hI)) h4)).mono ?_
    rintro e w' ⟨v, ρ', rfl, g, hr⟩
    -- the tags of what is new, for this slot
    let ρ2 : Nat → Tag := fun b => if b < w.heap.size then ρ b else match ρ' b with | .sl 0 p => .sl t p | .sh => .sh | _ => .other
    have g2 : Grow ρ w ρ2 w' := by
      refine ⟨fun b hb => ?_, fun b hb => ⟨?_, (g.old b hb).2⟩, fun b hb => ?_, g.os, g.tape, g.output, g.size⟩
      · have := hI.lt b hb; simp [ρ2, this]
      · simp [ρ2, hb]
      · simp only [ρ2] at hb
        split at hb
        · next h => exact Nat.lt_of_lt_of_le h g.size
        · refine g.lt b fun h => ?_
          rw [h] at hb
          exact hb rfl
    refine hK v ρ2 w' g2 (RV.mono (fun b hb => ⟨?_, rfl⟩) (fun b r hb => ⟨?_, rfl⟩) hr)
    · simp only [ρ2]
      split
      · next h =>
        have := (g.old b h).1
        rw [hb] at this
        refine Classical.byContradiction fun hne => ?_
        simp [tagS, sh, hne] at this
      · rw [hb]
    · simp only [ρ2]
      split
      · next h =>
        have := (g.old b h).1
        rw [hb] at this
        simp only [tagS] at this
        split at this <;> cases this
      · simp [hb]
  | @wmv k x ho hk =>
    have h1 := hI.slot k
    rw [hk] at h1
    refine .pure (v := a.eval (.tmp k)) hI (by rcases ho with ho | ho <;> simp [execOp, ho]) h1
  | @wplain z xs hx hz =>
    obtain ⟨q, h1, h2⟩ := hz (All w) w a.eval (fun _ => rfl) (fun x hx' => (hx x hx').1.sound hI)
    exact .pure (v := q) hI h1 h2.wv
  | @wplainF z xs hx hz hf =>
    obtain ⟨q, h1, h2⟩ := hz (All w) w a.eval (fun _ => rfl) (fun x hx' => (hx x hx').1.sound hI)
    exact .pure (v := q) hI h1 (h2.flat hf).rv
  | @wmf f first cap fs cs ho hf hc =>
    refine .pure (v := .func f (first.map a.eval) (cap.map a.eval)) hI (by simp [execOp, ho, Instr.makeFunc]) ⟨[.func f (first.map a.eval) (cap.map a.eval)], ?_, by rfl⟩
    simp only [Rp]
    have e : ∀ x : Array Operand, (x.toList.map a.eval).toArray = x.map a.eval := fun x => by apply Array.ext'; simp
    exact ⟨_, _, by rw [e, e], hf.sound hI, hc.sound hI⟩
  | @wext k i ds ho hk hi =>
    have h1 := hI.slot k
    rw [hk] at h1
    obtain ⟨us, h2, h3⟩ := h1
    obtain ⟨v, h4, h5⟩ := h3.nth hi
    exact .pure (v := v) hI (by simp [execOp, ho, eval_tmp, h2, Instr.extract, h4]) h5.wv
  | @wextF k i ds ho hk hi hf =>
    have h1 := hI.slot k
    rw [hk] at h1
    obtain ⟨us, h2, h3⟩ := h1
    obtain ⟨v, h4, h5⟩ := h3.nth hi
    exact .pure (v := v) hI (by simp [execOp, ho, eval_tmp, h2, Instr.extract, h4]) (h5.flat hf).rv
  | @wcall fo args ts f fs cs ds r ho hf ha hc hd hr =>
    obtain ⟨c1, h1, h2⟩ := hf.sound hI
    simp only [Rp] at h1
    obtain ⟨us, ts', rfl, h3, h4⟩ := h1
    simp only [VC] at h2
    have he : a.eval fo = .func (.func f) us.toArray ts'.toArray := by simpa using h2.symm
    intro Q K hK
    unfold Oper.wp
    rw [callValue_run ho he hc]
    have hargs : us.toArray ++ args.map a.eval ++ ts'.toArray = (us ++ args.toList.map a.eval ++ ts').toArray := by apply Array.ext'; simp
    rw [hargs]
    refine (hd (All w) w (us ++ args.toList.map a.eval ++ ts') (fun b hb => hb) (hI.tab.mono hI.all) (Rpv.app (Rpv.app h3 (ha.sound hI)) h4)).mono ?_
    rintro e w' ⟨v, ρ', rfl, g, hr'⟩
    let ρ2 : Nat → Tag := fun b => if b < w.heap.size then ρ b else match ρ' b with | .sl 0 p => .sl t p | _ => .other
    have hold : ∀ b, b < w.heap.size → ρ' b = .sh := fun b hb => by rw [(g.old b hb).1]; simp [tagS, All, hb]
    have g2 : Grow ρ w ρ2 w' := by
      refine ⟨fun b hb => ?_, fun b hb => ⟨?_, (g.old b hb).2⟩, fun b hb => ?_, g.os, g.tape, g.output, g.size⟩
      · have := hI.lt b hb; simp [ρ2, this]
      · simp [ρ2, hb]
      · simp only [ρ2] at hb
        split at hb
        · next h => exact Nat.lt_of_lt_of_le h g.size
        · refine g.lt b fun h => ?_
          rw [h] at hb
          exact hb rfl
    refine hK v ρ2 w' g2 ?_
    cases r with
    | own nl e es xs =>
      obtain ⟨cells, k1, k2, k3, k4⟩ := RV.own hr'
      have k2' : Rpa (sh ρ2) w' es xs cells := Rp.flatv.row xs (by simpa [D.fl] using hr) k2
      refine ⟨[v], ?_, rfl⟩
      simp only [RB]
      refine ⟨v, rfl, cells, k1, k2', k3, fun b hb => ?_⟩
      have h5 := k4 b hb
      have h6 : ¬ b < w.heap.size := fun h => by rw [hold b h] at h5; cases h5
      simp [ρ2, h6, h5]
    | _ => exact RV.flatv hr hr'
  | @mvMap s k m ho hs =>
    refine .pure (v := a.eval (.tmp s)) hI (by rcases ho with ho | ho <;> simp [execOp, ho]) ⟨k, m, hs, rfl⟩
  | @mvMq k s ho hs =>
    have h1 := hI.slot k
    rw [hs] at h1
    exact .pure (v := a.eval (.tmp k)) hI (by rcases ho with ho | ho <;> simp [execOp, ho]) h1
  | @makeMap T k ho =>
    refine .val (w' := w.alloc (.map #[] 0)) (v := .map (some w.heap.size)) ?_ (.alloc hI.lt (.bx t) _) ?_
    · simp [execOp, ho, Instr.makeMap]
    · exact ⟨w.heap.size, rfl, if_pos rfl, #[], 0, heap_alloc_new _ _, trivial⟩
  | @lookup T q x s k m i T1 T2 d k0 ho hq hs hT hT1 hx hm hp =>
    obtain ⟨b, h1, _, es, c, h2, h3⟩ := hI.map hs
    obtain ⟨v, h4, h5⟩ := lookup_some (P := P) (w := w) (ok := false) hT hT1 h2 h3 hm
    have hxv := (hx.sound hI).v
    refine .pure (v := v) hI ?_ ((RV.plain hp).2 (h5 _ _))
    have hqv : a.eval (.tmp q) = .map (some b) := (hI.mapQ hq).trans h1
    simp only [execOp, ho, hqv, hxv, Sem.run_bind, h4]
    rfl
  | @lookupNo T q x s k m i T1 T2 k0 ho hq hs hT hT1 hx hm hz hp =>
    obtain ⟨b, h1, _, es, c, h2, h3⟩ := hI.map hs
    obtain ⟨z, h6, h7⟩ := zero_run (P := P) (w := w) hΘ hz
    have h4 := lookup_none (P := P) (w := w) (ok := false) hT hT1 h2 h3 hm h6
    have hxv := (hx.sound hI).v
    refine .pure (v := z) hI ?_ ((RV.plain hp).2 (h7 _ _))
    have hqv : a.eval (.tmp q) = .map (some b) := (hI.mapQ hq).trans h1
    simp only [execOp, ho, hqv, hxv, Sem.run_bind, h4]
    rfl
  | @lookupOk T q x s k m i T1 T2 d k0 ho hq hs hT hT1 hx hm hp =>
    obtain ⟨b, h1, _, es, c, h2, h3⟩ := hI.map hs
    obtain ⟨v, h4, h5⟩ := lookup_some (P := P) (w := w) (ok := true) hT hT1 h2 h3 hm
    have hxv := (hx.sound hI).v
    refine .pure (v := .tuple #[v, .bool true]) hI ?_ (RV.pair (h5 _ _))
    have hqv : a.eval (.tmp q) = .map (some b) := (hI.mapQ hq).trans h1
    simp only [execOp, ho, hqv, hxv, Sem.run_bind, h4]
    rfl
  | @lookupOkNo T q x s k m i T1 T2 k0 ho hq hs hT hT1 hx hm hz hp =>
    obtain ⟨b, h1, _, es, c, h2, h3⟩ := hI.map hs
    obtain ⟨z, h6, h7⟩ := zero_run (P := P) (w := w) hΘ hz
    have h4 := lookup_none (P := P) (w := w) (ok := true) hT hT1 h2 h3 hm h6
    have hxv := (hx.sound hI).v
    refine .pure (v := .tuple #[z, .bool false]) hI ?_ (RV.pair (h7 _ _))
    have hqv : a.eval (.tmp q) = .map (some b) := (hI.mapQ hq).trans h1
    simp only [execOp, ho, hqv, hxv, Sem.run_bind, h4]
    rfl
  | @wcallW fo args ts f fs cs ds r ho hf ha hc hd hr =>
    obtain ⟨c1, h1, h2⟩ := hf.sound hI
    simp only [Rp] at h1
    obtain ⟨us, ts', rfl, h3, h4⟩ := h1
    simp only [VC] at h2
    have he : a.eval fo = .func (.func f) us.toArray ts'.toArray := by simpa using h2.symm
    intro Q K hK
    unfold Oper.wp
    rw [callValue_run ho he hc]
    have hargs : us.toArray ++ args.map a.eval ++ ts'.toArray = (us ++ args.toList.map a.eval ++ ts').toArray := by apply Array.ext'; simp
    rw [hargs]
    refine (hd (All w) w (us ++ args.toList.map a.eval ++ ts') (fun b hb => hb) (hI.tab.mono hI.all) (Rpv.app (Rpv.app h3 (ha.sound hI)) h4)).mono ?_
    rintro e w' ⟨v, ρ', rfl, g, hr'⟩
    let ρ2 : Nat → Tag := fun b => if b < w.heap.size then ρ b else .other
    have g2 : Grow ρ w ρ2 w' := by
      refine ⟨fun b hb => ?_, fun b hb => ⟨?_, (g.old b hb).2⟩, fun b hb => ?_, g.os, g.tape, g.output, g.size⟩
      · have := hI.lt b hb; simp [ρ2, this]
      · simp [ρ2, hb]
      · simp only [ρ2] at hb
        split at hb
        · next h => exact Nat.lt_of_lt_of_le h g.size
        · exact absurd rfl hb
    exact hK v ρ2 w' g2 (RV.wv hr (fun b hb => g.lt b (by simp [hb])) hr')
end

end Go.Dat
