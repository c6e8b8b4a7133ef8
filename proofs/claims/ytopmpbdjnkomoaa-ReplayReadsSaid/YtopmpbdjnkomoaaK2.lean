/- Parts of data: taking one and putting another one there; what a frame's slots hold. No conditions. -/
import Derived.Test.YtopmpbdjnkomoaaK1
namespace Go.Dat

theorem Rp.noOwn {S : Nat → Prop} {w : World} : ∀ (d : D) {vs}, Rp S w d vs → d.noOwn = true
  | .v x, _, _ => by simp [D.noOwn]
  | .st ds, _, hd => by simp only [Rp] at hd; simpa only [D.noOwn] using many ds hd
  | .arr _ ds, _, hd => by simp only [Rp] at hd; simpa only [D.noOwn] using row ds hd
  | .lst _ _ _, _, _ => by simp [D.noOwn]
  | .own _ _ _ _, _, hd => by simp only [Rp] at hd
  | .fn _ _ _, _, _ => by simp [D.noOwn]
  | .pt _, _, _ => by simp [D.noOwn]
  | .dead _, _, _ => by simp [D.noOwn]
  | .tup _, _, hd => by simp only [Rp] at hd
where
  many : ∀ (ds : List D) {vs}, Rps S w ds vs → noOwns ds = true
    | [], _, _ => by simp [noOwns]
    | d :: ds, _, hd => by
      simp only [Rps] at hd
      obtain ⟨x, y, rfl, h1, h2⟩ := hd
      simp [noOwns, Rp.noOwn d h1, many ds h2]
  row : ∀ (ds : List D) {es vs}, Rpa S w es ds vs → noOwns ds = true
    | [], _, _, _ => by simp [noOwns]
    | d :: ds, _, _, hd => by
      simp only [Rpa] at hd
      obtain ⟨x, y, rfl, _, h1, h2⟩ := hd
      simp [noOwns, Rp.noOwn d h1, row ds h2]

theorem RB.ofRp {ρ : Nat → Tag} {w : World} {t : Nat} {d : D} {p vs} (h : Rp (sh ρ) w d vs) : RB ρ w t p d vs := (RB.plain d (Rp.noOwn d h)).2 h

/-- What is kept of other places: all that is shared, and all of t's own but what is at q. -/
structure KeepBut (ρ : Nat → Tag) (w : World) (ρ' : Nat → Tag) (w' : World) (t : Nat) (q : List Nat) : Prop where
  shd : ∀ b, ρ b = .sh → ρ' b = .sh ∧ w'.heap[b]? = w.heap[b]?
  own : ∀ b r, ρ b = .sl t r → ¬ q <+: r → ρ' b = ρ b ∧ w'.heap[b]? = w.heap[b]?

theorem not_prefix_of_ne {q p r : List Nat} {i j : Nat} (h : j ≠ i) : ¬ (q ++ i :: p) <+: (q ++ j :: r) := by
  intro hp
  have := (List.prefix_append_right_inj q).1 hp
  rw [List.cons_prefix_cons] at this
  exact h this.1.symm

mutual
theorem RB.lens {ρ : Nat → Tag} {w : World} {t : Nat} : ∀ (p : List Nat) (d : D) {q vs}, RB ρ w t q d vs → d.okp p →
    ∃ a m b, vs = a ++ m ++ b ∧ a.length = d.off p ∧ RB ρ w t (q ++ p) (d.get p) m ∧
      ∀ ρ' w', KeepBut ρ w ρ' w' t (q ++ p) → ∀ y m', m'.length = m.length → RB ρ' w' t (q ++ p) y m' → RB ρ' w' t q (d.set p y) (a ++ m' ++ b)
  | [], d, q, vs, h, _ => ⟨[], vs, [], by simp, by simp [D.off], by simpa [D.get] using h, fun ρ' w' _ y m' _ hy => by simpa [D.set] using hy⟩
  | i :: p, .st ds, q, vs, h, hk => by
    simp only [D.okp] at hk
    simp only [RB] at h
    obtain ⟨a, m, b, e, hl, hm, hset⟩ := RBs.lens i ds h hk.1
    obtain ⟨a2, m2, b2, e2, hl2, hm2, hset2⟩ := RB.lens p (ds.getD i un) hm hk.2
    refine ⟨a ++ a2, m2, b2 ++ b, by simp [e, e2], by simp [D.off, hl, hl2], by simpa [D.get] using hm2, ?_⟩
    intro ρ' w' hkeep y m' hlen hy
    simp only [D.set, RB]
    have h3 := hset2 ρ' w' (by simpa using hkeep) y m' hlen (by simpa using hy)
    have h4 := hset ρ' w' ⟨hkeep.shd, fun b j r hj hb => hkeep.own b _ hb (by simpa using not_prefix_of_ne (q := q) (p := p) (r := r) (by simpa using hj))⟩ _ _ (by simp [e2, hlen]) h3
    simpa using h4
  | i :: p, .arr es ds, q, vs, h, hk => by
    simp only [D.okp] at hk
    simp only [RB] at h
    obtain ⟨a, m, b, e, hl, _, hm, hset⟩ := RBa.lens i ds h hk.1
    obtain ⟨a2, m2, b2, e2, hl2, hm2, hset2⟩ := RB.lens p (ds.getD i un) hm hk.2
    refine ⟨a ++ a2, m2, b2 ++ b, by simp [e, e2], by simp [D.off, hl, hl2], by simpa [D.get] using hm2, ?_⟩
    intro ρ' w' hkeep y m' hlen hy
    simp only [D.set, RB]
    have h3 := hset2 ρ' w' (by simpa using hkeep) y m' hlen (by simpa using hy)
    have h4 := hset ρ' w' ⟨hkeep.shd, fun b j r hj hb => hkeep.own b _ hb (by simpa using not_prefix_of_ne (q := q) (p := p) (r := r) (by simpa using hj))⟩ _ _ (by simp [e2, hlen]) h3
    simpa using h4
  | _ :: _, .v _, _, _, _, hk => by simp [D.okp] at hk
  | _ :: _, .lst _ _ _, _, _, _, hk => by simp [D.okp] at hk
  | _ :: _, .own _ _ _ _, _, _, _, hk => by simp [D.okp] at hk
  | _ :: _, .fn _ _ _, _, _, _, hk => by simp [D.okp] at hk
  | _ :: _, .pt _, _, _, _, hk => by simp [D.okp] at hk
  | _ :: _, .dead _, _, _, _, hk => by simp [D.okp] at hk
  | _ :: _, .tup _, _, _, _, hk => by simp [D.okp] at hk
theorem RBs.lens {ρ : Nat → Tag} {w : World} {t : Nat} : ∀ (i : Nat) (ds : List D) {q k vs}, RBs ρ w t q k ds vs → i < ds.length →
    ∃ a m b, vs = a ++ m ++ b ∧ a.length = sizes (ds.take i) ∧ RB ρ w t (q ++ [k + i]) (ds.getD i un) m ∧
      ∀ ρ' w', ((∀ b, ρ b = .sh → ρ' b = .sh ∧ w'.heap[b]? = w.heap[b]?) ∧ (∀ b j r, j ≠ k + i → ρ b = .sl t (q ++ j :: r) → ρ' b = ρ b ∧ w'.heap[b]? = w.heap[b]?)) →
        ∀ y m', m'.length = m.length → RB ρ' w' t (q ++ [k + i]) y m' → RBs ρ' w' t q k (ds.set i y) (a ++ m' ++ b)
  | _, [], _, _, _, _, hi => by simp at hi
  | 0, d :: ds, q, k, vs, h, _ => by
    simp only [RBs] at h
    obtain ⟨x, y, e, h1, h2⟩ := h
    refine ⟨[], x, y, by simp [e], by simp [sizes], by simpa using h1, ?_⟩
    intro ρ' w' hk z m' _ hz
    simp only [List.set, RBs]
    refine ⟨m', y, by simp, by simpa using hz, RBs.shift (k := k) hk.1 (fun b j r (hj : k < j) hb => hk.2 b j r (by omega) hb) ds h2 (by omega)⟩
  | i + 1, d :: ds, q, k, vs, h, hi => by
    simp only [RBs] at h
    obtain ⟨x, y, e, h1, h2⟩ := h
    obtain ⟨a, m, b, e2, hl, hm, hset⟩ := RBs.lens i ds h2 (by simpa using hi)
    refine ⟨x ++ a, m, b, by simp [e, e2], by simp [sizes, RB.len d h1, hl], by simpa [Nat.add_assoc, Nat.add_comm 1 i] using hm, ?_⟩
    intro ρ' w' hk z m' hz1 hz
    simp only [List.set, RBs]
    refine ⟨x, a ++ m' ++ b, by simp, ?_, hset ρ' w' ⟨hk.1, fun b j r hj hb => hk.2 b j r (by omega) hb⟩ z m' hz1 (by simpa [Nat.add_assoc, Nat.add_comm 1 i] using hz)⟩
    exact RB.mono (p := q ++ [k]) (p' := q ++ [k]) hk.1 d (fun b r hb => by
      have hb' : ρ b = .sl t (q ++ k :: r) := by simpa using hb
      obtain ⟨g1, g2⟩ := hk.2 b k r (by omega) hb'
      exact ⟨by rw [g1, hb], g2⟩) h1
theorem RBa.lens {ρ : Nat → Tag} {w : World} {t : Nat} : ∀ (i : Nat) (ds : List D) {q k es vs}, RBa ρ w t q k es ds vs → i < ds.length →
    ∃ a m b, vs = a ++ m ++ b ∧ a.length = es * i ∧ m.length = es ∧ RB ρ w t (q ++ [k + i]) (ds.getD i un) m ∧
      ∀ ρ' w', ((∀ b, ρ b = .sh → ρ' b = .sh ∧ w'.heap[b]? = w.heap[b]?) ∧ (∀ b j r, j ≠ k + i → ρ b = .sl t (q ++ j :: r) → ρ' b = ρ b ∧ w'.heap[b]? = w.heap[b]?)) →
        ∀ y m', m'.length = m.length → RB ρ' w' t (q ++ [k + i]) y m' → RBa ρ' w' t q k es (ds.set i y) (a ++ m' ++ b)
  | _, [], _, _, _, _, _, hi => by simp at hi
  | 0, d :: ds, q, k, es, vs, h, _ => by
    simp only [RBa] at h
    obtain ⟨x, y, e, hx, h1, h2⟩ := h
    refine ⟨[], x, y, by simp [e], by simp, hx, by simpa using h1, ?_⟩
    intro ρ' w' hk z m' hz1 hz
    simp only [List.set, RBa]
    refine ⟨m', y, by simp, by omega, by simpa using hz, RBa.shift (k := k) hk.1 (fun b j r (hj : k < j) hb => hk.2 b j r (by omega) hb) ds h2 (by omega)⟩
  | i + 1, d :: ds, q, k, es, vs, h, hi => by
    simp only [RBa] at h
    obtain ⟨x, y, e, hx, h1, h2⟩ := h
    obtain ⟨a, m, b, e2, hl, hml, hm, hset⟩ := RBa.lens i ds h2 (by simpa using hi)
    refine ⟨x ++ a, m, b, by simp [e, e2], by simp [hx, hl, Nat.mul_add, Nat.add_comm], hml, by simpa [Nat.add_assoc, Nat.add_comm 1 i] using hm, ?_⟩
    intro ρ' w' hk z m' hz1 hz
    simp only [List.set, RBa]
    refine ⟨x, a ++ m' ++ b, by simp, hx, ?_, hset ρ' w' ⟨hk.1, fun b j r hj hb => hk.2 b j r (by omega) hb⟩ z m' hz1 (by simpa [Nat.add_assoc, Nat.add_comm 1 i] using hz)⟩
    exact RB.mono (p := q ++ [k]) (p' := q ++ [k]) hk.1 d (fun b r hb => by
      have hb' : ρ b = .sl t (q ++ k :: r) := by simpa using hb
      obtain ⟨g1, g2⟩ := hk.2 b k r (by omega) hb'
      exact ⟨by rw [g1, hb], g2⟩) h1
theorem RBs.shift {ρ ρ' : Nat → Tag} {w w' : World} {t : Nat} {q : List Nat} {k : Nat} (hs : ∀ b, ρ b = .sh → ρ' b = .sh ∧ w'.heap[b]? = w.heap[b]?)
    (ho : ∀ b j r, k < j → ρ b = .sl t (q ++ j :: r) → ρ' b = ρ b ∧ w'.heap[b]? = w.heap[b]?) : ∀ (ds : List D) {i vs}, RBs ρ w t q i ds vs → k < i → RBs ρ' w' t q i ds vs
  | [], _, _, h, _ => by simpa only [RBs] using h
  | d :: ds, i, vs, h, hi => by
    simp only [RBs] at h ⊢
    obtain ⟨x, y, e, h1, h2⟩ := h
    refine ⟨x, y, e, RB.mono (p := q ++ [i]) (p' := q ++ [i]) hs d (fun b r hb => ?_) h1, RBs.shift hs ho ds h2 (by omega)⟩
    have hb' : ρ b = .sl t (q ++ i :: r) := by simpa using hb
    obtain ⟨g1, g2⟩ := ho b i r hi hb'
    exact ⟨by rw [g1, hb], g2⟩
theorem RBa.shift {ρ ρ' : Nat → Tag} {w w' : World} {t : Nat} {q : List Nat} {k : Nat} (hs : ∀ b, ρ b = .sh → ρ' b = .sh ∧ w'.heap[b]? = w.heap[b]?)
    (ho : ∀ b j r, k < j → ρ b = .sl t (q ++ j :: r) → ρ' b = ρ b ∧ w'.heap[b]? = w.heap[b]?) : ∀ (ds : List D) {i es vs}, RBa ρ w t q i es ds vs → k < i → RBa ρ' w' t q i es ds vs
  | [], _, _, _, h, _ => by simpa only [RBa] using h
  | d :: ds, i, es, vs, h, hi => by
    simp only [RBa] at h ⊢
    obtain ⟨x, y, e, hx, h1, h2⟩ := h
    refine ⟨x, y, e, hx, RB.mono (p := q ++ [i]) (p' := q ++ [i]) hs d (fun b r hb => ?_) h1, RBa.shift hs ho ds h2 (by omega)⟩
    have hb' : ρ b = .sl t (q ++ i :: r) := by simpa using hb
    obtain ⟨g1, g2⟩ := ho b i r hi hb'
    exact ⟨by rw [g1, hb], g2⟩
end

/-- Elements of a row. -/
theorem Rpa.lens {S : Nat → Prop} {w : World} {es : Nat} : ∀ (i : Nat) (ds : List D) {vs}, Rpa S w es ds vs → i < ds.length →
    ∃ a m b, vs = a ++ m ++ b ∧ a.length = es * i ∧ m.length = es ∧ Rp S w (ds.getD i un) m ∧
      ∀ S' w', (∀ b, S b → S' b ∧ w'.heap[b]? = w.heap[b]?) → ∀ y m', m'.length = es → Rp S' w' y m' → Rpa S' w' es (ds.set i y) (a ++ m' ++ b)
  | _, [], _, _, hi => by simp at hi
  | 0, d :: ds, vs, h, _ => by
    simp only [Rpa] at h
    obtain ⟨x, y, e, hx, h1, h2⟩ := h
    refine ⟨[], x, y, by simp [e], by simp, hx, by simpa using h1, ?_⟩
    intro S' w' hk z m' hz1 hz
    simp only [List.set, Rpa]
    exact ⟨m', y, by simp, hz1, hz, Rpa.mono hk ds h2⟩
  | i + 1, d :: ds, vs, h, hi => by
    simp only [Rpa] at h
    obtain ⟨x, y, e, hx, h1, h2⟩ := h
    obtain ⟨a, m, b, e2, hl, hm0, hm, hset⟩ := Rpa.lens i ds h2 (by simpa using hi)
    refine ⟨x ++ a, m, b, by simp [e, e2], by simp [hx, hl, Nat.mul_add, Nat.add_comm], hm0, by simpa using hm, ?_⟩
    intro S' w' hk z m' hz1 hz
    simp only [List.set, Rpa]
    exact ⟨x, a ++ m' ++ b, by simp, hx, Rp.mono hk d h1, hset S' w' hk z m' hz1 hz⟩

theorem Rpx.at {S : Nat → Prop} {w : World} {es : Nat} : ∀ (i : Nat) (ds : List D) {a}, Rpx S w es a ds → i < ds.length →
    ∃ x, x.length = es ∧ a.spot = none ∧ S a.block ∧ Mem w a.block (a.off + es * i) x ∧ Rp S w (ds.getD i un) x
  | _, [], _, _, hi => by simp at hi
  | 0, d :: ds, a, h, _ => by
    simp only [Rpx] at h
    obtain ⟨x, h1, h2, h3, h4, h5, _⟩ := h
    exact ⟨x, h1, h2, h3, by simpa using h4, by simpa using h5⟩
  | i + 1, d :: ds, a, h, hi => by
    simp only [Rpx] at h
    obtain ⟨x, h1, h2, h3, h4, h5, h6⟩ := h
    obtain ⟨x', g1, _, g3, g4, g5⟩ := Rpx.at i ds h6 (by simpa using hi)
    refine ⟨x', g1, h2, g3, ?_, by simpa using g5⟩
    rw [show a.off + es * (i + 1) = a.off + es + es * i by rw [Nat.mul_add]; omega]
    exact g4

/-! ### Frames -/

def owner : Slot → Bool
  | .box _ => true
  | .d (.own _ _ _ _) => true
  | _ => false

/-- The own slice at a place, and its header. -/
def OwnAt (w : World) (tmps : Array Value) (E : Nat → Slot) (s : Nat) (p : List Nat) (nl : Bool) (e es : Nat) (xs : List D) (v : Value) : Prop :=
  (E s = .d (.own nl e es xs) ∧ p = [] ∧ v = tmps.getD s undef) ∨
  (∃ x b, E s = .box x ∧ x.okp p ∧ x.get p = .own nl e es xs ∧ tmps.getD s undef = .pointer (some ⟨b, 0, none⟩) ∧ w.cell? ⟨b, x.off p, none⟩ = some v)

def BoxAt (w : World) (b : Nat) (cs : List Value) : Prop := ∃ e, w.heap[b]? = some (.cells cs.toArray e (0, 0))

/-- All memory that is there. -/
def All (w : World) (b : Nat) : Prop := b < w.heap.size

/-- A datum that may lie anywhere: true till something is written. -/
def WV (w : World) : D → Value → Prop
  | .tup ds, u => ∃ us, u = .tuple us.toArray ∧ Rpv (All w) w ds us
  | x, u => ∃ cs, Rp (All w) w x cs ∧ VC x u cs

theorem WV.mono {w w' : World} {x : D} {u : Value} (h : ∀ b, b < w.heap.size → w'.heap[b]? = w.heap[b]?) (hs : w.heap.size ≤ w'.heap.size) (k : WV w x u) : WV w' x u := by
  have hS : ∀ b, All w b → All w' b ∧ w'.heap[b]? = w.heap[b]? := fun b hb => ⟨Nat.lt_of_lt_of_le hb hs, h b hb⟩
  cases x with
  | tup ds => obtain ⟨us, e, k⟩ := k; exact ⟨us, e, Rpv.mono hS ds k⟩
  | _ => obtain ⟨cs, k1, k2⟩ := k; exact ⟨cs, Rp.mono hS _ k1, k2⟩

/-- What a slot says of a value u; t: the slot's number. -/
def RS (ρ : Nat → Tag) (w : World) (tmps : Array Value) (E : Nat → Slot) (t : Nat) (u : Value) : Slot → Prop
  | .un => True
  | .no => u = undef
  | .d x => RV ρ w t x u
  | .box x => ∃ b cs, u = .pointer (some ⟨b, 0, none⟩) ∧ ρ b = .bx t ∧ BoxAt w b cs ∧ RB ρ w t [] x cs
  | .ref s p => ∃ x b, E s = .box x ∧ x.okp p ∧ tmps.getD s undef = .pointer (some ⟨b, 0, none⟩) ∧ u = .pointer (some ⟨b, x.off p, none⟩)
  | .view s p => ∃ nl e es xs, OwnAt w tmps E s p nl e es xs u
  | .elt s p i q => ∃ nl e es xs g l c, OwnAt w tmps E s p nl e es xs (.slice (some ⟨g, 0, none⟩) l c) ∧ i < xs.length ∧ (xs.getD i un).okp q ∧
      u = .pointer (some ⟨g, es * i + (xs.getD i un).off q, none⟩)
  | .sub s p i j => ∃ nl e es xs a l c, OwnAt w tmps E s p nl e es xs (.slice a l c) ∧ i ≤ j ∧ j ≤ xs.length ∧
      ∃ a' c', u = .slice a' (j - i) c' ∧ (i < j → ∃ g, a = some ⟨g, 0, none⟩ ∧ a' = some ⟨g, es * i, none⟩)
  | .wk x => WV w x u

/-- What the library's tables hold, and where they lie: laid once, never changed. -/
class Tables where
  dom : Nat → Prop
  holds : World → Prop
  stable : ∀ {w w' : World}, (∀ b, dom b → w'.heap[b]? = w.heap[b]?) → holds w → holds w'

def TabS [Tables] (S : Nat → Prop) (w : World) : Prop := (∀ b, Tables.dom b → S b) ∧ Tables.holds w

theorem TabS.mono [Tables] {S S' : Nat → Prop} {w w' : World} (h : TabS S w) (k : ∀ b, S b → S' b ∧ w'.heap[b]? = w.heap[b]?) : TabS S' w' :=
  ⟨fun b hb => (k b (h.1 b hb)).1, Tables.stable (fun b hb => (k b (h.1 b hb)).2) h.2⟩

structure Inv [Tables] (n : Nat) (ρ : Nat → Tag) (w : World) (tmps : Array Value) (E : Nat → Slot) : Prop where
  size : tmps.size = n
  lt : ∀ b, ρ b ≠ .other → b < w.heap.size
  tab : TabS (sh ρ) w
  slot : ∀ t, RS ρ w tmps E t (tmps.getD t undef) (E t)

/-- New memory alone. -/
structure Grow (ρ : Nat → Tag) (w : World) (ρ' : Nat → Tag) (w' : World) : Prop where
  keep : ∀ b, ρ b ≠ .other → ρ' b = ρ b
  old : ∀ b, b < w.heap.size → ρ' b = ρ b ∧ w'.heap[b]? = w.heap[b]?
  lt : ∀ b, ρ' b ≠ .other → b < w'.heap.size
  os : w'.os = w.os
  tape : w'.tape = w.tape
  output : w'.output = w.output
  size : w.heap.size ≤ w'.heap.size

end Go.Dat
