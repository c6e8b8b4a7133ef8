/- How the data of K0 lie in memory: what other blocks' turning leaves, lengths, parts. No conditions. -/
import Derived.Test.YtopmpbdjnkomoaaK0
namespace Go.Dat

theorem Mem.mono {w w' : World} {b : Nat} (h : w'.heap[b]? = w.heap[b]?) : ∀ {o vs}, Mem w b o vs → Mem w' b o vs
  | _, [], _ => trivial
  | _, _ :: _, ⟨h1, h2⟩ => ⟨by rw [World.cell?_of_block (w := w) h]; exact h1, Mem.mono h h2⟩

theorem Mem.app {w : World} {b : Nat} : ∀ {o x y}, Mem w b o (x ++ y) ↔ Mem w b o x ∧ Mem w b (o + x.length) y
  | o, [], y => by simp [Mem]
  | o, v :: x, y => by
    simp only [List.cons_append, Mem, Mem.app (o := o + 1) (x := x) (y := y), List.length_cons, and_assoc]
    rw [show o + 1 + x.length = o + (x.length + 1) by omega]

theorem Mem.at {w : World} {b : Nat} : ∀ {o vs}, Mem w b o vs → ∀ j v, vs[j]? = some v → w.cell? ((⟨b, o, none⟩ : Addr).add j) = some v
  | o, [], _, j, v, h => by simp at h
  | o, u :: vs, ⟨h1, h2⟩, j, v, h => by
    cases j with
    | zero => simp at h; subst h; simpa [Addr.add] using h1
    | succ j =>
      have := Mem.at h2 j v (by simpa using h)
      have e : ((⟨b, o + 1, none⟩ : Addr).add j) = (⟨b, o, none⟩ : Addr).add (j + 1) := by
        unfold Addr.add
        by_cases hj : j = 0 <;> simp [hj]
        omega
      rwa [← e]

theorem Mem.ofAt {w : World} {b : Nat} : ∀ {o vs}, (∀ j v, vs[j]? = some v → w.cell? ⟨b, o + j, none⟩ = some v) → Mem w b o vs
  | _, [], _ => trivial
  | o, u :: vs, h => ⟨by simpa using h 0 u (by simp), Mem.ofAt fun j v hj => by
      have := h (j + 1) v (by simpa using hj)
      rwa [show o + 1 + j = o + (j + 1) by omega]⟩

theorem Mem.cell {w : World} {b : Nat} {o vs} (h : Mem w b o vs) {j v} (hj : vs[j]? = some v) : w.cell? ⟨b, o + j, none⟩ = some v := by
  have := Mem.at h j v hj
  unfold Addr.add at this
  by_cases e : j = 0
  · subst e; simpa using this
  · simpa [e] using this

mutual
theorem Rp.mono {S S' : Nat → Prop} {w w' : World} (h : ∀ b, S b → S' b ∧ w'.heap[b]? = w.heap[b]?) : ∀ (d : D) {vs}, Rp S w d vs → Rp S' w' d vs
  | .v _, _, hd => hd
  | .st ds, _, hd => by simp only [Rp] at hd ⊢; exact Rps.mono h ds hd
  | .arr _ ds, _, hd => by simp only [Rp] at hd ⊢; exact Rpa.mono h ds hd
  | .lst _ _ xs, _, hd => by
    simp only [Rp] at hd ⊢
    obtain ⟨a, l, c, e, hh, hx⟩ := hd
    exact ⟨a, l, c, e, hh, fun ad had => Rpx.mono h xs (hx ad had)⟩
  | .own _ _ _ _, _, hd => by simp only [Rp] at hd
  | .fn _ f c, _, hd => by
    simp only [Rp] at hd ⊢
    obtain ⟨us, ts, e, h1, h2⟩ := hd
    exact ⟨us, ts, e, Rpv.mono h f h1, Rpv.mono h c h2⟩
  | .pt d, _, hd => by
    simp only [Rp] at hd ⊢
    obtain ⟨b, o, us, e, hs, hm, h1⟩ := hd
    exact ⟨b, o, us, e, (h b hs).1, hm.mono (h b hs).2, Rp.mono h d h1⟩
  | .dead _, _, hd => by simpa only [Rp] using hd
  | .tup _, _, hd => by simp only [Rp] at hd
theorem Rps.mono {S S' : Nat → Prop} {w w' : World} (h : ∀ b, S b → S' b ∧ w'.heap[b]? = w.heap[b]?) : ∀ (ds : List D) {vs}, Rps S w ds vs → Rps S' w' ds vs
  | [], _, hd => hd
  | d :: ds, _, hd => by
    simp only [Rps] at hd ⊢
    obtain ⟨x, y, e, h1, h2⟩ := hd
    exact ⟨x, y, e, Rp.mono h d h1, Rps.mono h ds h2⟩
theorem Rpa.mono {S S' : Nat → Prop} {w w' : World} (h : ∀ b, S b → S' b ∧ w'.heap[b]? = w.heap[b]?) {es : Nat} : ∀ (ds : List D) {vs}, Rpa S w es ds vs → Rpa S' w' es ds vs
  | [], _, hd => hd
  | d :: ds, _, hd => by
    simp only [Rpa] at hd ⊢
    obtain ⟨x, y, e, l, h1, h2⟩ := hd
    exact ⟨x, y, e, l, Rp.mono h d h1, Rpa.mono h ds h2⟩
theorem Rpx.mono {S S' : Nat → Prop} {w w' : World} (h : ∀ b, S b → S' b ∧ w'.heap[b]? = w.heap[b]?) {es : Nat} : ∀ (ds : List D) {a}, Rpx S w es a ds → Rpx S' w' es a ds
  | [], _, _ => by simp only [Rpx]
  | d :: ds, _, hd => by
    simp only [Rpx] at hd ⊢
    obtain ⟨x, l, sp, sb, m, h1, h2⟩ := hd
    exact ⟨x, l, sp, (h _ sb).1, m.mono (h _ sb).2, Rp.mono h d h1, Rpx.mono h ds h2⟩
theorem Rpv.mono {S S' : Nat → Prop} {w w' : World} (h : ∀ b, S b → S' b ∧ w'.heap[b]? = w.heap[b]?) : ∀ (ds : List D) {us}, Rpv S w ds us → Rpv S' w' ds us
  | [], _, hd => hd
  | d :: ds, _, hd => by
    simp only [Rpv] at hd ⊢
    obtain ⟨u, y, cs, e, h1, h2, h3⟩ := hd
    exact ⟨u, y, cs, e, Rp.mono h d h1, h2, Rpv.mono h ds h3⟩
end

theorem ROwn.mono {ρ ρ' : Nat → Tag} {w w' : World} {tg tg' : Tag} {nl e es xs v} (hs : ∀ b, ρ b = .sh → ρ' b = .sh ∧ w'.heap[b]? = w.heap[b]?)
    (ho : ∀ b, ρ b = tg → ρ' b = tg' ∧ w'.heap[b]? = w.heap[b]?) (h : ROwn ρ w tg nl e es xs v) : ROwn ρ' w' tg' nl e es xs v := by
  obtain ⟨cells, h1, h2, h3, h4⟩ := h
  refine ⟨cells, ?_, Rpa.mono (fun b hb => hs b hb) xs h2, h3, fun g hg => (ho g (h4 g hg)).1⟩
  obtain ⟨hl, hr⟩ := h1
  refine ⟨hl, hr.imp id ?_⟩
  rintro ⟨g, cap, cur, hv, hb, hg, r⟩
  refine ⟨g, cap, cur, hv, hb, ?_, r⟩
  rw [(ho g (h4 g (by simp [hv, Value.ownBlock]))).2, hg]

mutual
theorem RB.mono {ρ ρ' : Nat → Tag} {w w' : World} {t t' : Nat} (hs : ∀ b, ρ b = .sh → ρ' b = .sh ∧ w'.heap[b]? = w.heap[b]?) :
    ∀ (d : D) {p p' vs}, (∀ b r, ρ b = .sl t (p ++ r) → ρ' b = .sl t' (p' ++ r) ∧ w'.heap[b]? = w.heap[b]?) → RB ρ w t p d vs → RB ρ' w' t' p' d vs
  | .own _ _ _ _, p, p', _, ho, hd => by
    simp only [RB] at hd ⊢
    obtain ⟨v, e, h⟩ := hd
    exact ⟨v, e, h.mono hs (fun b hb => by simpa using ho b [] (by simpa using hb))⟩
  | .st ds, _, _, _, ho, hd => by simp only [RB] at hd ⊢; exact RBs.mono hs ds ho hd
  | .arr _ ds, _, _, _, ho, hd => by simp only [RB] at hd ⊢; exact RBa.mono hs ds ho hd
  | .v _, _, _, _, _, hd => by simp only [RB] at hd ⊢; exact Rp.mono hs _ hd
  | .lst _ _ _, _, _, _, _, hd => by simp only [RB] at hd ⊢; exact Rp.mono hs _ hd
  | .fn _ _ _, _, _, _, _, hd => by simp only [RB] at hd ⊢; exact Rp.mono hs _ hd
  | .pt _, _, _, _, _, hd => by simp only [RB] at hd ⊢; exact Rp.mono hs _ hd
  | .dead _, _, _, _, _, hd => by simp only [RB] at hd ⊢; exact Rp.mono hs _ hd
  | .tup _, _, _, _, _, hd => by simp only [RB] at hd
theorem RBs.mono {ρ ρ' : Nat → Tag} {w w' : World} {t t' : Nat} (hs : ∀ b, ρ b = .sh → ρ' b = .sh ∧ w'.heap[b]? = w.heap[b]?) :
    ∀ (ds : List D) {p p' i vs}, (∀ b r, ρ b = .sl t (p ++ r) → ρ' b = .sl t' (p' ++ r) ∧ w'.heap[b]? = w.heap[b]?) → RBs ρ w t p i ds vs → RBs ρ' w' t' p' i ds vs
  | [], _, _, _, _, _, hd => by simpa only [RBs] using hd
  | d :: ds, p, p', i, _, ho, hd => by
    simp only [RBs] at hd ⊢
    obtain ⟨x, y, e, h1, h2⟩ := hd
    exact ⟨x, y, e, RB.mono hs d (fun b r hb => by have := ho b (i :: r) (by simpa using hb); simpa using this) h1, RBs.mono hs ds ho h2⟩
theorem RBa.mono {ρ ρ' : Nat → Tag} {w w' : World} {t t' : Nat} (hs : ∀ b, ρ b = .sh → ρ' b = .sh ∧ w'.heap[b]? = w.heap[b]?) :
    ∀ (ds : List D) {p p' i es vs}, (∀ b r, ρ b = .sl t (p ++ r) → ρ' b = .sl t' (p' ++ r) ∧ w'.heap[b]? = w.heap[b]?) → RBa ρ w t p i es ds vs → RBa ρ' w' t' p' i es ds vs
  | [], _, _, _, _, _, _, hd => by simpa only [RBa] using hd
  | d :: ds, p, p', i, _, _, ho, hd => by
    simp only [RBa] at hd ⊢
    obtain ⟨x, y, e, l, h1, h2⟩ := hd
    exact ⟨x, y, e, l, RB.mono hs d (fun b r hb => by have := ho b (i :: r) (by simpa using hb); simpa using this) h1, RBa.mono hs ds ho h2⟩
end

theorem Rp.one {S : Nat → Prop} {w : World} : ∀ (d : D) {vs}, Rp S w d vs → ∀ u ∈ vs, u.oneCell' = true
  | .v x, _, hd, u, hu => by simp only [Rp] at hd; obtain ⟨rfl, h⟩ := hd; simp at hu; subst hu; exact h
  | .st ds, _, hd, u, hu => by simp only [Rp] at hd; exact many ds hd u hu
  | .arr _ ds, _, hd, u, hu => by simp only [Rp] at hd; exact row ds hd u hu
  | .lst _ _ _, _, hd, u, hu => by simp only [Rp] at hd; obtain ⟨a, l, c, rfl, _⟩ := hd; simp at hu; subst hu; rfl
  | .own _ _ _ _, _, hd, _, _ => by simp only [Rp] at hd
  | .fn _ _ _, _, hd, u, hu => by simp only [Rp] at hd; obtain ⟨us, ts, rfl, _⟩ := hd; simp at hu; subst hu; rfl
  | .pt _, _, hd, u, hu => by simp only [Rp] at hd; obtain ⟨b, o, us, rfl, _⟩ := hd; simp at hu; subst hu; rfl
  | .dead _, _, hd, u, hu => by simp only [Rp] at hd; obtain ⟨v, rfl, h⟩ := hd; simp at hu; subst hu; exact h.1
  | .tup _, _, hd, _, _ => by simp only [Rp] at hd
where
  many : ∀ (ds : List D) {vs}, Rps S w ds vs → ∀ u ∈ vs, u.oneCell' = true
    | [], _, hd, u, hu => by simp only [Rps] at hd; subst hd; simp at hu
    | d :: ds, _, hd, u, hu => by
      simp only [Rps] at hd
      obtain ⟨x, y, rfl, h1, h2⟩ := hd
      rcases List.mem_append.1 hu with h | h
      · exact Rp.one d h1 u h
      · exact many ds h2 u h
  row : ∀ (ds : List D) {es vs}, Rpa S w es ds vs → ∀ u ∈ vs, u.oneCell' = true
    | [], _, _, hd, u, hu => by simp only [Rpa] at hd; subst hd; simp at hu
    | d :: ds, _, _, hd, u, hu => by
      simp only [Rpa] at hd
      obtain ⟨x, y, rfl, _, h1, h2⟩ := hd
      rcases List.mem_append.1 hu with h | h
      · exact Rp.one d h1 u h
      · exact row ds h2 u h

theorem Rp.len {S : Nat → Prop} {w : World} : ∀ (d : D) {vs}, Rp S w d vs → vs.length = d.size
  | .v x, _, hd => by simp only [Rp] at hd; simp [hd.1, D.size]
  | .st ds, _, hd => by simp only [Rp] at hd; simpa only [D.size] using many ds hd
  | .arr _ ds, _, hd => by simp only [Rp] at hd; simpa only [D.size] using row ds hd
  | .lst _ _ _, _, hd => by simp only [Rp] at hd; obtain ⟨a, l, c, rfl, _⟩ := hd; rfl
  | .own _ _ _ _, _, hd => by simp only [Rp] at hd
  | .fn _ _ _, _, hd => by simp only [Rp] at hd; obtain ⟨us, ts, rfl, _⟩ := hd; rfl
  | .pt _, _, hd => by simp only [Rp] at hd; obtain ⟨b, o, us, rfl, _⟩ := hd; rfl
  | .dead _, _, hd => by simp only [Rp] at hd; obtain ⟨v, rfl, h⟩ := hd; rfl
  | .tup _, _, hd => by simp only [Rp] at hd
where
  many : ∀ (ds : List D) {vs}, Rps S w ds vs → vs.length = sizes ds
    | [], _, hd => by simp only [Rps] at hd; subst hd; rfl
    | d :: ds, _, hd => by
      simp only [Rps] at hd
      obtain ⟨x, y, rfl, h1, h2⟩ := hd
      simp [sizes, Rp.len d h1, many ds h2]
  row : ∀ (ds : List D) {es vs}, Rpa S w es ds vs → vs.length = es * ds.length
    | [], _, _, hd => by simp only [Rpa] at hd; subst hd; rfl
    | d :: ds, _, _, hd => by
      simp only [Rpa] at hd
      obtain ⟨x, y, rfl, l, h1, h2⟩ := hd
      simp [row ds h2, l, Nat.mul_add, Nat.add_comm]

theorem ROwn.one {ρ w tg nl e es xs v} (h : ROwn ρ w tg nl e es xs v) : v.oneCell' = true := by
  obtain ⟨cells, ⟨_, h1⟩, _⟩ := h
  rcases h1 with ⟨rfl, _⟩ | ⟨g, cap, cur, rfl, _⟩ <;> rfl

theorem RB.one {ρ : Nat → Tag} {w : World} {t : Nat} : ∀ (d : D) {p vs}, RB ρ w t p d vs → ∀ u ∈ vs, u.oneCell' = true
  | .own _ _ _ _, _, _, hd, u, hu => by simp only [RB] at hd; obtain ⟨v, rfl, h⟩ := hd; simp at hu; subst hu; exact h.one
  | .st ds, _, _, hd, u, hu => by simp only [RB] at hd; exact many ds hd u hu
  | .arr _ ds, _, _, hd, u, hu => by simp only [RB] at hd; exact row ds hd u hu
  | .v _, _, _, hd, u, hu => by simp only [RB] at hd; exact Rp.one _ hd u hu
  | .lst _ _ _, _, _, hd, u, hu => by simp only [RB] at hd; exact Rp.one _ hd u hu
  | .fn _ _ _, _, _, hd, u, hu => by simp only [RB] at hd; exact Rp.one _ hd u hu
  | .pt _, _, _, hd, u, hu => by simp only [RB] at hd; exact Rp.one _ hd u hu
  | .dead _, _, _, hd, u, hu => by simp only [RB] at hd; exact Rp.one _ hd u hu
  | .tup _, _, _, hd, _, _ => by simp only [RB] at hd
where
  many : ∀ (ds : List D) {p i vs}, RBs ρ w t p i ds vs → ∀ u ∈ vs, u.oneCell' = true
    | [], _, _, _, hd, u, hu => by simp only [RBs] at hd; subst hd; simp at hu
    | d :: ds, _, _, _, hd, u, hu => by
      simp only [RBs] at hd
      obtain ⟨x, y, rfl, h1, h2⟩ := hd
      rcases List.mem_append.1 hu with h | h
      · exact RB.one d h1 u h
      · exact many ds h2 u h
  row : ∀ (ds : List D) {p i es vs}, RBa ρ w t p i es ds vs → ∀ u ∈ vs, u.oneCell' = true
    | [], _, _, _, _, hd, u, hu => by simp only [RBa] at hd; subst hd; simp at hu
    | d :: ds, _, _, _, _, hd, u, hu => by
      simp only [RBa] at hd
      obtain ⟨x, y, rfl, _, h1, h2⟩ := hd
      rcases List.mem_append.1 hu with h | h
      · exact RB.one d h1 u h
      · exact row ds h2 u h

theorem RB.len {ρ : Nat → Tag} {w : World} {t : Nat} : ∀ (d : D) {p vs}, RB ρ w t p d vs → vs.length = d.size
  | .own _ _ _ _, _, _, hd => by simp only [RB] at hd; obtain ⟨v, rfl, h⟩ := hd; rfl
  | .st ds, _, _, hd => by simp only [RB] at hd; simpa only [D.size] using many ds hd
  | .arr _ ds, _, _, hd => by simp only [RB] at hd; simpa only [D.size] using row ds hd
  | .v _, _, _, hd => by simp only [RB] at hd; exact Rp.len _ hd
  | .lst _ _ _, _, _, hd => by simp only [RB] at hd; exact Rp.len _ hd
  | .fn _ _ _, _, _, hd => by simp only [RB] at hd; exact Rp.len _ hd
  | .pt _, _, _, hd => by simp only [RB] at hd; exact Rp.len _ hd
  | .dead _, _, _, hd => by simp only [RB] at hd; exact Rp.len _ hd
  | .tup _, _, _, hd => by simp only [RB] at hd
where
  many : ∀ (ds : List D) {p i vs}, RBs ρ w t p i ds vs → vs.length = sizes ds
    | [], _, _, _, hd => by simp only [RBs] at hd; subst hd; rfl
    | d :: ds, _, _, _, hd => by
      simp only [RBs] at hd
      obtain ⟨x, y, rfl, h1, h2⟩ := hd
      simp [sizes, RB.len d h1, many ds h2]
  row : ∀ (ds : List D) {p i es vs}, RBa ρ w t p i es ds vs → vs.length = es * ds.length
    | [], _, _, _, _, hd => by simp only [RBa] at hd; subst hd; rfl
    | d :: ds, _, _, _, _, hd => by
      simp only [RBa] at hd
      obtain ⟨x, y, rfl, l, h1, h2⟩ := hd
      simp [row ds h2, l, Nat.mul_add, Nat.add_comm]

mutual
theorem RB.plain {ρ : Nat → Tag} {w : World} {t : Nat} : ∀ (d : D) {p vs}, d.noOwn = true → (RB ρ w t p d vs ↔ Rp (sh ρ) w d vs)
  | .own _ _ _ _, _, _, h => by simp [D.noOwn] at h
  | .st ds, _, _, h => by simp only [RB, Rp]; exact RBs.plain ds (by simpa [D.noOwn] using h)
  | .arr _ ds, _, _, h => by simp only [RB, Rp]; exact RBa.plain ds (by simpa [D.noOwn] using h)
  | .v _, _, _, _ => by simp only [RB]
  | .lst _ _ _, _, _, _ => by simp only [RB]
  | .fn _ _ _, _, _, _ => by simp only [RB]
  | .pt _, _, _, _ => by simp only [RB]
  | .dead _, _, _, _ => by simp only [RB]
  | .tup _, _, _, _ => by simp only [RB, Rp]
theorem RBs.plain {ρ : Nat → Tag} {w : World} {t : Nat} : ∀ (ds : List D) {p i vs}, noOwns ds = true → (RBs ρ w t p i ds vs ↔ Rps (sh ρ) w ds vs)
  | [], _, _, _, _ => by simp only [RBs, Rps]
  | d :: ds, p, i, vs, h => by
    simp only [noOwns, Bool.and_eq_true] at h
    have h1 := fun x => @RB.plain ρ w t d (p ++ [i]) x h.1
    have h2 := fun x => @RBs.plain ρ w t ds p (i + 1) x h.2
    simp only [RBs, Rps, h1, h2]
theorem RBa.plain {ρ : Nat → Tag} {w : World} {t : Nat} : ∀ (ds : List D) {p i es vs}, noOwns ds = true → (RBa ρ w t p i es ds vs ↔ Rpa (sh ρ) w es ds vs)
  | [], _, _, _, _, _ => by simp only [RBa, Rpa]
  | d :: ds, p, i, es, vs, h => by
    simp only [noOwns, Bool.and_eq_true] at h
    have h1 := fun x => @RB.plain ρ w t d (p ++ [i]) x h.1
    have h2 := fun x => @RBa.plain ρ w t ds p (i + 1) es x h.2
    simp only [RBa, Rpa, h1, h2]
end

end Go.Dat
