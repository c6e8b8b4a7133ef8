/- Own slices that lie in a box: an append, a store, a store to an element. No conditions. -/
import Derived.Test.YtopmpbdjnkomoaaK32
namespace Go.Dat

variable [Tables]

variable {P : Program} {Θ : TypeId → TI} {n : Nat} {ρ ρ1 : Nat → Tag} {w w' : World} {tmps : Array Value} {E E' : Nat → Slot} {t : Nat} {u : Value}

def mvTag (ρ : Nat → Tag) (x y : Tag) (b : Nat) : Tag := open Classical in if ρ b = x then y else ρ b

omit [Tables] in
theorem mvTag_fr {x y : Tag} (h1 : x ≠ .sh) (h2 : x ≠ .other) : Fr ρ w (mvTag ρ x y) w :=
  ⟨fun b hb => by simp [mvTag, hb, h1.symm], fun b _ hb => by simp [mvTag, hb, h2.symm], fun _ _ _ => rfl, rfl, rfl, rfl, Nat.le_refl _⟩

def gone (s k : Nat) (p : List Nat) (z : Slot) : Bool := below s p z || refersTo k z

omit [Tables] in
theorem gone_owner {s k p} (x : Slot) (h : gone s k p x = true) : owner x = false := by
  simp only [gone, Bool.or_eq_true] at h
  rcases h with h | h
  · exact below_owner x h
  · exact refersTo_owner x h

/-- A place of a box, and a slot, in other words. -/
theorem Inv.reset {s k : Nat} {p : List Nat} {X y : D} {Sl : Slot} (hI : Inv n ρ w tmps E) (hE : E s = .box X) (hks : k ≠ s) (hp : X.okp p) (hsz : y.size = (X.get p).size) (hleaf : ∀ r, (X.get p).okp r → r = [])
    (h1 : ∀ b, ρ b = .sh → ρ1 b = .sh) (h2 : ∀ b, ρ b = .other → ρ1 b = .other) (h3 : ∀ b v r, ρ b = .sl v r → v ≠ k → (v, r) ≠ (s, p) → ρ1 b = .sl v r) (h4 : ∀ b v, ρ b = .bx v → ρ1 b = .bx v)
    (hy : ∀ m b c, tmps.getD s undef = .pointer (some ⟨b, 0, none⟩) → m = [c] → w.cell? ⟨b, X.off p, none⟩ = some c → RB ρ w s p (X.get p) m → RB ρ1 w s p y m) (hone : (X.get p).size = 1)
    (hSl : ∀ E1 : Nat → Slot, E1 s = .box (X.set p y) → RS ρ1 w tmps E1 k (tmps.getD k undef) Sl) :
    Inv n ρ1 w tmps (upd (upd (kill (gone s k p) E) s (.box (X.set p y))) k Sl) := by
  have hsh : ∀ g, ρ g = .sh → ρ1 g = .sh ∧ w.heap[g]? = w.heap[g]? := fun g hg => ⟨h1 g hg, rfl⟩
  have hslot := hI.slot s
  rw [hE] at hslot
  obtain ⟨b, cs, g1, g3, ⟨e, g4⟩, g5⟩ := hslot
  obtain ⟨c1, m, c2, e1, e2, e3, e4⟩ := RB.lens p X g5 hp
  refine ⟨hI.size, fun g hg => hI.lt g (fun ho => hg (h2 g ho)), hI.tab.mono hsh, fun u => ?_⟩
  by_cases hku : k = u
  · subst hku
    simp only [upd, if_true]
    exact hSl _ (by simp [upd, hks])
  by_cases hsu : s = u
  · subst hsu
    simp only [upd, hku, if_false, if_true]
    refine ⟨b, cs, g1, h4 b _ g3, ⟨e, g4⟩, ?_⟩
    rw [e1]
    refine e4 ρ1 w ⟨hsh, fun g r hg hr => ⟨?_, rfl⟩⟩ y m rfl ?_
    · simp only [List.nil_append] at hr
      rw [h3 g s r hg (Ne.symm hks) (by rintro h; cases h; exact hr (List.prefix_refl _)), hg]
    · have hml := RB.len _ e3
      rw [hone] at hml
      obtain ⟨c, rfl⟩ : ∃ c, m = [c] := by
        match m, hml with
        | [c], _ => exact ⟨c, rfl⟩
      simp only [List.nil_append] at e3 ⊢
      refine hy _ b c g1 rfl ?_ e3
      rw [cell_of_row w b _ _ _ _ g4]
      rw [e1, ← e2]
      simp
  simp only [upd, hku, hsu, if_false]
  by_cases hun : kill (gone s k p) E u = .un
  · rw [hun]; trivial
  obtain ⟨k1, k2⟩ := kill_eq hun
  rw [k1]
  simp only [gone, Bool.or_eq_false_iff] at k2
  obtain ⟨k2, k3⟩ := k2
  have hbox : ∀ {q nl' e' es' xs' v}, ¬ p <+: q → OwnAt w tmps E s q nl' e' es' xs' v → OwnAt w tmps (upd (upd (kill (gone s k p) E) s (.box (X.set p y))) k Sl) s q nl' e' es' xs' v := by
    intro q nl' e' es' xs' v hpq h
    rcases h with ⟨h, _⟩ | ⟨x', b', q1, q2, q3, q4, q5⟩
    · rw [hE] at h; cases h
    · rw [hE] at q1; cases q1
      have hqp : ¬ q <+: p := by
        rintro ⟨r, rfl⟩
        have := ((D.okp_app q X r).1 hp).2
        rw [q3] at this
        have hr := own_okp this
        subst hr
        exact hpq (by simp)
      obtain ⟨s1, s2, s3⟩ := D.set_keep p X q hp hsz hpq q2
      exact .inr ⟨X.set p y, b', by simp [upd, hks], s1, by rw [s3 hqp, q3], q4, by rw [s2]; exact q5⟩
  have hE1 : ∀ s', s' ≠ s → s' ≠ k → owner (E s') = true → upd (upd (kill (gone s k p) E) s (.box (X.set p y))) k Sl s' = E s' := by
    intro s' h2 h3 h4
    have h5 : gone s k p (E s') = false := by cases hb : gone s k p (E s') <;> simp_all [gone_owner (s := s) (k := k) (p := p) (E s')]
    simp [upd, h2.symm, h3.symm, kill, h5, isWk_owner h4]
  have hu := hI.slot u
  by_cases hr : refers (E u) = some s
  · cases hEu : E u with
    | ref s' q =>
      rw [hEu] at hr hu k2
      simp only [refers, Option.some.injEq] at hr
      subst hr
      obtain ⟨x', b', q1, q2, q3, q4⟩ := hu
      rw [hE] at q1; cases q1
      by_cases hpq : p = q
      · subst hpq
        obtain ⟨s1, s2, _⟩ := D.set_at (y := y) p X hp
        exact ⟨X.set p y, b', by simp [upd, hks], s1, q3, by rw [s2]; exact q4⟩
      · have hn : ¬ p <+: q := by
          intro hpre
          simp [below, List.isPrefixOf_iff_prefix.2 hpre, hpq] at k2
        obtain ⟨s1, s2, _⟩ := D.set_keep p X q hp hsz hn q2
        exact ⟨X.set p y, b', by simp [upd, hks], s1, q3, by rw [s2]; exact q4⟩
    | view s' q =>
      rw [hEu] at hr hu k2
      simp only [refers, Option.some.injEq] at hr
      subst hr
      obtain ⟨nl', e', es', xs', h⟩ := hu
      refine ⟨nl', e', es', xs', hbox (fun hpre => ?_) h⟩
      simp [below, List.isPrefixOf_iff_prefix.2 hpre] at k2
    | elt s' q i r =>
      rw [hEu] at hr hu k2
      simp only [refers, Option.some.injEq] at hr
      subst hr
      obtain ⟨nl', e', es', xs', g, l, c, h, h'⟩ := hu
      refine ⟨nl', e', es', xs', g, l, c, hbox (fun hpre => ?_) h, h'⟩
      simp [below, List.isPrefixOf_iff_prefix.2 hpre] at k2
    | sub s' q i r =>
      rw [hEu] at hr hu k2
      simp only [refers, Option.some.injEq] at hr
      subst hr
      obtain ⟨nl', e', es', xs', g, l, c, h, h'⟩ := hu
      refine ⟨nl', e', es', xs', g, l, c, hbox (fun hpre => ?_) h, h'⟩
      simp [below, List.isPrefixOf_iff_prefix.2 hpre] at k2
    | _ => rw [hEu] at hr; simp [refers] at hr
  · refine hu.keep hI hsh (fun g r hg => ⟨h3 g u r hg (Ne.symm hku) (by rintro h; cases h; exact hsu rfl), rfl⟩) (fun g hg => ⟨h4 g u hg, rfl⟩) (fun s' hs' => ?_) (.inr ⟨fun _ _ => rfl, Nat.le_refl _⟩)
    have e1 : s' ≠ s := by rintro rfl; exact hr hs'
    have e2 : s' ≠ k := by rintro rfl; simp [refersTo, hs'] at k3
    exact ⟨hE1 s' e1 e2 (hI.refOwner hs'), rfl, fun _ _ => rfl⟩

/-- The own slice at a place of a box becomes a slot's own; the place holds y from now on. -/
theorem Inv.takeOut {s k : Nat} {p : List Nat} {X y : D} {nl e es xs} (hI : Inv n ρ w tmps E) (hE : E s = .box X) (hk : E k = .view s p) (hp : X.okp p) (hX : X.get p = .own nl e es xs) (hsz : y.size = 1)
    (hy : Rp (sh (mvTag ρ (.sl s p) (.sl k []))) w y [tmps.getD k undef]) :
    Inv n (mvTag ρ (.sl s p) (.sl k [])) w tmps (upd (upd (kill (gone s k p) E) s (.box (X.set p y))) k (.d (.own nl e es xs))) := by
  have hks : k ≠ s := by rintro rfl; rw [hE] at hk; cases hk
  have hv : OwnAt w tmps E s p nl e es xs (tmps.getD k undef) := by
    have h := hI.slot k
    rw [hk] at h
    obtain ⟨nl', e', es', xs', h⟩ := h
    rcases h with ⟨h, _⟩ | ⟨x', b', q1, q2, q3, q4, q5⟩
    · rw [hE] at h; cases h
    · rw [hE] at q1; cases q1
      rw [hX] at q3; cases q3
      exact .inr ⟨X, b', hE, q2, hX, q4, q5⟩
  have hown := hv.own hI
  refine hI.reset hE hks hp (by rw [hX, hsz]; rfl) (fun r h => by rw [hX] at h; exact own_okp h) (fun b hb => by simp [mvTag, hb]) (fun b hb => by simp [mvTag, hb]) (fun b v r hb h1 h2 => ?_) (fun b v hb => by simp [mvTag, hb]) (fun m b c hb hm hc hR => ?_) (by rw [hX]; rfl) (fun E1 _ => ?_)
  · simp only [mvTag, hb]
    rw [if_neg]
    rintro h; cases h; exact h2 rfl
  · subst hm
    rcases hv with ⟨h, _⟩ | ⟨x', b', q1, q2, q3, q4, q5⟩
    · rw [hE] at h; cases h
    · rw [hE] at q1; cases q1
      rw [hb] at q4; cases q4
      rw [hc] at q5
      cases q5
      exact RB.ofRp hy
  · exact RV.ofOwn (hown.mono (fun b hb => ⟨by simp [mvTag, hb], rfl⟩) (fun b hb => ⟨by simp [mvTag, hb], rfl⟩))

/-- A slot's own slice becomes that of the place of a box which holds its header. -/
theorem Inv.putIn {s k : Nat} {p : List Nat} {X : D} {nl e es xs} (hI : Inv n ρ w tmps E) (hE : E s = .box X) (hk : E k = .d (.own nl e es xs)) (hp : X.okp p) (hX : X.get p = .v (tmps.getD k undef)) :
    Inv n (mvTag ρ (.sl k []) (.sl s p)) w tmps (upd (upd (kill (gone s k p) E) s (.box (X.set p (.own nl e es xs)))) k (.view s p)) := by
  have hks : k ≠ s := by rintro rfl; rw [hE] at hk; cases hk
  have hown : ROwn ρ w (.sl k []) nl e es xs (tmps.getD k undef) := by
    have h := hI.slot k
    rw [hk] at h
    exact h.own
  have hown' : ROwn (mvTag ρ (.sl k []) (.sl s p)) w (.sl s p) nl e es xs (tmps.getD k undef) := hown.mono (fun b hb => ⟨by simp [mvTag, hb], rfl⟩) (fun b hb => ⟨by simp [mvTag, hb], rfl⟩)
  have hcell : ∃ b, tmps.getD s undef = .pointer (some ⟨b, 0, none⟩) ∧ w.cell? ⟨b, X.off p, none⟩ = some (tmps.getD k undef) := by
    have h := hI.slot s
    rw [hE] at h
    obtain ⟨b, cs, g1, g3, ⟨e0, g4⟩, g5⟩ := h
    obtain ⟨c1, m, c2, e1, e2, e3, _⟩ := RB.lens p X g5 hp
    rw [hX] at e3
    have h3 := (RB.plain (.v (tmps.getD k undef)) rfl).1 e3
    simp only [Rp] at h3
    refine ⟨b, g1, ?_⟩
    rw [cell_of_row w b _ _ _ _ g4, e1, h3.1, ← e2]
    simp
  refine hI.reset hE hks hp (by rw [hX]; rfl) (fun r h => by rw [hX] at h; cases r with | nil => rfl | cons _ _ => simp [D.okp] at h) (fun b hb => by simp [mvTag, hb]) (fun b hb => by simp [mvTag, hb]) (fun b v r hb h1 h2 => ?_) (fun b v hb => by simp [mvTag, hb]) (fun m b c hb hm hc hR => ?_) (by rw [hX]; rfl) (fun E1 hE1 => ?_)
  · simp only [mvTag, hb]
    rw [if_neg]
    rintro h; cases h; exact h1 rfl
  · subst hm
    obtain ⟨b', q1, q2⟩ := hcell
    rw [hb] at q1; cases q1
    rw [hc] at q2; cases q2
    simp only [RB]
    exact ⟨_, rfl, hown'⟩
  · obtain ⟨b', q1, q2⟩ := hcell
    obtain ⟨s1, s2, s3⟩ := D.set_at (y := .own nl e es xs) p X hp
    exact ⟨nl, e, es, xs, .inr ⟨_, b', hE1, s1, s3, q1, by rw [s2]; exact q2⟩⟩

omit [Tables] in
theorem Rp.ofV' {S : Nat → Prop} {v : Value} (h : v.oneCell' = true) : Rp S w (.v v) [v] := by simp [Rp, h]

omit [Tables] in
theorem ROwn.oneV {tg : Tag} {nl e es xs} {v : Value} (h : ROwn ρ w tg nl e es xs v) : v.oneCell' = true ∧ v.cells.toList = [v] := by
  obtain ⟨cells, ⟨_, h2⟩, _⟩ := h
  rcases h2 with ⟨rfl, _⟩ | ⟨g, cap, cur, rfl, _⟩ <;> exact ⟨rfl, rfl⟩

theorem OwnAt.ofView {s k : Nat} {p : List Nat} {X : D} {nl e es xs} (hI : Inv n ρ w tmps E) (hE : E s = .box X) (hk : E k = .view s p) (hX : X.get p = .own nl e es xs) : OwnAt w tmps E s p nl e es xs (tmps.getD k undef) := by
  have h := hI.slot k
  rw [hk] at h
  obtain ⟨nl', e', es', xs', h⟩ := h
  rcases h with ⟨h, _⟩ | ⟨x', b', q1, q2, q3, q4, q5⟩
  · rw [hE] at h; cases h
  · rw [hE] at q1; cases q1
    rw [hX] at q3; cases q3
    exact .inr ⟨X, b', hE, q2, hX, q4, q5⟩

omit [Tables] in
theorem D.set_set {y z : D} : ∀ (p : List Nat) (d : D), d.okp p → (d.set p y).set p z = d.set p z
  | [], _, _ => by simp [D.set]
  | i :: p, .st ds, h => by
    simp only [D.okp] at h
    simp only [D.set, List.set_set, D.st.injEq]
    congr 1
    rw [show (ds.set i ((ds.getD i un).set p y)).getD i un = (ds.getD i un).set p y by simp [h.1]]
    exact D.set_set p _ h.2
  | i :: p, .arr es ds, h => by
    simp only [D.okp] at h
    simp only [D.set, List.set_set, D.arr.injEq, true_and]
    congr 1
    rw [show (ds.set i ((ds.getD i un).set p y)).getD i un = (ds.getD i un).set p y by simp [h.1]]
    exact D.set_set p _ h.2
  | _ :: _, .v _, h => by simp [D.okp] at h
  | _ :: _, .lst _ _ _, h => by simp [D.okp] at h
  | _ :: _, .own _ _ _ _, h => by simp [D.okp] at h
  | _ :: _, .fn _ _ _, h => by simp [D.okp] at h
  | _ :: _, .pt _, h => by simp [D.okp] at h
  | _ :: _, .tup _, h => by simp [D.okp] at h
  | _ :: _, .dead _, h => by simp [D.okp] at h

theorem After.trans' {a : Act} {E1 : Nat → Slot} (h : Fr ρ w ρ1 w) {a' : Act} {w' : World} (k : After n ρ1 w a E1 a' w') : a'.defers = a.defers ∧ ∃ ρ', Fr ρ w ρ' w' ∧ Inv n ρ' w' a'.tmps E1 := by
  obtain ⟨k1, ρ2, k2, k3⟩ := k
  exact ⟨k1, ρ2, h.trans k2, k3⟩

/-- The environment in which the own slice of a box's place is slot k's. -/
def outE (E : Nat → Slot) (s k : Nat) (p : List Nat) (X y z : D) : Nat → Slot := upd (upd (kill (gone s k p) E) s (.box (X.set p y))) k (.d z)

/-- An append to the own slice of a box's place. -/
theorem RawOp.appBox {o : Oper} {d k s : Nat} {p : List Nat} {x : Operand} {X : D} {T : TypeId} {nl e es xs ys b} (hΘ : Agree P Θ) (hE : E s = .box X) (hk : E k = .view s p) (hp : X.okp p) (hX : X.get p = .own nl e es xs)
    (hd : o.dst = some d) (hn : d < n) (hod : owner (outE E s k p X (.dead false) (.own nl e es xs) d) = false) (hdk : d ≠ k) (ho : o.op = .call { callee := .builtin .append, args := #[.tmp k, x], argTypes := #[T, T] })
    (hx : Src (outE E s k p X (.dead false) (.own nl e es xs)) x es ys) (ht : (Θ T).td = .sl e es b) (hb : (xs.length + ys.length) * b ≤ 140737488355328) (hm : xs.length + ys.length ≤ maxLen) :
    RawOp P n E o (upd (upd (free k (outE E s k p X (.dead false) (.own nl e es xs))) k .un) d (.d (.own (nl && ys.isEmpty) e es (xs ++ ys)))) := by
  intro ρ w a Q hI
  have hone := ((OwnAt.ofView hI hE hk hX).own hI).oneV
  have hI1 := hI.takeOut (y := .dead false) hE hk hp hX rfl (by simp only [Rp]; exact ⟨_, rfl, hone.1, by simp⟩)
  have hEk : outE E s k p X (.dead false) (.own nl e es xs) k = .d (.own nl e es xs) := by simp [outE, upd]
  exact Oper.wp_mono (fun a' w' h => After.trans' (mvTag_fr (x := .sl s p) (by simp) (by simp)) h) ((OpStep.app hd hn hod hdk ho hEk (.inl rfl) hx ht hb hm).sound hΘ hI1)

omit [Tables] in
theorem kill_kill {f g : Slot → Bool} {u : Nat} (h : ∀ z, g z = true → f z = true) (hf : f .un = false) : kill f (kill g E) u = kill f E u := by
  have h0 : isWk .un = false := rfl
  unfold kill
  by_cases h2 : isWk (E u) = true
  · simp [h2, hf, h0]
  · by_cases h1 : g (E u) = true
    · simp [h1, h _ h1, hf, h0]
    · simp [h1, h2]

/-- An own slice is stored to a box's place. -/
theorem RawOp.stoOwn {o : Oper} {k j s : Nat} {p : List Nat} {X : D} {T : TypeId} {nl e es xs} (hΘ : Agree P Θ) (hk : Adr E k s p X) (hp : X.okp p) (hj : E j = .d (.own nl e es xs)) (hd : o.dst = none) (ho : o.op = .store T (.tmp k) (.tmp j))
    (hf : (Θ T).fits (.own nl e es xs) = true) (hsz : (X.get p).size = 1) (hno : (X.get p).noOwn = true) :
    RawOp P n E o (upd (upd (kill (gone s j p) E) s (.box (X.set p (.own nl e es xs)))) j (.view s p)) := by
  intro ρ w a Q hI
  have hjs : j ≠ s := by rintro rfl; rw [hk.1] at hj; cases hj
  have hown : ROwn ρ w (.sl j []) nl e es xs (a.tmps.getD j undef) := by
    have h := hI.slot j
    rw [hj] at h
    exact h.own
  have hc : Rp (sh ρ) w (.v (a.tmps.getD j undef)) (a.eval (.tmp j)).cells.toList := by
    show Rp (sh ρ) w (.v (a.tmps.getD j undef)) (a.tmps.getD j undef).cells.toList
    rw [hown.oneV.2]
    exact Rp.ofV' hown.oneV.1
  refine Oper.wp_mono (fun a' w' h => ?_) (step_stoV (y := .v (a.tmps.getD j undef)) hΘ hI hd ho hk hc hf (by rw [hsz]; rfl) hno)
  obtain ⟨rfl, _, ρ1, h1, h2⟩ := h
  obtain ⟨s1, _, s3⟩ := D.set_at (y := .v (a'.tmps.getD j undef)) p X hp
  have hj2 : upd (kill (below s p) E) s (.box (X.set p (.v (a'.tmps.getD j undef)))) j = .d (.own nl e es xs) := by
    rw [upd_ne (Ne.symm hjs)]
    simp [kill, hj, below, isWk]
  have h3 := h2.putIn (s := s) (k := j) (p := p) (X := X.set p (.v (a'.tmps.getD j undef))) (by simp [upd]) hj2 s1 s3
  rw [D.set_set p X hp] at h3
  refine ⟨rfl, mvTag ρ1 (.sl j []) (.sl s p), h1.trans (mvTag_fr (x := .sl j []) (by simp) (by simp)), ?_⟩
  have he : upd (upd (kill (gone s j p) (upd (kill (below s p) E) s (.box (X.set p (.v (a'.tmps.getD j undef)))))) s (.box (X.set p (.own nl e es xs)))) j (.view s p) = upd (upd (kill (gone s j p) E) s (.box (X.set p (.own nl e es xs)))) j (.view s p) := by
    funext u
    simp only [upd]
    by_cases e1 : j = u
    · simp [e1]
    by_cases e2 : s = u
    · simp [e1, e2]
    simp only [e1, e2, if_false]
    have : kill (gone s j p) (upd (kill (below s p) E) s (.box (X.set p (.v (a'.tmps.getD j undef))))) u = kill (gone s j p) (kill (below s p) E) u := by simp [kill, upd, e2]
    rw [this, kill_kill (fun z hz => by simp [gone, hz]) rfl]
  rw [← he]
  exact h3

omit [Tables] in
theorem kill_at {f : Slot → Bool} {u : Nat} {x : Slot} (h : E u = x) : kill f E u = if f x || isWk x then .un else x := by subst h; rfl

omit [Tables] in
theorem upd_eq {d : Nat} {s : Slot} : upd E d s d = s := by simp [upd]

omit [Tables] in
theorem Oper.wp_same {o : Oper} {a : Act} {K : Act → World → Prop} {Q : Exit → Act → World → Prop} (hd : o.dst = none) (h : o.wp P a w K Q) : o.wp P a w (fun a' w' => K a' w' ∧ a'.tmps = a.tmps) Q := by
  unfold Oper.wp at h ⊢
  have hp : ∀ (b : Act) (v : Value), b.put o.dst v = b := fun b v => by rw [hd]; rfl
  generalize (execOp a.eval o).run P w = res at h ⊢
  cases res with
  | ok nx w' =>
    cases nx with
    | value v => exact ⟨h, by rw [hp]⟩
    | skip => exact ⟨h, by rw [hp]⟩
    | «defer» dd => exact ⟨h, by rw [hp]⟩
    | enter f args =>
      refine Calls.mono h ?_
      intro ex w'' hh
      cases ex with
      | returned v => exact ⟨hh, by rw [hp]⟩
      | _ => exact hh
    | row row args => exact Rows.mono h fun v w'' hh => ⟨hh, by rw [hp]⟩
    | _ => exact h
  | halt x w' =>
    cases x with
    | panic v => exact h
    | _ => exact h

theorem Inv.setSlot {k : Nat} {sl : Slot} (hI : Inv n ρ w tmps E) (hn : owner (E k) = false) (h : ∀ E1 : Nat → Slot, (∀ u, u ≠ k → E1 u = E u) → RS ρ w tmps E1 k (tmps.getD k undef) sl) : Inv n ρ w tmps (upd E k sl) := by
  refine ⟨hI.size, hI.lt, hI.tab, fun u => ?_⟩
  by_cases hu : k = u
  · subst hu
    have := h (upd E k sl) (fun u hu => upd_ne (Ne.symm hu))
    simpa only [upd, if_true] using this
  · rw [upd_ne hu]
    refine (hI.slot u).keep hI (fun b hb => ⟨hb, rfl⟩) (fun b r hb => ⟨hb, rfl⟩) (fun b hb => ⟨hb, rfl⟩) (fun s' hs' => ⟨?_, rfl, fun _ _ => rfl⟩) (.inr ⟨fun _ _ => rfl, Nat.le_refl _⟩)
    have how := hI.refOwner hs'
    exact upd_ne (by rintro rfl; rw [hn] at how; cases how)

/-- A store to an element of the own slice of a box's place, whose header slot m holds. -/
theorem RawOp.eltBox {o : Oper} {k m s i : Nat} {p q : List Nat} {x : Operand} {X y : D} {T : TypeId} {nl e es xs} (hΘ : Agree P Θ) (hE : E s = .box X) (hm : E m = .view s p) (hk : E k = .elt s p i q) (hp : X.okp p) (hX : X.get p = .own nl e es xs)
    (hd : o.dst = none) (ho : o.op = .store T (.tmp k) x) (hx : OpD E x y) (hf : (Θ T).fits y = true) (hsz : y.size = ((xs.getD i un).get q).size) :
    RawOp P n E o (upd (upd (kill (gone s m p) E) s (.box (X.set p (.own nl e es (xs.set i ((xs.getD i un).set q y)))))) m (.view s p)) := by
  intro ρ w a Q hI
  have hkm : k ≠ m := by rintro rfl; rw [hk] at hm; cases hm
  have hks : k ≠ s := by rintro rfl; rw [hk] at hE; cases hE
  have hms : m ≠ s := by rintro rfl; rw [hm] at hE; cases hE
  have hv := OwnAt.ofView hI hE hm hX
  have hone := (hv.own hI).oneV
  have hI1 := hI.takeOut (y := .v (a.tmps.getD m undef)) hE hm hp hX rfl (Rp.ofV' hone.1)
  have hgk : gone s m p (E k) = true := by rw [hk]; simp [gone, below, List.isPrefixOf_iff_prefix.2 (List.prefix_refl p)]
  have hE1k : upd (upd (kill (gone s m p) E) s (.box (X.set p (.v (a.tmps.getD m undef))))) m (.d (.own nl e es xs)) k = .un := by
    rw [upd_ne (Ne.symm hkm), upd_ne (Ne.symm hks)]
    simp [kill, hgk]
  have hI2 := hI1.setSlot (k := k) (sl := .elt m [] i q) (by rw [hE1k]; rfl) (fun E1 h1 => by
    have h0 := hI.slot k
    rw [hk] at h0
    obtain ⟨nl', e', es', xs', g, l, c, g1, g2, g3, g4⟩ := h0
    have : nl' = nl ∧ e' = e ∧ es' = es ∧ xs' = xs ∧ a.tmps.getD m undef = .slice (some ⟨g, 0, none⟩) l c := by
      rcases g1 with ⟨h, _⟩ | ⟨x', b', q1, q2, q3, q4, q5⟩
      · rw [hE] at h; cases h
      · rw [hE] at q1; cases q1
        rw [hX] at q3; cases q3
        rcases hv with ⟨h, _⟩ | ⟨x2, b2, r1, r2, r3, r4, r5⟩
        · rw [hE] at h; cases h
        · rw [hE] at r1; cases r1
          rw [q4] at r4; cases r4
          rw [q5] at r5
          exact ⟨rfl, rfl, rfl, rfl, (Option.some.inj r5).symm⟩
    obtain ⟨rfl, rfl, rfl, rfl, hh⟩ := this
    exact ⟨nl', e', es', xs', g, l, c, .inl ⟨by rw [h1 m (Ne.symm hkm)]; simp [upd], rfl, hh.symm⟩, g2, g3, g4⟩)
  have hx2 : OpD (upd (upd (upd (kill (gone s m p) E) s (.box (X.set p (.v (a.tmps.getD m undef))))) m (.d (.own nl e es xs))) k (.elt m [] i q)) x y := by
    have hz : ∀ t ∈ operand x, ∃ z, E t = .d z := by cases hx <;> simp_all [operand]
    refine hx.stable fun t h => ?_
    obtain ⟨z, ht⟩ := hz t h
    have e1 : k ≠ t := by rintro rfl; rw [hk] at ht; cases ht
    have e2 : m ≠ t := by rintro rfl; rw [hm] at ht; cases ht
    have e3 : s ≠ t := by rintro rfl; rw [hE] at ht; cases ht
    rw [upd_ne e1, upd_ne e2, upd_ne e3]
    simp [kill, ht, gone, below, refersTo, refers, isWk]
  have hstep := step_elt (Q := Q) hΘ hI2 hd ho upd_eq ((upd_ne hkm).trans upd_eq) hx2 hf hsz
  refine Oper.wp_mono (fun a' w' h => ?_) (Oper.wp_same hd hstep)
  obtain ⟨⟨h0, ρ1, h1, h2⟩, h3⟩ := h
  obtain ⟨s1, _, s3⟩ := D.set_at (y := .v (a.tmps.getD m undef)) p X hp
  have hE2s : upd (kill (belowE m i q) (upd (upd (upd (kill (gone s m p) E) s (.box (X.set p (.v (a.tmps.getD m undef))))) m (.d (.own nl e es xs))) k (.elt m [] i q))) m (.d (.own nl e es (xs.set i ((xs.getD i un).set q y)))) s = .box (X.set p (.v (a.tmps.getD m undef))) := by
    have : upd (upd (upd (kill (gone s m p) E) s (.box (X.set p (.v (a.tmps.getD m undef))))) m (.d (.own nl e es xs))) k (.elt m [] i q) s = .box (X.set p (.v (a.tmps.getD m undef))) := by rw [upd_ne hks, upd_ne hms]; simp [upd]
    rw [upd_ne hms]
    simp only [kill, this]
    rfl
  have h4 := h2.putIn (s := s) (k := m) (p := p) (X := X.set p (.v (a.tmps.getD m undef))) hE2s upd_eq s1 (by rw [s3, h3])
  rw [D.set_set p X hp] at h4
  refine ⟨h0, mvTag ρ1 (.sl m []) (.sl s p), ((mvTag_fr (ρ := ρ) (x := .sl s p) (y := .sl m []) (by simp) (by simp)).trans h1).trans (mvTag_fr (ρ := ρ1) (x := .sl m []) (y := .sl s p) (by simp) (by simp)), ?_⟩
  refine Eq.mp (congrArg _ ?_) h4
  funext u
  by_cases e1 : m = u
  · simp [upd, e1]
  by_cases e2 : s = u
  · simp [upd, e1, e2]
  rw [upd_ne e1, upd_ne e2, upd_ne e1, upd_ne e2]
  have h0' : isWk .un = false := rfl
  by_cases e3 : k = u
  · subst e3
    have : kill (belowE m i q) (upd (upd (upd (kill (gone s m p) E) s (.box (X.set p (.v (a.tmps.getD m undef))))) m (.d (.own nl e es xs))) k (.elt m [] i q)) k = .elt m [] i q := by simp only [kill, upd_eq]; simp [belowE, isWk]
    have h5 : kill (gone s m p) E k = .un := by simp [kill, hgk]
    rw [h5]
    simp only [kill, upd, if_neg (Ne.symm hkm)] at this ⊢
    rw [this]
    simp [gone, refersTo, refers]
  · have e4 : upd (upd (upd (kill (gone s m p) E) s (.box (X.set p (.v (a.tmps.getD m undef))))) m (.d (.own nl e es xs))) k (.elt m [] i q) u = kill (gone s m p) E u := by rw [upd_ne e3, upd_ne e1, upd_ne e2]
    have e5 : upd (kill (belowE m i q) (upd (upd (upd (kill (gone s m p) E) s (.box (X.set p (.v (a.tmps.getD m undef))))) m (.d (.own nl e es xs))) k (.elt m [] i q))) m (.d (.own nl e es (xs.set i ((xs.getD i un).set q y)))) u = kill (belowE m i q) (kill (gone s m p) E) u := by rw [upd_ne e1, kill_at e4]; rfl
    have e6 : kill (belowE m i q) (kill (gone s m p) E) u = kill (gone s m p) E u := by
      by_cases h6 : kill (gone s m p) E u = .un
      · rw [kill_at h6, h6]; rfl
      · obtain ⟨h7, h8⟩ := kill_eq h6
        have h9 : belowE m i q (E u) = false := by
          cases hEu : E u <;> simp_all [belowE, gone, refersTo, refers]
        have h10 : isWk (kill (gone s m p) E u) = false := kill_nwk
        rw [h7] at h10
        rw [kill_at h7, h9, h10, h7]
        rfl
    have e7 := e5.trans e6
    by_cases h6 : kill (gone s m p) E u = .un
    · rw [kill_at (e7.trans h6), h6]; rfl
    · obtain ⟨h7, h8⟩ := kill_eq h6
      have h10 : isWk (kill (gone s m p) E u) = false := kill_nwk
      rw [h7] at h10
      rw [kill_at (e7.trans h7), h8, h10, h7]
      rfl
/-! ### How it is written -/

omit [Tables] in
theorem killK {l : Env} {f : Slot → Bool} : kill f (lk l) = lk (killL f l) := kill_lk

omit [Tables] in
theorem kill_keepV {f : Slot → Bool} {d : Nat} {x : Value} (hf : f (.d (.v x)) = false) (h : E d = .d (.v x)) : kill f E d = .d (.v x) := by
  rw [kill_at h, hf]; rfl

omit [Tables] in
theorem Keeps.putBox {o : Oper} {s m : Nat} {p : List Nat} {X y : D} {sl : Slot} (hs : E s = .box X) (hm : ∀ x, E m ≠ .d (.v x)) : Keeps E o (upd (upd (kill (gone s m p) E) s (.box y)) m sl) := by
  intro d x h _
  have e1 : m ≠ d := by rintro rfl; exact hm x h
  have e2 : s ≠ d := by rintro rfl; rw [hs] at h; cases h
  rw [upd_ne e1, upd_ne e2]
  exact kill_keepV rfl h

section
variable {R : (Nat → Slot) → Prop} {ops : Array Oper} {ld : List Nat} {i : Nat} {os : List Oper} {K : List Item} {l : Env} {ty : TypeId} {pos : String} {af : Array Edge}

/-- The own slice of a box's place is slot k's, the place being dead. -/
def outL (l : Env) (s k : Nat) (p : List Nat) (X z : D) : Env := (k, .d z) :: (s, .box (X.set p (.dead false))) :: killL (gone s k p) l

theorem OpsAt.appBox {d k s : Nat} {p : List Nat} {x : Operand} {X : D} {T : TypeId} {nl e es xs ys b} (hΘ : Agree P Θ) (hk : lk l k = .view s p) (hE : lk l s = .box X) (hp : X.okp p) (hX : X.get p = .own nl e es xs)
    (hx : Src (lk (outL l s k p X (.own nl e es xs))) x es ys) (ht : (Θ T).td = .sl e es b) (hd : (decide (d < n) && !owner (lk (outL l s k p X (.own nl e es xs)) d) && (d != k)) = true)
    (hb : (xs.length + ys.length) * b ≤ 140737488355328) (hm : xs.length + ys.length ≤ maxLen) (hi : ld.contains i = true)
    (next : OpsAt P Θ n R ops ld (i + 1) os K (lk ((d, .d (.own (nl && ys.isEmpty) e es (xs ++ ys))) :: (k, .un) :: killL (refersTo k) (outL l s k p X (.own nl e es xs))))) :
    OpsAt P Θ n R ops ld i (⟨some d, .call { callee := .builtin .append, args := #[.tmp k, x], argTypes := #[T, T] }, ty, pos, af, none⟩ :: os) K (lk l) := by
  simp only [Bool.and_eq_true, decide_eq_true_eq, Bool.not_eq_true', bne_iff_ne, ne_eq] at hd
  have he : outE (lk l) s k p X (.dead false) (.own nl e es xs) = lk (outL l s k p X (.own nl e es xs)) := by unfold outE; rw [killK]; rfl
  have h1 := RawOp.appBox (P := P) (Θ := Θ) (n := n) (o := ⟨some d, .call { callee := .builtin .append, args := #[.tmp k, x], argTypes := #[T, T] }, ty, pos, af, none⟩) hΘ hE hk hp hX rfl hd.1.1 (by rw [he]; exact hd.1.2) hd.2 rfl (by rw [he]; exact hx) ht hb hm
  rw [he] at h1
  unfold free at h1
  rw [killK, upd_lk, upd_lk] at h1
  refine .rw_ h1 (fun v z h hv => ?_) rfl hi next
  have e1 : d ≠ v := fun h => hv (by rw [h])
  have e2 : k ≠ v := by rintro rfl; rw [hk] at h; cases h
  have e3 : s ≠ v := by rintro rfl; rw [hE] at h; cases h
  show upd (upd (lk (killL (refersTo k) (outL l s k p X (.own nl e es xs)))) k .un) d _ v = _
  rw [upd_ne e1, upd_ne e2, ← killK]
  refine kill_keepV rfl ?_
  show upd (upd (lk (killL (gone s k p) l)) s _) k _ v = _
  rw [upd_ne e2, upd_ne e3, ← killK]
  exact kill_keepV rfl h

theorem OpsAt.stoOwn {k j s : Nat} {p : List Nat} {X : D} {T : TypeId} {nl e es xs} (hΘ : Agree P Θ) (ha : adrOf (lk l) k = some (s, p, X)) (hp : X.okp p) (hj : lk l j = .d (.own nl e es xs))
    (hf : ((Θ T).fits (.own nl e es xs) && ((X.get p).size == 1) && (X.get p).noOwn) = true) (hi : ld.contains i = true)
    (next : OpsAt P Θ n R ops ld (i + 1) os K (lk ((j, .view s p) :: (s, .box (X.set p (.own nl e es xs))) :: killL (gone s j p) l))) :
    OpsAt P Θ n R ops ld i (⟨none, .store T (.tmp k) (.tmp j), ty, pos, af, none⟩ :: os) K (lk l) := by
  simp only [Bool.and_eq_true, beq_iff_eq] at hf
  have hk := adrOf_sound ha
  have h1 := RawOp.stoOwn (P := P) (Θ := Θ) (n := n) (o := ⟨none, .store T (.tmp k) (.tmp j), ty, pos, af, none⟩) hΘ hk hp hj rfl rfl hf.1.1 hf.1.2 hf.2
  have h2 := Keeps.putBox (o := ⟨none, .store T (.tmp k) (.tmp j), ty, pos, af, none⟩) (p := p) (y := X.set p (.own nl e es xs)) (sl := .view s p) (m := j) hk.1 (fun x h => by rw [hj] at h; cases h)
  rw [killK, upd_lk, upd_lk] at h1 h2
  exact .rw_ h1 h2 rfl hi next

theorem OpsAt.eltBox {k m s q0 : Nat} {p q : List Nat} {x : Operand} {X y : D} {T : TypeId} {nl e es xs} {c : Prop} (hΘ : Agree P Θ) (hk : lk l k = .elt s p q0 q) (hE : lk l s = .box X) (hm : lk l m = .view s p) (hp : X.okp p) (hX : X.get p = .own nl e es xs)
    (hx : opOf (lk l) x = some (y, c)) (hc : c) (hf : (Θ T).fits y = true) (hsz : y.size = ((xs.getD q0 un).get q).size) (hi : ld.contains i = true)
    (next : OpsAt P Θ n R ops ld (i + 1) os K (lk ((m, .view s p) :: (s, .box (X.set p (.own nl e es (xs.set q0 ((xs.getD q0 un).set q y))))) :: killL (gone s m p) l))) :
    OpsAt P Θ n R ops ld i (⟨none, .store T (.tmp k) x, ty, pos, af, none⟩ :: os) K (lk l) := by
  have h1 := RawOp.eltBox (P := P) (Θ := Θ) (n := n) (o := ⟨none, .store T (.tmp k) x, ty, pos, af, none⟩) hΘ hE hm hk hp hX rfl rfl (opOf_sound hx hc) hf hsz
  have h2 := Keeps.putBox (o := ⟨none, .store T (.tmp k) x, ty, pos, af, none⟩) (p := p) (y := X.set p (.own nl e es (xs.set q0 ((xs.getD q0 un).set q y)))) (sl := .view s p) (m := m) hE (fun x h => by rw [hm] at h; cases h)
  rw [killK, upd_lk, upd_lk] at h1 h2
  exact .rw_ h1 h2 rfl hi next

/-- A nil slice at a box's place is one of the box's own. -/
theorem Run.ownNilBox {todo : List Item} (s : Nat) (p : List Nat) (e es : Nat) {es' : Nat} {X : D} (hE : lk l s = .box X) (hp : X.okp p) (hX : X.get p = .lst .nl es' []) (h : Run P Θ n R todo (lk ((s, .box (X.set p (.own true e es []))) :: killL (refersTo s) l))) : Run P Θ n R todo (lk l) := by
  refine .ghost (fun ρ w tmps hI => ?_) h
  rw [← upd_lk, ← killK]
  have hI1 := hI.less (kill_less (fun s' h => refersTo_owner (t := s) s' h) hI)
  refine ⟨ρ, Fr.refl _ _, hI.size, hI.lt, hI.tab, fun u => ?_⟩
  by_cases hu : s = u
  · subst hu
    simp only [upd, if_true]
    have h1 := hI.slot s
    rw [hE] at h1
    obtain ⟨b, cs, g1, g3, g4, g5⟩ := h1
    refine ⟨b, cs, g1, g3, g4, ?_⟩
    obtain ⟨c1, m, c2, e1, e2, e3, e4⟩ := RB.lens p X g5 hp
    rw [e1]
    refine e4 ρ w ⟨fun _ h => ⟨h, rfl⟩, fun _ _ _ _ => ⟨rfl, rfl⟩⟩ _ m rfl ?_
    rw [hX] at e3
    have h2 := (RB.plain (.lst .nl es' []) rfl).1 e3
    simp only [Rp] at h2
    obtain ⟨a, l0, c, rfl, h4, _⟩ := h2
    simp only [Hdr] at h4
    obtain ⟨rfl, rfl, rfl, _⟩ := h4
    simp only [RB]
    exact ⟨_, rfl, [], World.ownsRow_nil w 0 e es, by simp [Rpa], by simp, by simp [Value.ownBlock]⟩
  · rw [upd_ne hu]
    refine (hI1.slot u).keep hI1 (fun b hb => ⟨hb, rfl⟩) (fun b r hb => ⟨hb, rfl⟩) (fun b hb => ⟨hb, rfl⟩) (fun s' hs' => ⟨?_, rfl, fun _ _ => rfl⟩) (.inr ⟨fun _ _ => rfl, Nat.le_refl _⟩)
    refine upd_ne ?_
    rintro rfl
    exact free_ne hs'
end
end Go.Dat
