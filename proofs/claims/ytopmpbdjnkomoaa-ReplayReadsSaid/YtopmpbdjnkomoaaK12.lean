/- Stores into boxes and own slices; an own slice out of several results. No conditions. -/
import Derived.Test.YtopmpbdjnkomoaaK11
namespace Go.Dat

variable [Tables]

variable {P : Program} {Θ : TypeId → TI} {n : Nat} {ρ ρ' ρ'' : Nat → Tag} {w w' w'' : World} {tmps tmps' : Array Value} {E E' : Nat → Slot} {t : Nat} {u : Value}

theorem Inv.refOwner (hI : Inv n ρ w tmps E) {u s : Nat} (h : refers (E u) = some s) : owner (E s) = true := by
  have h5 := hI.slot u
  cases hE' : E u with
  | ref s2 p => rw [hE'] at h5 h; simp only [refers, Option.some.injEq] at h; subst h; obtain ⟨x, b, h1, _⟩ := h5; simp [h1, owner]
  | view s2 p => rw [hE'] at h5 h; simp only [refers, Option.some.injEq] at h; subst h; obtain ⟨_, _, _, _, h1⟩ := h5; rcases h1 with ⟨h1, _⟩ | ⟨x, b, h1, _⟩ <;> simp [h1, owner]
  | elt s2 p i q => rw [hE'] at h5 h; simp only [refers, Option.some.injEq] at h; subst h; obtain ⟨_, _, _, _, _, _, _, h1, _⟩ := h5; rcases h1 with ⟨h1, _⟩ | ⟨x, b, h1, _⟩ <;> simp [h1, owner]
  | sub s2 p i q => rw [hE'] at h5 h; simp only [refers, Option.some.injEq] at h; subst h; obtain ⟨_, _, _, _, _, _, _, h1, _⟩ := h5; rcases h1 with ⟨h1, _⟩ | ⟨x, b, h1, _⟩ <;> simp [h1, owner]
  | _ => rw [hE'] at h; simp [refers] at h

omit [Tables] in
theorem kill_eq {f : Slot → Bool} {u : Nat} (h : kill f E u ≠ .un) : kill f E u = E u ∧ f (E u) = false := by
  unfold kill at h ⊢
  cases hf : f (E u) <;> cases hk : isWk (E u) <;> simp_all

omit [Tables] in
theorem own_okp {nl e es xs} : ∀ {r : List Nat}, (D.own nl e es xs).okp r → r = []
  | [], _ => rfl
  | _ :: _, h => by simp [D.okp] at h

section
variable {a : Act} {o : Oper} {Q : Exit → Act → World → Prop}

theorem step_stoV {T k s p X y} {x : Operand} (hΘ : Agree P Θ) (hI : Inv n ρ w a.tmps E) (hd : o.dst = none) (ho : o.op = .store T (.tmp k) x) (hk : Adr E k s p X) (hc : Rp (sh ρ) w y (a.eval x).cells.toList)
    (hf : (Θ T).fits y = true) (hsz : y.size = (X.get p).size) (hno : (X.get p).noOwn = true) :
    o.wp P a w (fun a' w' => a' = a ∧ After n ρ w a (upd (kill (below s p) E) s (.box (X.set p y))) a' w') Q := by
  obtain ⟨b, cs, g1, g2, g3, ⟨e, g4⟩, g5, g6⟩ := hk.sound hI
  obtain ⟨c1, m, c2, e1, e2, e3, e4⟩ := RB.lens p X g5 g6
  have hml := RB.len _ e3
  have hul := Rp.len y hc
  have hone := Rp.one y hc
  simp only [TI.fits, Bool.and_eq_true, beq_iff_eq] at hf
  have hsize := sizeOf_run (P := P) (w := w) (hΘ T hf.1.1)
  have hlen : (a.eval x).cells.size = (Θ T).n := by rw [← Array.length_toList, hul, hf.2]
  have hm' : (a.eval x).cells.toList.length = m.length := by rw [hul, hsz, hml]
  have hcs : cs.length = c1.length + m.length + c2.length := by rw [e1]; simp; omega
  have hst := run_storeCells_at P b (X.off p) e (a.eval x).cells.toList 0 cs.toArray w g4 (by simp only [List.size_toArray, Nat.add_zero]; omega) hone
  have hcells : (cs.toArray.toList.take (X.off p + 0) ++ (a.eval x).cells.toList ++ cs.toArray.toList.drop (X.off p + 0 + (a.eval x).cells.toList.length)) = c1 ++ (a.eval x).cells.toList ++ c2 := by
    simp only [Nat.add_zero, ← e2, hm', e1]
    simp
  rw [hcells] at hst
  generalize hW : w.setRow b (c1 ++ (a.eval x).cells.toList ++ c2).toArray = w' at hst
  have hheap : ∀ g, g ≠ b → w'.heap[g]? = w.heap[g]? := fun g hg => by rw [← hW]; exact setRow_other w b g _ hg
  have hnb : w'.heap[b]? = some (.cells (c1 ++ (a.eval x).cells.toList ++ c2).toArray e (0, 0)) := by rw [← hW]; exact setRow_heap w b _ _ e _ g4
  refine oper_skip (w' := w') ?_ ?_
  · simp only [execOp, ho, Instr.storeAt, eval_tmp, g2, Instr.sureAddr, storeVar, Sem.run_bind, Sem.run_pure, Result.andThen_ok, hsize, hlen, ne_eq, not_true_eq_false, if_false, hst]
  rw [put_none hd]
  refine ⟨rfl, ?_⟩
  have hsh : ∀ g, ρ g = .sh → ρ g = .sh ∧ w'.heap[g]? = w.heap[g]? := fun g hg => ⟨hg, hheap g (by rintro rfl; rw [g3] at hg; cases hg)⟩
  have hsl : ∀ t g r, ρ g = .sl t r → ρ g = .sl t r ∧ w'.heap[g]? = w.heap[g]? := fun t g r hg => ⟨hg, hheap g (by rintro rfl; rw [g3] at hg; cases hg)⟩
  refine ⟨rfl, ρ, ⟨fun _ h => h, fun _ _ h => h, fun g _ hg => hheap g (by rintro rfl; rw [g3] at hg; rcases hg with h | h <;> cases h), by rw [← hW]; rfl, by rw [← hW]; rfl, by rw [← hW]; rfl, by rw [← hW]; simp⟩, ?_⟩
  have hI1 := hI.less (kill_less (fun s' h => below_owner (s := s) (p := p) s' h) hI)
  refine ⟨hI.size, fun g hg => by rw [← hW]; simpa using hI.lt g hg, hI.tab.mono hsh, fun u => ?_⟩
  by_cases h1 : s = u
  · subst h1
    simp only [upd, if_true]
    refine ⟨b, c1 ++ (a.eval x).cells.toList ++ c2, g1, g3, ⟨e, hnb⟩, ?_⟩
    exact e4 ρ w' ⟨hsh, fun g r hg _ => ⟨rfl, (hsl s g r hg).2⟩⟩ y _ hm' (RB.ofRp (Rp.mono hsh y hc))
  · simp only [upd, h1, if_false]
    by_cases hun : kill (below s p) E u = .un
    · rw [hun]; trivial
    obtain ⟨k1, k2⟩ := kill_eq hun
    rw [k1]
    -- the own slices in the box of s stay
    have hbox : ∀ {q nl' e' es' xs' v}, ¬ p <+: q → OwnAt w a.tmps E s q nl' e' es' xs' v → OwnAt w' a.tmps (upd (kill (below s p) E) s (.box (X.set p y))) s q nl' e' es' xs' v := by
      intro q nl' e' es' xs' v hpq h
      rcases h with ⟨h, _⟩ | ⟨x', b', q1, q2, q3, q4, q5⟩
      · rw [hk.1] at h; cases h
      · rw [hk.1] at q1; cases q1
        rw [g1] at q4; cases q4
        have hqp : ¬ q <+: p := by
          rintro ⟨r, rfl⟩
          have := ((D.okp_app q X r).1 g6).2
          rw [q3] at this
          have hr := own_okp this
          subst hr
          exact hpq (by simp)
        obtain ⟨s1, s2, s3⟩ := D.set_keep p X q g6 hsz hpq q2
        refine .inr ⟨X.set p y, b, by simp [upd], s1, by rw [s3 hqp, q3], g1, ?_⟩
        rw [s2]
        rw [cell_of_row w' b _ _ _ _ hnb]
        rw [cell_of_row w b _ _ _ _ g4] at q5
        simp only [List.getElem?_toArray] at q5 ⊢
        rw [← q5, e1]
        have hd := RB.disj (p := p) q X g5 g6 q2 hpq hqp
        rw [q3] at hd
        simp only [D.size] at hd
        exact getElem?_mid hm' (by rw [e2, hml]; omega)
    have hE1 : ∀ s', s' ≠ s → owner (E s') = true → upd (kill (below s p) E) s (.box (X.set p y)) s' = E s' := by
      intro s' h2 h3
      have h4 : below s p (E s') = false := by cases hb : below s p (E s') <;> simp_all [below_owner (s := s) (p := p) (E s')]
      simp [upd, h2.symm, kill, h4, isWk_owner h3]
    have hslot := hI.slot u
    by_cases hr : refers (E u) = some s
    · cases hE : E u with
      | ref s' q =>
        rw [hE] at hr hslot k2
        simp only [refers, Option.some.injEq] at hr
        subst hr
        obtain ⟨x', b', q1, q2, q3, q4⟩ := hslot
        rw [hk.1] at q1; cases q1
        rw [g1] at q3; cases q3
        by_cases hpq : p = q
        · subst hpq
          obtain ⟨s1, s2, _⟩ := D.set_at (y := y) p X g6
          exact ⟨X.set p y, b, by simp [upd], s1, g1, by rw [s2]; exact q4⟩
        · have hn : ¬ p <+: q := by
            intro hpre
            simp [below, List.isPrefixOf_iff_prefix.2 hpre, hpq] at k2
          obtain ⟨s1, s2, _⟩ := D.set_keep p X q g6 hsz hn q2
          exact ⟨X.set p y, b, by simp [upd], s1, g1, by rw [s2]; exact q4⟩
      | view s' q =>
        rw [hE] at hr hslot k2
        simp only [refers, Option.some.injEq] at hr
        subst hr
        obtain ⟨nl', e', es', xs', h⟩ := hslot
        refine ⟨nl', e', es', xs', hbox (fun hpre => ?_) h⟩
        simp [below, List.isPrefixOf_iff_prefix.2 hpre] at k2
      | elt s' q i r =>
        rw [hE] at hr hslot k2
        simp only [refers, Option.some.injEq] at hr
        subst hr
        obtain ⟨nl', e', es', xs', g, l, c, h, h'⟩ := hslot
        refine ⟨nl', e', es', xs', g, l, c, hbox (fun hpre => ?_) h, h'⟩
        simp [below, List.isPrefixOf_iff_prefix.2 hpre] at k2
      | sub s' q i r =>
        rw [hE] at hr hslot k2
        simp only [refers, Option.some.injEq] at hr
        subst hr
        obtain ⟨nl', e', es', xs', g, l, c, h, h'⟩ := hslot
        refine ⟨nl', e', es', xs', g, l, c, hbox (fun hpre => ?_) h, h'⟩
        simp [below, List.isPrefixOf_iff_prefix.2 hpre] at k2
      | _ => rw [hE] at hr; simp [refers] at hr
    · refine hslot.keep hI hsh (fun g r hg => hsl u g r hg) (fun g hg => ⟨hg, hheap g (by rintro rfl; rw [g3] at hg; cases hg; exact h1 rfl)⟩) (fun s' hs' => ?_) (.inl (by rw [← k1]; exact kill_nwk))
      have h2 : s' ≠ s := by rintro rfl; exact hr hs'
      exact ⟨hE1 s' h2 (hI.refOwner hs'), rfl, fun g hg => hheap g (by rintro rfl; rw [g3] at hg; cases hg; exact h2 rfl)⟩

theorem step_sto {T k s p X y} {x : Operand} (hΘ : Agree P Θ) (hI : Inv n ρ w a.tmps E) (hd : o.dst = none) (ho : o.op = .store T (.tmp k) x) (hk : Adr E k s p X) (hx : OpD E x y)
    (hf : (Θ T).fits y = true) (hsz : y.size = (X.get p).size) (hno : (X.get p).noOwn = true) :
    o.wp P a w (After n ρ w a (upd (kill (below s p) E) s (.box (X.set p y)))) Q :=
  Oper.wp_mono (fun _ _ h => h.2) (step_stoV hΘ hI hd ho hk (hx.sound hI).cells hf hsz hno)

theorem step_ext {d k i ds nl e es xs} (hI : Inv n ρ w a.tmps E) (hd : o.dst = some d) (hn : d < n) (hod : owner (E d) = false) (_hdk : d ≠ k) (ho : o.op = .extract (.tmp k) i)
    (hE : E k = .d (.tup ds)) (hi : i < ds.length) (hx : ds.getD i un = .own nl e es xs) :
    o.wp P a w (After n ρ w a (upd (upd E k (.d (.tup (ds.set i (.dead false))))) d (.d (.own nl e es xs)))) Q := by
  have h0 := hI.slot k
  rw [hE] at h0
  obtain ⟨us, h1, h2⟩ := h0
  obtain ⟨v, h3, h4⟩ := h2.nth hi
  rw [hx] at h4
  simp only [Nat.zero_add] at h4
  obtain ⟨cs, h5, h6⟩ := h4
  simp only [RB] at h5
  obtain ⟨v', rfl, h7⟩ := h5
  simp only [VC] at h6
  obtain rfl : v' = v := by simpa using h6
  refine oper_val (v := v') (w' := w) (by simp [execOp, ho, eval_tmp, h1, Instr.extract, h3]) ?_
  rw [put_some hd]
  have hd' : d < a.tmps.size := by rw [hI.size]; exact hn
  let ρ' : Nat → Tag := fun g => if ρ g = .sl k [i] then .sl d [] else ρ g
  have hk : ∀ g, ρ g ≠ .sl k [i] → ρ' g = ρ g := fun g hg => by simp [ρ', hg]
  refine ⟨rfl, ρ', ⟨fun g hg => by rw [hk g (by simp [hg]), hg], fun g _ hg => by rw [hk g (by simp [hg]), hg], fun _ _ _ => rfl, rfl, rfl, rfl, Nat.le_refl _⟩, ?_⟩
  refine ⟨by simp [hI.size], fun g hg => hI.lt g (fun h => hg (by rw [hk g (by simp [h]), h])), hI.tab.mono (fun g hg => ⟨by simp only [sh] at hg ⊢; rw [hk g (by simp [hg]), hg], rfl⟩), fun u => ?_⟩
  rw [getD_put _ _ _ _ hd']
  by_cases e1 : d = u
  · subst e1
    simp only [if_true, upd]
    exact RV.ofOwn (h7.mono (fun g hg => ⟨by rw [hk g (by simp [hg]), hg], rfl⟩) (fun g hg => ⟨by simp [ρ', hg], rfl⟩))
  · by_cases e2 : k = u
    · subst e2
      simp only [upd, e1, if_false, if_true]
      refine ⟨us, h1, ?_⟩
      have one : ∀ (x : D) (u : Value) (c : Nat), c ≠ i → RV1 ρ w k [c] x u → RV1 ρ' w k [c] x u := fun x u c hc h =>
        RV1.mono (fun g hg => ⟨by rw [hk g (by simp [hg]), hg], rfl⟩) (fun g r hg => ⟨by rw [hk g (by rw [hg]; simp [hc]), hg], rfl⟩) h
      have tail : ∀ (ds : List D) (us : List Value) (c : Nat), i < c → RVs ρ w k c ds us → RVs ρ' w k c ds us := by
        intro ds
        induction ds with
        | nil => intro us c _ h; exact h
        | cons x ds ih =>
          intro us c hc h
          obtain ⟨u, y, rfl, q1, q2⟩ := h
          exact ⟨u, y, rfl, one x u c (by omega) q1, ih y (c + 1) (by omega) q2⟩
      have key : ∀ (ds : List D) (us : List Value) (j c : Nat), RVs ρ w k c ds us → c + j = i → j < ds.length → ds.getD j un = .own nl e es xs → RVs ρ' w k c (ds.set j (.dead false)) us := by
        intro ds
        induction ds with
        | nil => intro us j c _ _ h; simp at h
        | cons x ds ih =>
          intro us j c h hj hlt hx
          obtain ⟨u, y, rfl, q1, q2⟩ := h
          cases j with
          | zero =>
            obtain ⟨cs, r1, r2⟩ := q1
            have hx' : x = .own nl e es xs := by simpa using hx
            subst hx'
            simp only [RB] at r1
            obtain ⟨v2, rfl, r3⟩ := r1
            simp only [VC] at r2
            obtain rfl : v2 = u := by simpa using r2
            refine ⟨v2, y, rfl, ⟨[v2], ?_, rfl⟩, tail ds y (c + 1) (by omega) q2⟩
            simp only [RB, Rp]
            exact ⟨v2, rfl, r3.one, by simp⟩
          | succ j => exact ⟨u, y, rfl, one x u c (by omega) q1, ih y j (c + 1) q2 (by omega) (by simpa using hlt) (by simpa using hx)⟩
      exact key ds us i 0 h2 (by omega) hi hx
    · simp only [upd, e1, e2, if_false]
      have e3 : u ≠ k := fun h => e2 h.symm
      refine (hI.slot u).keep hI (fun g hg => ⟨by rw [hk g (by simp [hg]), hg], rfl⟩) (fun g r hg => ⟨by rw [hk g (by simp [hg, e3]), hg], rfl⟩) (fun g hg => ⟨by rw [hk g (by simp [hg]), hg], rfl⟩) (fun s' hs' => ?_) (.inr ⟨fun _ _ => rfl, Nat.le_refl _⟩)
      have how := hI.refOwner hs'
      have n1 : d ≠ s' := by rintro rfl; rw [hod] at how; cases how
      have n2 : k ≠ s' := by rintro rfl; rw [hE] at how; simp [owner] at how
      exact ⟨by simp [upd, n1, n2], by rw [getD_put _ _ _ _ hd', if_neg n1], fun _ _ => rfl⟩

end
end Go.Dat
