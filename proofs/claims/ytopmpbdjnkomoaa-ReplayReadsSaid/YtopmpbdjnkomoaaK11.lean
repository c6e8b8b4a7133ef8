/- Stores, appends, results taken: each is sound. No conditions. -/
import Derived.Test.YtopmpbdjnkomoaaK10
namespace Go.Dat

variable [Tables]

variable {P : Program} {Θ : TypeId → TI} {n : Nat} {ρ ρ' ρ'' : Nat → Tag} {w w' w'' : World} {tmps tmps' : Array Value} {E E' : Nat → Slot} {t : Nat} {u : Value}

omit [Tables] in
theorem Rpa.app {S : Nat → Prop} {es : Nat} : ∀ {xs ys : List D} {us vs : List Value}, Rpa S w es xs us → Rpa S w es ys vs → Rpa S w es (xs ++ ys) (us ++ vs)
  | [], _, _, _, h, k => by simp only [Rpa] at h; subst h; simpa using k
  | x :: xs, ys, us, vs, h, k => by
    simp only [Rpa] at h
    obtain ⟨c, y, rfl, h1, h2, h3⟩ := h
    simp only [List.cons_append, Rpa]
    exact ⟨c, y ++ vs, by simp, h1, h2, Rpa.app h3 k⟩

omit [Tables] in
theorem sizes_take_succ : ∀ (ds : List D) (i : Nat), i < ds.length → sizes (ds.take (i + 1)) = sizes (ds.take i) + (ds.getD i un).size
  | [], _, h => by simp at h
  | d :: ds, 0, _ => by simp [sizes]
  | d :: ds, i + 1, h => by
    have := sizes_take_succ ds i (by simpa using h)
    simp only [List.take_succ_cons, sizes, this]
    simp [Nat.add_assoc]

omit [Tables] in
theorem sizes_take_le : ∀ (ds : List D) (i j : Nat), i ≤ j → sizes (ds.take i) ≤ sizes (ds.take j)
  | [], _, _, _ => by simp
  | d :: ds, 0, j, _ => by simp [sizes]
  | d :: ds, i + 1, 0, h => by omega
  | d :: ds, i + 1, j + 1, h => by
    have := sizes_take_le ds i j (by omega)
    simp only [List.take_succ_cons, sizes]
    omega

omit [Tables] in
theorem RB.bound {p : List Nat} {d : D} {q : List Nat} {vs : List Value} (h : RB ρ w t q d vs) (hp : d.okp p) : d.off p + (d.get p).size ≤ d.size := by
  obtain ⟨a, m, b, e, h1, h2, _⟩ := RB.lens p d h hp
  have l1 := RB.len d h
  have l2 := RB.len _ h2
  rw [e] at l1
  simp only [List.length_append] at l1
  omega

omit [Tables] in
theorem RB.disj {p : List Nat} : ∀ (q : List Nat) (d : D) {r : List Nat} {vs : List Value}, RB ρ w t r d vs → d.okp p → d.okp q → ¬ p <+: q → ¬ q <+: p →
    d.off q + (d.get q).size ≤ d.off p ∨ d.off p + (d.get p).size ≤ d.off q := by
  induction p with
  | nil => intro q d r vs _ _ _ h; exact absurd List.nil_prefix h
  | cons i p ih =>
    intro q d r vs h hp hq h1 h2
    cases q with
    | nil => exact absurd List.nil_prefix h2
    | cons j q =>
      cases d with
      | st ds =>
        simp only [D.okp] at hp hq
        simp only [RB] at h
        simp only [D.off, D.get]
        obtain ⟨_, _, _, _, _, hi, _⟩ := RBs.lens i ds h hp.1
        obtain ⟨_, _, _, _, _, hj, _⟩ := RBs.lens j ds h hq.1
        have bi := hi.bound hp.2
        have bj := hj.bound hq.2
        by_cases e : i = j
        · subst e
          have := ih q (ds.getD i un) hi hp.2 hq.2 (fun h => h1 (by simpa using h)) (fun h => h2 (by simpa using h))
          omega
        · rcases Nat.lt_or_gt_of_ne e with e | e
          · have k1 := sizes_take_succ ds i hp.1
            have k2 := sizes_take_le ds (i + 1) j (by omega)
            omega
          · have k1 := sizes_take_succ ds j hq.1
            have k2 := sizes_take_le ds (j + 1) i (by omega)
            omega
      | arr es ds =>
        simp only [D.okp] at hp hq
        simp only [RB] at h
        simp only [D.off, D.get]
        obtain ⟨_, _, _, _, _, li, hi, _⟩ := RBa.lens i ds h hp.1
        obtain ⟨_, _, _, _, _, lj, hj, _⟩ := RBa.lens j ds h hq.1
        have bi := hi.bound hp.2
        have bj := hj.bound hq.2
        rw [← RB.len _ hi, li] at bi
        rw [← RB.len _ hj, lj] at bj
        by_cases e : i = j
        · subst e
          have := ih q (ds.getD i un) hi hp.2 hq.2 (fun h => h1 (by simpa using h)) (fun h => h2 (by simpa using h))
          omega
        · rcases Nat.lt_or_gt_of_ne e with e | e
          · have k2 : es * (i + 1) ≤ es * j := Nat.mul_le_mul_left _ e
            rw [Nat.mul_add, Nat.mul_one] at k2
            omega
          · have k2 : es * (j + 1) ≤ es * i := Nat.mul_le_mul_left _ e
            rw [Nat.mul_add, Nat.mul_one] at k2
            omega
      | _ => simp [D.okp] at hp

omit [Tables] in
theorem getElem?_mid {a m m' b : List Value} {j : Nat} (hl : m'.length = m.length) (h : j + 1 ≤ a.length ∨ a.length + m.length ≤ j) : (a ++ m' ++ b)[j]? = (a ++ m ++ b)[j]? := by
  rcases h with h | h
  · rw [List.append_assoc, List.append_assoc, List.getElem?_append_left (by omega), List.getElem?_append_left (by omega)]
  · rw [List.getElem?_append_right (by simp; omega), List.getElem?_append_right (by simp; omega)]
    simp [hl]

section
variable {a : Act} {o : Oper} {Q : Exit → Act → World → Prop}

theorem step_app {d k s T nl e es xs ys b} {x : Operand} (hΘ : Agree P Θ) (hI : Inv n ρ w a.tmps E) (hd : o.dst = some d) (hn : d < n) (hod : owner (E d) = false) (hds : d ≠ s)
    (ho : o.op = .call { callee := .builtin .append, args := #[.tmp k, x], argTypes := #[T, T] }) (hE : E s = .d (.own nl e es xs)) (hk : k = s ∨ E k = .view s []) (hx : Src E x es ys)
    (ht : (Θ T).td = .sl e es b) (hb : (xs.length + ys.length) * b ≤ 140737488355328) (hm : xs.length + ys.length ≤ maxLen) :
    o.wp P a w (After n ρ w a (upd (upd (free s E) s .un) d (.d (.own (nl && ys.isEmpty) e es (xs ++ ys))))) Q := by
  have hkv : a.eval (.tmp k) = a.tmps.getD s undef := by
    rcases hk with rfl | hk
    · rfl
    · have := hI.slot k
      rw [hk] at this
      obtain ⟨nl', e', es', xs', h1⟩ := this
      rcases h1 with ⟨_, _, h1⟩ | ⟨x, b, h1, _⟩
      · exact h1
      · rw [hE] at h1; cases h1
  have hown : ROwn ρ w (.sl s []) nl e es xs (a.tmps.getD s undef) := by
    have := hI.slot s
    rw [hE] at this
    exact RV.own this
  obtain ⟨ad, c, news, x1, x2, x3, x4⟩ := hx.sound hI
  obtain ⟨v', w', cells, r1, r2, r3, r4, r5, r6, r7⟩ := append_run (P := P) (ty := o.type) (hΘ.says ht) hown x2 x3 x4 (c := c) hb hm
  refine oper_val (v := v') (w' := w') (by simp only [execOp, ho, resolve, invoke, builtin, Sem.run_bind, Sem.run_pure, Result.andThen_ok, List.map_toArray, List.map_cons, List.map_nil, hkv, x1, r1]) ?_
  rw [put_some hd]
  have hd' : d < a.tmps.size := by rw [hI.size]; exact hn
  have hvb : ∀ g, (a.tmps.getD s undef).ownBlock = some g → ρ g = .sl s [] := by
    obtain ⟨_, _, _, _, h⟩ := hown
    exact h
  let ρ' : Nat → Tag := fun g => if v'.ownBlock = some g then .sl d [] else if ρ g = .sl s [] then .other else ρ g
  have hnew : ∀ g, v'.ownBlock = some g → ρ g = .sl s [] ∨ ρ g = .other := by
    intro g hg
    rcases r6 g hg with h | h
    · exact .inl (hvb g h)
    · refine .inr (Classical.byContradiction fun hne => ?_)
      have := hI.lt g hne
      omega
  have hkeep : ∀ g, ρ g ≠ .other → ρ g ≠ .sl s [] → ρ' g = ρ g := by
    intro g h1 h2
    have h3 : v'.ownBlock ≠ some g := fun h => by rcases hnew g h with h | h <;> contradiction
    simp [ρ', h3, h2]
  have hsame : ∀ g, g < w.heap.size → ρ g ≠ .sl s [] → w'.heap[g]? = w.heap[g]? := by
    intro g h1 h2
    refine r4.block g h1 fun h => ?_
    exact h2 (hvb g h.symm)
  have hsh : ∀ g, ρ g = .sh → ρ' g = .sh ∧ w'.heap[g]? = w.heap[g]? := fun g hg =>
    ⟨by rw [hkeep g (by simp [hg]) (by simp [hg]), hg], hsame g (hI.lt g (by simp [hg])) (by simp [hg])⟩
  refine ⟨rfl, ρ', ⟨fun g hg => (hsh g hg).1, fun g hl hg => ?_, fun g hl hg => hsame g hl (by rcases hg with h | h <;> simp [h]), r4.os, r4.tape, r4.output, r4.size⟩, ?_⟩
  · have h3 : v'.ownBlock ≠ some g := fun h => by
      rcases r6 g h with h | h
      · rw [hvb g h] at hg; cases hg
      · omega
    simp [ρ', h3, hg]
  · have hI1 := hI.free s
    refine ⟨by simp [hI.size], fun g hg => ?_, hI.tab.mono hsh, fun u => ?_⟩
    · simp only [ρ'] at hg
      split at hg
      · next h => exact r7 g h
      · split at hg
        · exact absurd rfl hg
        · exact Nat.lt_of_lt_of_le (hI.lt g hg) r4.size
    · rw [getD_put _ _ _ _ hd']
      by_cases h1 : d = u
      · subst h1
        simp only [if_true, upd]
        refine RV.ofOwn ⟨cells ++ news, by rw [List.length_append]; exact r2, ?_, r5, fun g hg => by simp [ρ', hg]⟩
        exact Rpa.mono (fun g hg => hsh g hg) _ (Rpa.app r3 x3)
      · by_cases h2 : s = u
        · subst h2
          simp only [upd, h1, if_false, if_true]
          trivial
        · simp only [upd, h1, h2, if_false]
          have e2 : u ≠ s := fun h => h2 h.symm
          have hs2 : ∀ g r, ρ g = .sl u r → ρ' g = .sl u r ∧ w'.heap[g]? = w.heap[g]? := fun g r hg =>
            ⟨by rw [hkeep g (by simp [hg]) (by simp [hg, e2]), hg], hsame g (hI.lt g (by simp [hg])) (by simp [hg, e2])⟩
          have hb2 : ∀ k g, ρ g = .bx k → ρ' g = .bx k ∧ w'.heap[g]? = w.heap[g]? := fun k g hg =>
            ⟨by rw [hkeep g (by simp [hg]) (by simp [hg]), hg], hsame g (hI.lt g (by simp [hg])) (by simp [hg])⟩
          refine (hI1.slot u).keep hI1 hsh hs2 (hb2 u) (fun s' hs' => ?_) (.inl kill_nwk)
          have hs1 : s' ≠ s := by rintro rfl; exact free_ne hs'
          have hd1 : s' ≠ d := by
            rintro rfl
            have := hI1.slot u
            have hown' : owner (E s') = true := by
              rcases kill_less (E := E) (f := refersTo s) (fun s h => refersTo_owner s h) hI u with h | ⟨h, _⟩
              · unfold free at hs'; rw [h] at hs'; simp [refers] at hs'
              · have h5 := hI.slot u
                unfold free at hs'
                rw [h] at hs'
                cases hE' : E u with
                | ref s2 p => rw [hE'] at h5 hs'; simp only [refers, Option.some.injEq] at hs'; subst hs'; obtain ⟨x, b, h1, _⟩ := h5; simp [h1, owner]
                | view s2 p => rw [hE'] at h5 hs'; simp only [refers, Option.some.injEq] at hs'; subst hs'; obtain ⟨_, _, _, _, h1⟩ := h5; rcases h1 with ⟨h1, _⟩ | ⟨x, b, h1, _⟩ <;> simp [h1, owner]
                | elt s2 p i q => rw [hE'] at h5 hs'; simp only [refers, Option.some.injEq] at hs'; subst hs'; obtain ⟨_, _, _, _, _, _, _, h1, _⟩ := h5; rcases h1 with ⟨h1, _⟩ | ⟨x, b, h1, _⟩ <;> simp [h1, owner]
                | sub s2 p i q => rw [hE'] at h5 hs'; simp only [refers, Option.some.injEq] at hs'; subst hs'; obtain ⟨_, _, _, _, _, _, _, h1, _⟩ := h5; rcases h1 with ⟨h1, _⟩ | ⟨x, b, h1, _⟩ <;> simp [h1, owner]
                | _ => rw [hE'] at hs'; simp [refers] at hs'
            rw [hod] at hown'; cases hown'
          refine ⟨by simp [upd, hs1.symm, hd1.symm], by rw [getD_put _ _ _ _ hd', if_neg hd1.symm], fun g hg => (hb2 s' g hg).2⟩

end
end Go.Dat
