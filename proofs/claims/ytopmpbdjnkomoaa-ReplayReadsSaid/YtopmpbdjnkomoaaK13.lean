/- Stores into elements of an own slice; every step is sound. No conditions. -/
import Derived.Test.YtopmpbdjnkomoaaK12
namespace Go.Dat

variable [Tables]

variable {P : Program} {Θ : TypeId → TI} {n : Nat} {ρ ρ' ρ'' : Nat → Tag} {w w' w'' : World} {tmps tmps' : Array Value} {E E' : Nat → Slot} {t : Nat} {u : Value}

omit [Tables] in
/-- A part of a shared datum is replaced by one as large. -/
theorem Rp.put {S : Nat → Prop} {p : List Nat} {d y : D} {cs ys : List Value} (h : Rp S w d cs) (hk : d.okp p) (hy : Rp S w y ys) (hs : y.size = (d.get p).size) :
    ∃ a m b, cs = a ++ m ++ b ∧ a.length = d.off p ∧ m.length = ys.length ∧ Rp S w (d.set p y) (a ++ ys ++ b) := by
  classical
  obtain ⟨a, m, b, e1, e2, e3, e4⟩ := RB.lens (ρ := tagS S) (t := 0) (q := []) p d (RB.ofRp (by rw [sh_tagS]; exact h)) hk
  have hl : ys.length = m.length := by rw [Rp.len y hy, hs, RB.len _ e3]
  have h5 := e4 (tagS S) w ⟨fun _ h => ⟨h, rfl⟩, fun _ _ _ _ => ⟨rfl, rfl⟩⟩ y ys hl (RB.ofRp (by rw [sh_tagS]; exact hy))
  refine ⟨a, m, b, e1, e2, hl.symm, ?_⟩
  have := (RB.plain (d.set p y) (set_noOwn p d (Rp.noOwn d h) (Rp.noOwn y hy))).1 h5
  rwa [sh_tagS] at this
where
  set_noOwn {y : D} : ∀ (p : List Nat) (d : D), d.noOwn = true → y.noOwn = true → (d.set p y).noOwn = true
    | [], d, _, h => by simpa [D.set] using h
    | i :: p, .st ds, h, hy => by
      simp only [D.noOwn] at h
      simp only [D.set, D.noOwn]
      exact sets ds i h (set_noOwn p _ (Rp.part.nth ds i h) hy)
    | i :: p, .arr _ ds, h, hy => by
      simp only [D.noOwn] at h
      simp only [D.set, D.noOwn]
      exact sets ds i h (set_noOwn p _ (Rp.part.nth ds i h) hy)
    | _ :: _, .v _, h, _ => by simpa [D.set] using h
    | _ :: _, .lst _ _ _, h, _ => by simpa [D.set] using h
    | _ :: _, .own _ _ _ _, h, _ => by simpa [D.set] using h
    | _ :: _, .fn _ _ _, h, _ => by simpa [D.set] using h
    | _ :: _, .pt _, h, _ => by simpa [D.set] using h
    | _ :: _, .dead _, h, _ => by simpa [D.set] using h
    | _ :: _, .tup _, h, _ => by simpa [D.set] using h
  sets : ∀ (ds : List D) (i : Nat) {z : D}, noOwns ds = true → z.noOwn = true → noOwns (ds.set i z) = true
    | [], _, _, h, _ => by simpa using h
    | d :: ds, 0, z, h, hz => by simp only [noOwns, Bool.and_eq_true] at h; simp [noOwns, hz, h.2]
    | d :: ds, i + 1, z, h, hz => by simp only [noOwns, Bool.and_eq_true] at h; simp [noOwns, h.1, sets ds i h.2 hz]

omit [Tables] in
theorem mid_splice (p m u r : List Value) : (p ++ m ++ r).take p.length ++ u ++ (p ++ m ++ r).drop (p.length + m.length) = p ++ u ++ r := by
  rw [List.append_assoc p m r, List.take_left, ← List.drop_drop, List.drop_left, List.drop_left]

section
variable {a : Act} {o : Oper} {Q : Exit → Act → World → Prop}

theorem step_elt {T k s i q nl e es xs y} {x : Operand} (hΘ : Agree P Θ) (hI : Inv n ρ w a.tmps E) (hd : o.dst = none) (ho : o.op = .store T (.tmp k) x) (hk : E k = .elt s [] i q)
    (hE : E s = .d (.own nl e es xs)) (hx : OpD E x y) (hf : (Θ T).fits y = true) (hsz : y.size = ((xs.getD i un).get q).size) :
    o.wp P a w (After n ρ w a (upd (kill (belowE s i q) E) s (.d (.own nl e es (xs.set i ((xs.getD i un).set q y)))))) Q := by
  obtain ⟨g, l, c, h1, h2, h3, h4⟩ := Elt.sound hI (show Elt E k s [] i q nl e es xs from ⟨hk, .inl hE⟩)
  obtain ⟨cells, ⟨o1, o2⟩, o3, o4, o5⟩ := h1.own hI
  have hg : ρ g = .sl s [] := o5 g rfl
  have htv : a.tmps.getD s undef = .slice (some ⟨g, 0, none⟩) l c := by
    rcases h1 with ⟨_, _, h⟩ | ⟨x', b, h, _⟩
    · exact h.symm
    · rw [hE] at h; cases h
  rcases o2 with ⟨o2, _⟩ | ⟨g', cap, cur, o2, _, p1, p2, p3, p4, p5⟩
  · cases o2
  cases o2
  obtain ⟨A, M, B, r1, r2, r3, r4, r5⟩ := Rpa.lens i xs o3 h2
  have hc := (hx.sound hI).cells
  have hul := Rp.len y hc
  have hone := Rp.one y hc
  obtain ⟨a2, m2, b2, s1, s2, s3, s4⟩ := Rp.put r4 h3 hc hsz
  simp only [TI.fits, Bool.and_eq_true, beq_iff_eq] at hf
  have hsize := sizeOf_run (P := P) (w := w) (hΘ T hf.1.1)
  have hlen : (a.eval x).cells.size = (Θ T).n := by rw [← Array.length_toList, hul, hf.2]
  generalize hR : cur.toList.drop (xs.length * es) = R
  have hle : xs.length * es ≤ cur.toList.length := by
    have := congrArg List.length p5
    rw [List.length_take, o1] at this
    omega
  have hcurl : cur.toList = (A ++ a2) ++ m2 ++ (b2 ++ B ++ R) := by
    have h := List.take_append_drop (xs.length * es) cur.toList
    rw [p5, hR, r1, s1] at h
    rw [← h]
    simp
  have hoff : es * i + (xs.getD i un).off q = (A ++ a2).length := by rw [List.length_append, r2, s2]
  generalize hU : (a.eval x).cells.toList = ucs at *
  have hst := run_storeCells_at P g (es * i + (xs.getD i un).off q) e ucs 0 cur w p1 (by
    have := congrArg List.length hcurl
    simp only [List.length_append, Array.length_toList] at this
    rw [hoff, List.length_append]
    omega) hone
  have hcells : cur.toList.take (es * i + (xs.getD i un).off q + 0) ++ ucs ++ cur.toList.drop (es * i + (xs.getD i un).off q + 0 + ucs.length) = (A ++ a2) ++ ucs ++ (b2 ++ B ++ R) := by
    rw [Nat.add_zero, hoff, ← s3, hcurl]
    exact mid_splice _ _ _ _
  rw [hcells] at hst
  generalize hW : w.setRow g ((A ++ a2) ++ ucs ++ (b2 ++ B ++ R)).toArray = w' at hst
  have hheap : ∀ b, b ≠ g → w'.heap[b]? = w.heap[b]? := fun b hb => by rw [← hW]; exact setRow_other w g b _ hb
  have hnb : w'.heap[g]? = some (.cells ((A ++ a2) ++ ucs ++ (b2 ++ B ++ R)).toArray e (0, 0)) := by rw [← hW]; exact setRow_heap w g _ _ e _ p1
  refine oper_skip (w' := w') ?_ ?_
  · have hszu : (a.eval x).cells.size = (Θ T).n := hlen
    simp only [execOp, ho, Instr.storeAt, eval_tmp, h4, Instr.sureAddr, storeVar, Sem.run_bind, Sem.run_pure, Result.andThen_ok, hsize, hszu, ne_eq, not_true_eq_false, if_false, hU, hst]
  rw [put_none hd]
  have hsh : ∀ b, ρ b = .sh → ρ b = .sh ∧ w'.heap[b]? = w.heap[b]? := fun b hb => ⟨hb, hheap b (by rintro rfl; rw [hg] at hb; cases hb)⟩
  have hbx : ∀ t b, ρ b = .bx t → ρ b = .bx t ∧ w'.heap[b]? = w.heap[b]? := fun t b hb => ⟨hb, hheap b (by rintro rfl; rw [hg] at hb; cases hb)⟩
  refine ⟨rfl, ρ, ⟨fun _ h => h, fun _ _ h => h, fun b _ hb => hheap b (by rintro rfl; rw [hg] at hb; rcases hb with h | h <;> cases h), by rw [← hW]; rfl, by rw [← hW]; rfl, by rw [← hW]; rfl, by rw [← hW]; simp⟩, ?_⟩
  have hnew : ROwn ρ w' (.sl s []) nl e es (xs.set i ((xs.getD i un).set q y)) (.slice (some ⟨g, 0, none⟩) xs.length c) := by
    refine ⟨A ++ (a2 ++ ucs ++ b2) ++ B, ⟨?_, .inr ⟨g, c, _, by simp, Nat.zero_le _, hnb, by simpa using p2, p3, ?_, ?_⟩⟩, ?_, by simpa using o4, by simpa using o5⟩
    · rw [List.length_set, ← o1, r1, s1]; simp [s3]
    · have := congrArg List.length hcurl
      simp only [List.length_append, Array.length_toList] at this
      rw [← p4, this]
      simp only [List.size_toArray, List.length_append]
      omega
    · have hl : (A ++ (a2 ++ ucs ++ b2) ++ B).length = (xs.set i ((xs.getD i un).set q y)).length * es := by rw [List.length_set, ← o1, r1, s1]; simp [s3]
      rw [← hl]
      have : (A ++ a2) ++ ucs ++ (b2 ++ B ++ R) = (A ++ (a2 ++ ucs ++ b2) ++ B) ++ R := by simp
      simp only [this]
      exact List.take_left
    · refine r5 (sh ρ) w' (fun b hb => hsh b hb) _ _ ?_ (Rp.mono (fun b hb => hsh b hb) _ s4)
      rw [← r3, s1]
      simp [s3]
  have hI1 := hI.less (kill_less (fun s' h => belowE_owner (s := s) (i := i) (q := q) s' h) hI)
  refine ⟨hI.size, fun b hb => by rw [← hW]; simpa using hI.lt b hb, hI.tab.mono hsh, fun u => ?_⟩
  by_cases h1' : s = u
  · subst h1'
    simp only [upd, if_true]
    rw [htv]
    exact RV.ofOwn hnew
  · simp only [upd, h1', if_false]
    by_cases hun : kill (belowE s i q) E u = .un
    · rw [hun]; trivial
    obtain ⟨k1, k2⟩ := kill_eq hun
    rw [k1]
    have hslot := hI.slot u
    have hown' : ∀ {p nl' e' es' xs' v}, OwnAt w a.tmps E s p nl' e' es' xs' v → p = [] ∧ nl' = nl ∧ e' = e ∧ es' = es ∧ xs' = xs ∧ v = .slice (some ⟨g, 0, none⟩) xs.length c ∧
        OwnAt w' a.tmps (upd (kill (belowE s i q) E) s (.d (.own nl e es (xs.set i ((xs.getD i un).set q y))))) s p nl e es (xs.set i ((xs.getD i un).set q y)) v := by
      intro p nl' e' es' xs' v h
      rcases h with ⟨q1, q2, q3⟩ | ⟨x', b', q1, _⟩
      · rw [hE] at q1; cases q1
        refine ⟨q2, rfl, rfl, rfl, rfl, by rw [q3, htv], .inl ⟨by simp [upd], q2, q3⟩⟩
      · rw [hE] at q1; cases q1
    by_cases hr : refers (E u) = some s
    · cases hEu : E u with
      | ref s' q' =>
        rw [hEu] at hr hslot
        simp only [refers, Option.some.injEq] at hr
        subst hr
        obtain ⟨x', b', q1, _⟩ := hslot
        rw [hE] at q1; cases q1
      | view s' q' =>
        rw [hEu] at hr hslot
        simp only [refers, Option.some.injEq] at hr
        subst hr
        obtain ⟨nl', e', es', xs', h⟩ := hslot
        exact ⟨_, _, _, _, (hown' h).2.2.2.2.2.2⟩
      | elt s' p' i' q' =>
        rw [hEu] at hr hslot k2
        simp only [refers, Option.some.injEq] at hr
        subst hr
        obtain ⟨nl', e', es', xs', g', l', c', h, t1, t2, t3⟩ := hslot
        obtain ⟨rfl, rfl, rfl, rfl, rfl, hv, hnew'⟩ := hown' h
        cases hv
        have hkey : ((xs'.set i ((xs'.getD i un).set q y)).getD i' un).okp q' ∧ ((xs'.set i ((xs'.getD i un).set q y)).getD i' un).off q' = (xs'.getD i' un).off q' := by
          by_cases hii : i = i'
          · subst hii
            rw [getD_set_eq h2]
            by_cases hqq : q = q'
            · subst hqq
              obtain ⟨z1, z2, _⟩ := D.set_at (y := y) q _ h3
              exact ⟨z1, z2⟩
            · have hn : ¬ q <+: q' := by
                intro hpre
                simp [belowE, List.isPrefixOf_iff_prefix.2 hpre, hqq] at k2
              obtain ⟨z1, z2, _⟩ := D.set_keep q _ q' h3 hsz hn t2
              exact ⟨z1, z2⟩
          · rw [getD_set_ne hii]
            exact ⟨t2, rfl⟩
        exact ⟨_, _, _, _, g, xs'.length, c, hnew', by simpa using t1, hkey.1, by rw [hkey.2]; exact t3⟩
      | sub s' p' i' j' =>
        rw [hEu] at hr hslot
        simp only [refers, Option.some.injEq] at hr
        subst hr
        obtain ⟨nl', e', es', xs', a', l', c', h, t1, t2, t3⟩ := hslot
        obtain ⟨rfl, rfl, rfl, rfl, rfl, hv, hnew'⟩ := hown' h
        cases hv
        exact ⟨_, _, _, _, _, _, c, hnew', t1, by simpa using t2, t3⟩
      | _ => rw [hEu] at hr; simp [refers] at hr
    · refine hslot.keep hI hsh (fun b r hb => ⟨hb, hheap b (by rintro rfl; rw [hg] at hb; cases hb; exact h1' rfl)⟩) (hbx u) (fun s' hs' => ?_) (.inl (by rw [← k1]; exact kill_nwk))
      have h2' : s' ≠ s := by rintro rfl; exact hr hs'
      have ho' := hI.refOwner hs'
      have h4' : belowE s i q (E s') = false := by
        cases hb : belowE s i q (E s') with
        | false => rfl
        | true => have := belowE_owner _ hb; rw [this] at ho'; cases ho'
      exact ⟨by simp [upd, h2'.symm, kill, h4', isWk_owner ho'], rfl, fun b hb => (hbx s' b hb).2⟩

theorem OpStep.sound {E' : Nat → Slot} (hΘ : Agree P Θ) (hI : Inv n ρ w a.tmps E) (h : OpStep P Θ n E o E') : o.wp P a w (After n ρ w a E') Q := by
  cases h with
  | ev h1 h2 h3 h4 => exact step_ev hΘ hI h1 h2 h3 h4
  | asg h1 h2 h3 h4 h5 => exact step_asg hI h1 h2 h3 h4 h5
  | app h1 h2 h3 h4 h5 h6 h7 h8 h9 h10 h11 => exact step_app hΘ hI h1 h2 h3 h4 h5 h6 h7 h8 h9 h10 h11
  | sto h1 h2 h3 h4 h5 h6 h7 => exact step_sto hΘ hI h1 h2 h3 h4 h5 h6 h7
  | elt h1 h2 h3 h4 h5 h6 h7 => exact step_elt hΘ hI h1 h2 h3 h4 h5 h6 h7
  | ext h1 h2 h3 h4 h5 h6 h7 h8 => exact step_ext hI h1 h2 h3 h4 h5 h6 h7 h8
  | raw h1 _ => exact h1 _ _ _ _ hI

end

omit [Tables] in
theorem kill_v {f : Slot → Bool} {d : Nat} {x : Value} (hf : ∀ s, f s = true → ∃ q, refers s = some q) (h : E d = .d (.v x)) : kill f E d = .d (.v x) := by
  unfold kill
  have : f (E d) = false := by
    cases hq : f (E d) with
    | false => rfl
    | true => obtain ⟨q, hq⟩ := hf _ hq; rw [h] at hq; cases hq
  rw [h] at this ⊢
  simp [this, isWk]

omit [Tables] in
theorem refersTo_some {s : Nat} (x : Slot) (h : refersTo s x = true) : ∃ q, refers x = some q := ⟨s, by simpa [refersTo] using h⟩
omit [Tables] in
theorem below_some {s : Nat} {p : List Nat} (x : Slot) (h : below s p x = true) : ∃ q, refers x = some q := by cases x <;> simp_all [below, refers]
omit [Tables] in
theorem belowE_some {s i : Nat} {p : List Nat} (x : Slot) (h : belowE s i p x = true) : ∃ q, refers x = some q := by cases x <;> simp_all [belowE, refers]

theorem OpStep.keeps {o : Oper} (h : OpStep P Θ n E o E') : Keeps E o E' := by
  intro u x hu hd
  cases h with
  | @ev d s h1 h2 h3 h4 =>
    have : d ≠ u := by rintro rfl; exact hd h1
    simp [upd, this, hu]
  | @asg d k nl e es xs h1 h2 h3 h4 h5 =>
    have h6 : d ≠ u := by rintro rfl; exact hd h1
    have h7 : k ≠ u := by rintro rfl; rw [h5] at hu; cases hu
    simp only [upd, h6, h7, if_false]
    exact kill_v refersTo_some (kill_v refersTo_some hu)
  | @app d k x' s T nl e es xs ys b h1 h2 h3 h4 h5 h6 h7 h8 h9 h10 h11 =>
    have g6 : d ≠ u := by rintro rfl; exact hd h1
    have g7 : s ≠ u := by rintro rfl; rw [h6] at hu; cases hu
    simp only [upd, g6, g7, if_false]
    exact kill_v refersTo_some hu
  | @sto T k x' s p X y h1 h2 h3 =>
    have g7 : s ≠ u := by rintro rfl; rw [h3.1] at hu; cases hu
    simp only [upd, g7, if_false]
    exact kill_v below_some hu
  | @elt T k x' s i q nl e es xs y h1 h2 h3 h4 =>
    have g7 : s ≠ u := by rintro rfl; rw [h4] at hu; cases hu
    simp only [upd, g7, if_false]
    exact kill_v belowE_some hu
  | @ext d k i ds nl e es xs h1 h2 h3 h4 h5 h6 =>
    have g6 : d ≠ u := by rintro rfl; exact hd h1
    have g7 : k ≠ u := by rintro rfl; rw [h6] at hu; cases hu
    simp only [upd, g6, g7, if_false]
    exact hu
  | raw _ h2 => exact h2 u x hu hd

end Go.Dat
