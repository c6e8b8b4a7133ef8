/- Parts of own slices are written over: copy, clear; a slice is cut short. No conditions. -/
import Derived.Test.YtopmpbdjnkomoaaK24
namespace Go.Dat

variable [Tables]

variable {P : Program} {Θ : TypeId → TI} {n : Nat} {ρ ρ' : Nat → Tag} {w w' : World} {tmps : Array Value} {E E' : Nat → Slot} {t : Nat} {u : Value}

/-- Places in elements of the own slice in slot s. -/
def isElt (s : Nat) : Slot → Bool
  | .elt s' _ _ _ => s' == s
  | _ => false

omit [Tables] in
theorem isElt_owner {s} (x : Slot) (h : isElt s x = true) : owner x = false := by cases x <;> simp_all [isElt, owner]

/-- An own slice's elements are others, as many. -/
theorem Inv.recell {s nl e es xs xs' g l c} (hI : Inv n ρ w tmps E) (hE : E s = .d (.own nl e es xs)) (hv : tmps.getD s undef = .slice (some ⟨g, 0, none⟩) l c) (hg : ρ g = .sl s []) (hheap : ∀ b, b ≠ g → w'.heap[b]? = w.heap[b]?) (hsz : w'.heap.size = w.heap.size)
    (hnew : ROwn ρ w' (.sl s []) nl e es xs' (.slice (some ⟨g, 0, none⟩) l c)) (hl : xs'.length = xs.length) : Inv n ρ w' tmps (upd (kill (isElt s) E) s (.d (.own nl e es xs'))) := by
  have hsh : ∀ b, ρ b = .sh → ρ b = .sh ∧ w'.heap[b]? = w.heap[b]? := fun b hb => ⟨hb, hheap b (by rintro rfl; rw [hg] at hb; cases hb)⟩
  have hbx : ∀ t b, ρ b = .bx t → ρ b = .bx t ∧ w'.heap[b]? = w.heap[b]? := fun t b hb => ⟨hb, hheap b (by rintro rfl; rw [hg] at hb; cases hb)⟩
  refine ⟨hI.size, fun b hb => by rw [hsz]; exact hI.lt b hb, hI.tab.mono hsh, fun u => ?_⟩
  by_cases h1' : s = u
  · subst h1'
    simp only [upd, if_true]
    rw [hv]
    exact RV.ofOwn hnew
  · simp only [upd, h1', if_false]
    by_cases hun : kill (isElt s) E u = .un
    · rw [hun]; trivial
    obtain ⟨k1, k2⟩ := kill_eq hun
    rw [k1]
    have hslot := hI.slot u
    have hown' : ∀ {p nl' e' es' xs0 v}, OwnAt w tmps E s p nl' e' es' xs0 v → p = [] ∧ nl' = nl ∧ e' = e ∧ es' = es ∧ xs0 = xs ∧
        OwnAt w' tmps (upd (kill (isElt s) E) s (.d (.own nl e es xs'))) s p nl e es xs' v := by
      intro p nl' e' es' xs0 v h
      rcases h with ⟨q1, q2, q3⟩ | ⟨x', b', q1, _⟩
      · rw [hE] at q1; cases q1
        exact ⟨q2, rfl, rfl, rfl, rfl, .inl ⟨by simp [upd], q2, q3⟩⟩
      · rw [hE] at q1; cases q1
    by_cases hr : refers (E u) = some s
    · cases hEu : E u with
      | ref s' q' =>
        rw [hEu] at hr hslot
        simp only [refers, Option.some.injEq] at hr
        subst hr
        obtain ⟨x', b', q1, _⟩ := hslot
        rw [hE] at q1; cases q1
      | view s' q' =>
        rw [hEu] at hr hslot
        simp only [refers, Option.some.injEq] at hr
        subst hr
        obtain ⟨nl', e', es', xs0, h⟩ := hslot
        exact ⟨_, _, _, _, (hown' h).2.2.2.2.2⟩
      | elt s' p' i' q' =>
        rw [hEu] at hr k2
        simp only [refers, Option.some.injEq] at hr
        subst hr
        simp [isElt] at k2
      | sub s' p' i' j' =>
        rw [hEu] at hr hslot
        simp only [refers, Option.some.injEq] at hr
        subst hr
        obtain ⟨nl', e', es', xs0, a', l', c', h, t1, t2, t3⟩ := hslot
        obtain ⟨rfl, rfl, rfl, rfl, rfl, hnew'⟩ := hown' h
        exact ⟨_, _, _, _, _, _, _, hnew', t1, by omega, t3⟩
      | _ => rw [hEu] at hr; simp [refers] at hr
    · refine hslot.keep hI hsh (fun b r hb => ⟨hb, hheap b (by rintro rfl; rw [hg] at hb; cases hb; exact h1' rfl)⟩) (hbx u) (fun s' hs' => ?_) (.inl (by rw [← k1]; exact kill_nwk))
      have h2' : s' ≠ s := by rintro rfl; exact hr hs'
      have ho' := hI.refOwner hs'
      have h4' : isElt s (E s') = false := by
        cases hb : isElt s (E s') with
        | false => rfl
        | true => have := isElt_owner _ hb; rw [this] at ho'; cases ho'
      exact ⟨by simp [upd, h2'.symm, kill, h4', isWk_owner ho'], rfl, fun b hb => (hbx s' b hb).2⟩

omit [Tables] in
theorem Rpa.ones {S : Nat → Prop} {es : Nat} : ∀ {xs : List D} {vs : List Value}, Rpa S w es xs vs → ∀ u ∈ vs, u.oneCell' = true
  | [], vs, h, u, hu => by simp only [Rpa] at h; subst h; cases hu
  | x :: xs, vs, h, u, hu => by
    simp only [Rpa] at h
    obtain ⟨c, y, rfl, _, h2, h3⟩ := h
    rcases List.mem_append.1 hu with hu | hu
    · exact Rp.one x h2 u hu
    · exact Rpa.ones h3 u hu

/-- Cells are written into a part of an own slice. -/
theorem Inv.splice {s i nl e es xs ys} {cs : List Value} (hI : Inv n ρ w tmps E) (hE : E s = .d (.own nl e es xs)) (hy : Rpa (sh ρ) w es ys cs) (hc : cs.length = ys.length * es) (hi : i + ys.length ≤ xs.length) (h0 : 0 < ys.length) :
    ∃ g l c w', tmps.getD s undef = .slice (some ⟨g, 0, none⟩) l c ∧ (storeCells ⟨g, es * i, none⟩ cs).run P w = .ok () w' ∧ Fr ρ w ρ w' ∧
      Inv n ρ w' tmps (upd (kill (isElt s) E) s (.d (.own nl e es (xs.take i ++ (ys ++ xs.drop (i + ys.length)))))) := by
  have h1 := hI.slot s
  rw [hE] at h1
  obtain ⟨cells, ⟨o1, o2⟩, o3, o4, o5⟩ := RV.own h1
  rcases o2 with ⟨_, o2⟩ | ⟨g, cap, cur, o2, _, p1, p2, p3, p4, p5⟩
  · omega
  have hg : ρ g = .sl s [] := o5 g (by rw [o2]; rfl)
  have hsp : xs = xs.take i ++ ((xs.drop i).take ys.length ++ xs.drop (i + ys.length)) := by
    rw [← List.drop_drop, List.take_append_drop, List.take_append_drop]
  have o3' := o3
  rw [hsp] at o3'
  obtain ⟨A, r, rfl, q2, q3, q4⟩ := o3'.split
  obtain ⟨M, B, rfl, q6, q7, q8⟩ := q4.split
  have hA : A.length = es * i := by rw [q2, List.length_take, Nat.min_eq_left (by omega), Nat.mul_comm]
  have hM : M.length = cs.length := by rw [q6, hc, List.length_take, List.length_drop, Nat.min_eq_left (by omega)]
  generalize hR : cur.toList.drop (xs.length * es) = R
  have hcurl : cur.toList = A ++ M ++ (B ++ R) := by
    have h := List.take_append_drop (xs.length * es) cur.toList
    rw [p5, hR] at h
    rw [← h]
    simp
  have hst := run_storeCells_at P g (es * i) e cs 0 cur w p1 (by
    have := congrArg List.length hcurl
    simp only [List.length_append, Array.length_toList] at this
    omega) (Rpa.ones hy)
  have hcells : cur.toList.take (es * i + 0) ++ cs ++ cur.toList.drop (es * i + 0 + cs.length) = A ++ cs ++ (B ++ R) := by
    rw [Nat.add_zero, ← hA, ← hM, hcurl]
    exact mid_splice _ _ _ _
  rw [hcells] at hst
  generalize hW : w.setRow g (A ++ cs ++ (B ++ R)).toArray = w' at hst
  have hheap : ∀ b, b ≠ g → w'.heap[b]? = w.heap[b]? := fun b hb => by rw [← hW]; exact setRow_other w g b _ hb
  have hnb : w'.heap[g]? = some (.cells (A ++ cs ++ (B ++ R)).toArray e (0, 0)) := by rw [← hW]; exact setRow_heap w g _ _ e _ p1
  have hsh : ∀ b, sh ρ b → sh ρ b ∧ w'.heap[b]? = w.heap[b]? := fun b hb => ⟨hb, hheap b (by rintro rfl; simp [sh, hg] at hb)⟩
  have hlen : (xs.take i ++ (ys ++ xs.drop (i + ys.length))).length = xs.length := by simp; omega
  refine ⟨g, xs.length, cap, w', o2, hst, ⟨fun _ h => h, fun _ _ h => h, fun b _ hb => hheap b (by rintro rfl; rw [hg] at hb; rcases hb with h | h <;> cases h), by rw [← hW]; rfl, by rw [← hW]; rfl, by rw [← hW]; rfl, by rw [← hW]; simp⟩, ?_⟩
  refine hI.recell hE o2 hg hheap (by rw [← hW]; simp) ?_ hlen
  refine ⟨A ++ (cs ++ B), ⟨?_, .inr ⟨g, cap, _, by rw [hlen], Nat.zero_le _, hnb, by omega, p3, ?_, ?_⟩⟩, ?_, by rw [o2] at o4; exact o4, by rw [o2] at o5; exact o5⟩
  · rw [hlen, ← o1]; simp [hM]
  · have := congrArg List.length hcurl
    simp only [List.length_append, Array.length_toList] at this
    simp only [List.size_toArray, List.length_append]
    omega
  · rw [hlen]
    have hl : (A ++ (cs ++ B)).length = xs.length * es := by rw [← o1]; simp [hM]
    rw [← hl]
    have : A ++ cs ++ (B ++ R) = (A ++ (cs ++ B)) ++ R := by simp
    simp only [this]
    exact List.take_left
  · exact Rpa.app (Rpa.mono hsh _ q3) (Rpa.app (Rpa.mono hsh _ hy) (Rpa.mono hsh _ q8))

/-- A part of an own slice, as an operand. -/
inductive Part (E : Nat → Slot) (s : Nat) (n : Nat) : Nat → Nat → Nat → Prop
  | sub {q i j} : E q = .sub s [] i j → Part E s n q i j
  | view {q} : (q = s ∨ E q = .view s []) → Part E s n q 0 n

theorem Part.sound {a : Act} {q i j s nl e es xs} (hI : Inv n ρ w a.tmps E) (hE : E s = .d (.own nl e es xs)) (h : Part E s xs.length q i j) :
    i ≤ j ∧ j ≤ xs.length ∧ ∃ ad c, a.eval (.tmp q) = .slice ad (j - i) c ∧ (i < j → ∃ g l c, a.tmps.getD s undef = .slice (some ⟨g, 0, none⟩) l c ∧ ad = some ⟨g, es * i, none⟩) := by
  have own : ∀ {v}, OwnAt w a.tmps E s [] nl e es xs v → v = a.tmps.getD s undef := fun h => by
    rcases h with ⟨_, _, h⟩ | ⟨x, b, h, _⟩
    · exact h
    · rw [hE] at h; cases h
  cases h with
  | sub h =>
    have h1 := hI.slot q
    rw [h] at h1
    obtain ⟨nl', e', es', xs', ad, l, c, k1, k2, k3, a', c', k4, k5⟩ := h1
    have k0 : nl' = nl ∧ e' = e ∧ es' = es ∧ xs' = xs := by
      rcases k1 with ⟨q1, _⟩ | ⟨x, b, q1, _⟩ <;> rw [hE] at q1 <;> cases q1
      simp
    obtain ⟨rfl, rfl, rfl, rfl⟩ := k0
    refine ⟨k2, k3, a', c', k4, fun hij => ?_⟩
    obtain ⟨g, rfl, rfl⟩ := k5 hij
    exact ⟨g, l, c, (own k1).symm, rfl⟩
  | view h =>
    have hown : OwnAt w a.tmps E s [] nl e es xs (a.tmps.getD q undef) := by
      rcases h with rfl | h
      · exact .inl ⟨hE, rfl, rfl⟩
      · have h1 := hI.slot q
        rw [h] at h1
        obtain ⟨nl', e', es', xs', h1⟩ := h1
        have k0 : nl' = nl ∧ e' = e ∧ es' = es ∧ xs' = xs := by
          rcases h1 with ⟨q1, _⟩ | ⟨x, b, q1, _⟩ <;> rw [hE] at q1 <;> cases q1
          simp
        obtain ⟨rfl, rfl, rfl, rfl⟩ := k0
        exact h1
    obtain ⟨cells, ⟨o1, o2⟩, _⟩ := hown.own hI
    refine ⟨Nat.zero_le _, Nat.le_refl _, ?_⟩
    rcases o2 with ⟨o2, o3⟩ | ⟨g, cap, cur, o2, _⟩
    · refine ⟨none, 0, ?_, fun h => by omega⟩
      show a.tmps.getD q undef = _
      rw [o2, o3]
    · refine ⟨some ⟨g, 0, none⟩, cap, ?_, fun _ => ⟨g, xs.length, cap, ?_, rfl⟩⟩
      · show a.tmps.getD q undef = _
        rw [o2]; rfl
      · rw [← own hown, o2]

/-- copy(part, src). -/
theorem RawOp.copy {o : Oper} {d q s i j : Nat} {x : Operand} {T T2 : TypeId} {nl e es xs ys b} (hΘ : Agree P Θ) (hd : o.dst = some d) (hn : d < n) (hod : owner (E d) = false) (ho : o.op = .call { callee := .builtin .copy, args := #[.tmp q, x], argTypes := #[T, T2] })
    (hE : E s = .d (.own nl e es xs)) (hq : Part E s xs.length q i j) (hx : Src E x es ys) (ht : (Θ T).td = .sl e es b) :
    RawOp P n E o (upd (upd (kill (isElt s) E) s (.d (.own nl e es (xs.take i ++ (ys.take (min ys.length (j - i)) ++ xs.drop (i + min ys.length (j - i))))))) d (.d (.v (.int .i64 ((min ys.length (j - i) : Nat) : Int))))) := by
  intro ρ w a Q hI
  obtain ⟨hu, iT, z, i1, i2, i3, i4, i5, i6⟩ := hΘ.says ht
  obtain ⟨k1, k2, ad, c, k3, k4⟩ := hq.sound hI hE
  obtain ⟨ad2, c2, news, g1, g2, g3, g4⟩ := hx.sound hI
  have hds : d ≠ s := by rintro rfl; rw [hE] at hod; cases hod
  have hsz : (sizeOf e).run P w = .ok es w := by simp [sizeOf, typeInfo, i1, i2]
  generalize hm : min ys.length (j - i) = m
  have hkill : owner (upd (kill (isElt s) E) s (.d (.own nl e es (xs.take i ++ (ys.take m ++ xs.drop (i + m))))) d) = false := by
    simp only [upd, hds.symm, if_false, kill]
    split
    · rfl
    · exact hod
  have hd' : d < a.tmps.size := by rw [hI.size]; exact hn
  have hmin : Nat.min ys.length (j - i) = m := hm
  by_cases h0 : m = 0
  · have hfc : (Builtin.firstCells es 0 (.slice ad2 ys.length c2)).run P w = .ok #[] w := by
      cases ad2 with
      | none => simp [Builtin.firstCells]
      | some a2 => have := run_firstCells_some (P := P) (w := w) es 0 a2 ys.length c2 [] (by simp) (by simp); simpa using this
    have hI' : Inv n ρ w a.tmps (upd (kill (isElt s) E) s (.d (.own nl e es (xs.take i ++ (ys.take m ++ xs.drop (i + m)))))) := by
      have he : upd (kill (isElt s) E) s (.d (.own nl e es (xs.take i ++ (ys.take m ++ xs.drop (i + m))))) = kill (isElt s) E := by
        funext u
        simp only [upd]
        split
        · next h => subst h; rw [h0]; simp [kill, hE, isElt, isWk]
        · rfl
      rw [he]
      exact hI.less (kill_less (fun s' h => isElt_owner s' h) hI)
    refine oper_val (v := .int .i64 ((m : Nat) : Int)) (w' := w) ?_ ?_
    · have hl : (Builtin.lenOf (.slice ad2 ys.length c2)).run P w = .ok ys.length w := by simp [Builtin.lenOf]
      have hst : (if let some a := ad then storeCells a [] 0 else pure () : Sem Unit).run P w = .ok () w := by cases ad <;> simp [storeCells]
      simp only [execOp, ho, resolve, invoke, builtin, Sem.run_bind, Sem.run_pure, Result.andThen_ok, List.map_toArray, List.map_cons, List.map_nil, k3, g1, Builtin.copy_]
      simp only [List.getElem?_toArray, List.getElem?_cons_zero, List.getElem?_cons_succ, Sem.run_bind, run_underlying hu, Result.andThen_ok, hl, hmin, h0, hsz, hfc]
      cases ad <;> simp [storeCells, goInt]
    · rw [put_some hd]
      exact ⟨rfl, ρ, Fr.refl _ _, hI'.put hn hkill (RD.ofV rfl).rv⟩
  · have hij : i < j := by omega
    obtain ⟨g, l, c', q1, rfl⟩ := k4 hij
    have hy : ys ≠ [] := by rintro rfl; simp at hm; omega
    obtain ⟨b2, o2, rfl, hmem⟩ := g4.resolve_left hy
    have hyl : (ys.take m).length = m := by rw [List.length_take]; omega
    have hsp : ys = ys.take m ++ ys.drop m := (List.take_append_drop m ys).symm
    rw [hsp] at g3
    obtain ⟨A, B, rfl, r1, r2, r3⟩ := g3.split
    rw [hyl] at r1
    obtain ⟨g', l', c'', w', t1, t2, t3, t4⟩ := hI.splice (P := P) (i := i) hE r2 (by rw [r1, hyl]) (by rw [hyl]; omega) (by rw [hyl]; omega)
    rw [q1] at t1
    cases t1
    rw [hyl] at t4
    have hfc : (Builtin.firstCells es m (.slice (some ⟨b2, o2, none⟩) ys.length c2)).run P w = .ok A.toArray w :=
      run_firstCells_some (P := P) (w := w) es m _ _ _ A r1 (Mem.at (Mem.app.1 hmem).1)
    refine oper_val (v := .int .i64 ((m : Nat) : Int)) (w' := w') ?_ ?_
    · have hl : (Builtin.lenOf (.slice (some ⟨b2, o2, none⟩) ys.length c2)).run P w = .ok ys.length w := by simp [Builtin.lenOf]
      simp only [execOp, ho, resolve, invoke, builtin, Sem.run_bind, Sem.run_pure, Result.andThen_ok, List.map_toArray, List.map_cons, List.map_nil, k3, g1, Builtin.copy_]
      simp only [List.getElem?_toArray, List.getElem?_cons_zero, List.getElem?_cons_succ, Sem.run_bind, run_underlying hu, Result.andThen_ok, hl, hmin, hsz, hfc, t2, Sem.run_pure, goInt]
    · rw [put_some hd]
      exact ⟨rfl, ρ, t3, t4.put hn hkill (RD.ofV rfl).rv⟩

/-- clear(part). -/
theorem RawOp.clear {o : Oper} {q s i j : Nat} {T : TypeId} {nl e es xs b} {z : D} (hΘ : Agree P Θ) (hd : o.dst = none) (ho : o.op = .call { callee := .builtin .clear, args := #[.tmp q], argTypes := #[T] })
    (hE : E s = .d (.own nl e es xs)) (hq : Part E s xs.length q i j) (ht : (Θ T).td = .sl e es b) (hk : (Θ e).known = true) (hz : (Θ e).z = z) :
    RawOp P n E o (upd (kill (isElt s) E) s (.d (.own nl e es (xs.take i ++ (List.replicate (j - i) z ++ xs.drop j))))) := by
  intro ρ w a Q hI
  obtain ⟨hu, iT, z', i1, i2, i3, i4, i5, i6⟩ := hΘ.says ht
  obtain ⟨i', v', z1, z2, z3, z4, z5, z6⟩ := (hΘ e hk).info
  rw [i1] at z1; cases z1
  rw [i4] at z3; cases z3
  rw [hz] at z4 z5 z6
  obtain ⟨k1, k2, ad, c, k3, k4⟩ := hq.sound hI hE
  by_cases h0 : j - i = 0
  · have hij : i = j := by omega
    have hI' : Inv n ρ w a.tmps (upd (kill (isElt s) E) s (.d (.own nl e es (xs.take i ++ (List.replicate (j - i) z ++ xs.drop j))))) := by
      have he : upd (kill (isElt s) E) s (.d (.own nl e es (xs.take i ++ (List.replicate (j - i) z ++ xs.drop j)))) = kill (isElt s) E := by
        funext u
        simp only [upd]
        split
        · next h => subst h; rw [h0, hij]; simp [kill, hE, isElt, isWk]
        · rfl
      rw [he]
      exact hI.less (kill_less (fun s' h => isElt_owner s' h) hI)
    refine oper_val (v := .tuple #[]) (w' := w) ?_ ?_
    · simp only [execOp, ho, resolve, invoke, builtin, Sem.run_bind, Sem.run_pure, Result.andThen_ok, List.map_toArray, List.map_cons, List.map_nil, k3, h0, Builtin.clear_]
      cases ad <;> simp [run_underlying hu]
    · rw [put_none hd]
      exact ⟨rfl, ρ, Fr.refl _ _, hI'⟩
  · obtain ⟨g, l, c', q1, rfl⟩ := k4 (by omega)
    have hcells : (Builtin.zeroCells z'.cells (j - i)).toList = (List.replicate (j - i) z'.cells.toList).flatten := made_list z'.cells (by omega) (j - i)
    have hy : Rpa (sh ρ) w es (List.replicate (j - i) z) (Builtin.zeroCells z'.cells (j - i)).toList := by
      rw [hcells, z4]
      exact Rpa.replicate (Rp.konst z z6) (by rw [← z4]; simpa using i5) _
    have hlen : (List.replicate (j - i) z).length = j - i := List.length_replicate
    obtain ⟨g', l', c'', w', t1, t2, t3, t4⟩ := hI.splice (P := P) (i := i) hE hy (by rw [hlen, hcells]; simp [i5]) (by rw [hlen]; omega) (by rw [hlen]; omega)
    rw [q1] at t1
    cases t1
    rw [hlen, show i + (j - i) = j by omega] at t4
    refine oper_val (v := .tuple #[]) (w' := w') ?_ ?_
    · have hzv : (zeroValue e).run P w = .ok z' w := by simp [zeroValue, typeInfo, i1, i4]
      obtain ⟨m, hm⟩ : ∃ m, j - i = m + 1 := ⟨j - i - 1, by omega⟩
      rw [hm] at t2
      simp only [execOp, ho, resolve, invoke, builtin, Sem.run_bind, Sem.run_pure, Result.andThen_ok, List.map_toArray, List.map_cons, List.map_nil, k3, Builtin.clear_]
      simp [run_underlying hu, hzv, hm, t2]
    · rw [put_none hd]
      exact ⟨rfl, ρ, t3, t4⟩

end Go.Dat
