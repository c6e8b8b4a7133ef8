/- What each operation that leaves things alone yields is what the model's operation yields. No conditions. -/
import Derived.Test.YtopmpbdjnkomoaaK6
namespace Go.Dat

variable [Tables]

variable {P : Program} {Θ : TypeId → TI} {n : Nat} {ρ ρ' : Nat → Tag} {w w' : World} {E : Nat → Slot} {t : Nat} {u : Value}

omit [Tables] in
theorem Rpx.mem {S : Nat → Prop} {es : Nat} : ∀ {xs : List D} {a : Addr}, Rpx S w es a xs → ∃ cells, cells.length = xs.length * es ∧ Mem w a.block a.off cells ∧ Rpa S w es xs cells ∧ (xs ≠ [] → a.spot = none)
  | [], _, _ => ⟨[], by simp, trivial, by simp [Rpa], by simp⟩
  | x :: xs, a, h => by
    simp only [Rpx] at h
    obtain ⟨c, h1, h2, h3, h4, h5, h6⟩ := h
    obtain ⟨cs, g1, g2, g3, _⟩ := Rpx.mem h6
    refine ⟨c ++ cs, by simp [g1, h1, Nat.add_mul]; omega, ?_, ?_, fun _ => h2⟩
    · rw [Mem.app, h1]; exact ⟨h4, g2⟩
    · simp only [Rpa]; exact ⟨c, cs, rfl, h1, h5, g3⟩

omit [Tables] in
theorem Rpa.split {S : Nat → Prop} {es : Nat} : ∀ {xs ys : List D} {vs : List Value}, Rpa S w es (xs ++ ys) vs → ∃ a b, vs = a ++ b ∧ a.length = xs.length * es ∧ Rpa S w es xs a ∧ Rpa S w es ys b
  | [], _, vs, h => ⟨[], vs, rfl, by simp, by simp [Rpa], h⟩
  | x :: xs, _, vs, h => by
    simp only [List.cons_append, Rpa] at h
    obtain ⟨c, y, rfl, h1, h2, h3⟩ := h
    obtain ⟨a, b, rfl, g1, g2, g3⟩ := Rpa.split h3
    exact ⟨c ++ a, b, by simp, by simp [h1, g1, Nat.add_mul]; omega, by simp only [Rpa]; exact ⟨c, a, rfl, h1, h2, g2⟩, g3⟩

theorem Src.sound {a : Act} {x : Operand} {es : Nat} {ys : List D} (hI : Inv n ρ w a.tmps E) (h : Src E x es ys) :
    ∃ ad c news, a.eval x = .slice ad ys.length c ∧ news.length = ys.length * es ∧ Rpa (sh ρ) w es ys news ∧ (ys = [] ∨ ∃ b o, ad = some ⟨b, o, none⟩ ∧ Mem w b o news) := by
  cases h with
  | lst h =>
    obtain ⟨cs, h1, h2⟩ := h.sound hI
    simp only [Rp] at h1
    obtain ⟨ad, l, c, rfl, h3, h4⟩ := h1
    simp only [VC] at h2
    have he : a.eval x = .slice ad l c := by simpa using h2.symm
    rename_i k
    have hl : l = ys.length := by cases k <;> simp_all [Hdr]
    subst hl
    cases ad with
    | none =>
      have : ys = [] := by
        cases k <;> simp_all [Hdr]
      subst this
      exact ⟨none, c, [], he, by simp, by simp [Rpa], .inl rfl⟩
    | some ad =>
      obtain ⟨cells, g1, g2, g3, g4⟩ := (h4 ad rfl).mem
      refine ⟨some ad, c, cells, he, g1, g3, ?_⟩
      by_cases hy : ys = []
      · exact .inl hy
      · exact .inr ⟨ad.block, ad.off, by have := g4 hy; cases ad; simp_all, g2⟩
  | vw h =>
    rename_i k s p nl e
    have ho := (h.sound hI).own hI
    obtain ⟨cells, ⟨h1, h2⟩, h3, _⟩ := ho
    rcases h2 with ⟨h2, h2'⟩ | ⟨g, cap, cur, h2, _, h4, h5, h6, h7, h8⟩
    · refine ⟨none, 0, cells, ?_, h1, h3, .inl (List.eq_nil_of_length_eq_zero h2')⟩
      show a.tmps.getD k undef = _
      rw [h2, h2']
    · refine ⟨some ⟨g, 0, none⟩, cap, cells, ?_, h1, h3, .inr ⟨g, 0, rfl, ?_⟩⟩
      · show a.tmps.getD k undef = _
        rw [h2]
      · refine Mem.ofAt fun j v hj => ?_
        rw [cell_of_row w g _ _ _ _ h4, ← h8] at *
        rw [List.getElem?_take] at hj
        split at hj
        · simpa using hj
        · cases hj
  | @sub k s i j nl e es xs h g =>
    have h1 := hI.slot k
    rw [h] at h1
    obtain ⟨nl', e', es', xs', ad, l, c, k1, k2, k3, a', c', k4, k5⟩ := h1
    have k0 : nl' = nl ∧ e' = e ∧ es' = es ∧ xs' = xs := by
      rcases k1 with ⟨q1, _⟩ | ⟨x, b, q1, _⟩ <;> rw [g] at q1 <;> cases q1
      simp
    obtain ⟨rfl, rfl, rfl, rfl⟩ := k0
    obtain ⟨cells, ⟨h1, h2⟩, h3, _⟩ := k1.own hI
    have hlen : ((xs'.take j).drop i).length = j - i := by simp; omega
    have hsp : xs' = xs'.take i ++ ((xs'.take j).drop i ++ xs'.drop j) := by
      rw [← List.append_assoc]
      have h1 : xs'.take i = (xs'.take j).take i := by rw [List.take_take, Nat.min_eq_left k2]
      rw [h1, List.take_append_drop, List.take_append_drop]
    rw [hsp] at h3
    obtain ⟨A, r, q1, q2, q3, q4⟩ := h3.split
    obtain ⟨M, B, q5, q6, q7, q8⟩ := q4.split
    refine ⟨a', c', M, ?_, q6, q7, ?_⟩
    · show a.tmps.getD k undef = _
      rw [k4, hlen]
    · by_cases hij : i < j
      · right
        obtain ⟨g', rfl, rfl⟩ := k5 hij
        refine ⟨g', _, rfl, ?_⟩
        rcases h2 with ⟨h2, _⟩ | ⟨g2, cap, cur, h2, _, p1, p2, p3, p4, p5⟩
        · cases h2
        cases h2
        refine Mem.ofAt fun m v hm => ?_
        rw [cell_of_row w g' _ _ _ _ p1]
        have hcells : cells[es' * i + m]? = some v := by
          have hA : A.length = es' * i := by rw [q2, List.length_take, Nat.min_eq_left (by omega), Nat.mul_comm]
          rw [q1, q5, List.getElem?_append_right (by omega), hA, Nat.add_sub_cancel_left, List.getElem?_append_left]
          · exact hm
          · exact (List.getElem?_eq_some_iff.1 hm).1
        rw [← p5, List.getElem?_take] at hcells
        split at hcells
        · simpa using hcells
        · cases hcells
      · left
        exact List.eq_nil_of_length_eq_zero (by rw [hlen]; omega)

theorem OwnAt.elt {tmps : Array Value} {s : Nat} {p : List Nat} {nl e es xs g l c i} (hI : Inv n ρ w tmps E) (h : OwnAt w tmps E s p nl e es xs (.slice (some ⟨g, 0, none⟩) l c)) (hi : i < xs.length) :
    ∃ m, m.length = es ∧ Mem w g (es * i) m ∧ Rp (sh ρ) w (xs.getD i un) m := by
  obtain ⟨cells, ⟨h1, h2⟩, h3, _⟩ := h.own hI
  rcases h2 with ⟨h2, h2'⟩ | ⟨g', cap, cur, h2, _, h4, h5, h6, h7, h8⟩
  · simp at h2
  · cases h2
    obtain ⟨a, m, b, e1, e2, e3, e4, _⟩ := Rpa.lens i xs h3 hi
    refine ⟨m, e3, ?_, e4⟩
    have hm : Mem w g 0 cells := Mem.ofAt fun j v hj => by
      rw [cell_of_row w g _ _ _ _ h4, ← h8] at *
      rw [List.getElem?_take] at hj
      split at hj
      · simpa using hj
      · cases hj
    rw [e1, Mem.app, Mem.app] at hm
    have := hm.1.2
    rwa [Nat.zero_add, e2] at this

omit [Tables] in
/-- A part of shared cells. -/
theorem Rp.part {S : Nat → Prop} {p : List Nat} {d : D} {b o : Nat} {cs : List Value} (h : Rp S w d cs) (hm : Mem w b o cs) (hk : d.okp p) :
    ∃ m, Mem w b (o + d.off p) m ∧ Rp S w (d.get p) m ∧ m.length = (d.get p).size := by
  classical
  obtain ⟨a, m, c, e1, e2, e3, _⟩ := RB.lens (ρ := tagS S) (t := 0) (q := []) p d (RB.ofRp (by rw [sh_tagS]; exact h)) hk
  rw [e1, Mem.app, Mem.app] at hm
  have hno : (d.get p).noOwn = true := D.get_noOwn p d (Rp.noOwn d h)
  have h3 := (RB.plain _ hno).1 e3
  rw [sh_tagS] at h3
  exact ⟨m, by rw [← e2]; exact hm.1.2, h3, Rp.len _ h3⟩
where
  D.get_noOwn : ∀ (p : List Nat) (d : D), d.noOwn = true → (d.get p).noOwn = true
    | [], d, h => by simpa [D.get] using h
    | i :: p, .st ds, h => by simp only [D.get]; exact D.get_noOwn p _ (nth ds i (by simpa [D.noOwn] using h))
    | i :: p, .arr _ ds, h => by simp only [D.get]; exact D.get_noOwn p _ (nth ds i (by simpa [D.noOwn] using h))
    | _ :: _, .v _, _ => by simp [D.get, un, D.noOwn]
    | _ :: _, .lst _ _ _, _ => by simp [D.get, un, D.noOwn]
    | _ :: _, .own _ _ _ _, h => by simp [D.noOwn] at h
    | _ :: _, .fn _ _ _, _ => by simp [D.get, un, D.noOwn]
    | _ :: _, .pt _, _ => by simp [D.get, un, D.noOwn]
    | _ :: _, .dead _, _ => by simp [D.get, un, D.noOwn]
    | _ :: _, .tup _, _ => by simp [D.get, un, D.noOwn]
  nth : ∀ (ds : List D) (i : Nat), noOwns ds = true → (ds.getD i un).noOwn = true
    | [], _, _ => by simp [un, D.noOwn]
    | d :: ds, 0, h => by simp only [noOwns, Bool.and_eq_true] at h; simpa using h.1
    | d :: ds, i + 1, h => by simp only [noOwns, Bool.and_eq_true] at h; simpa using nth ds i h.2

omit [Tables] in
theorem fieldAt_run {T f b o Tf off : Nat} {fs : List (TypeId × Nat)} (h : TD.says P T (.st fs)) (hf : fs[f]? = some (Tf, off)) :
    (Instr.fieldAt T (.pointer (some ⟨b, o, none⟩)) f).run P w = .ok (.pointer (some ⟨b, o + off, none⟩)) w := by
  obtain ⟨F, h1, h2, h3⟩ := h
  rw [← h2, List.getElem?_map] at hf
  cases hF : F[f]? with
  | none => rw [← Array.getElem?_toList] at hF; simp [hF] at hf
  | some fl =>
    rw [← Array.getElem?_toList] at hF
    rw [hF] at hf
    simp only [Option.map_some, Option.some.injEq, Prod.mk.injEq] at hf
    have hne := h3 fl (List.mem_of_getElem? hF)
    have hsz : (sizeOf fl.type).run P w = .ok (P.cellsOf fl.type) w := by
      unfold Program.cellsOf at hne ⊢
      cases hq : P.info? fl.type with
      | none => simp [hq] at hne
      | some i => simp [sizeOf, typeInfo, hq]
    rw [Array.getElem?_toList] at hF
    simp only [Instr.fieldAt, Sem.run_bind, run_underlying h1, Result.andThen_ok, hF, Instr.sureAddr, Sem.run_pure, fieldPlace, hsz, hne, if_false, hf.2]
    congr 4
    unfold Addr.add
    by_cases h0 : off = 0 <;> simp [h0]

omit [Tables] in
theorem indexAt_slice_run {T b o l c e es by' : Nat} {ik : IntKind} {i : Int} (h : TD.says P T (.sl e es by')) (h0 : 0 ≤ i) (hi : i < l) :
    (Instr.indexAt T (.slice (some ⟨b, o, none⟩) l c) (.int ik i)).run P w = .ok (.pointer (some ⟨b, o + es * i.toNat, none⟩)) w := by
  obtain ⟨h1, ie, z, h2, h3, _⟩ := h
  have hc : 0 ≤ i ∧ i < (l : Int) := ⟨h0, hi⟩
  simp only [Instr.indexAt, asIntOf, Sem.run_bind, Sem.run_pure, Result.andThen_ok, run_underlying h1, Bool.and_false, hc, and_self, if_true, sizeOf, typeInfo, run_program, h2, h3]
  congr 4
  unfold Addr.add
  rw [Nat.mul_comm es]
  by_cases h0 : i.toNat * es = 0 <;> simp [h0]

omit [Tables] in
theorem indexAt_array_run {T b o len e es : Nat} {ik : IntKind} {i : Int} (h : TD.says P T (.ar len e es)) (h0 : 0 ≤ i) (hi : i < len) :
    (Instr.indexAt T (.pointer (some ⟨b, o, none⟩)) (.int ik i)).run P w = .ok (.pointer (some ⟨b, o + es * i.toNat, none⟩)) w := by
  obtain ⟨h1, ie, h2, h3⟩ := h
  have hc : 0 ≤ i ∧ i < (len : Int) := ⟨h0, hi⟩
  simp only [Instr.indexAt, asIntOf, Sem.run_bind, Sem.run_pure, Result.andThen_ok, run_underlying h1, Instr.sureAddr, hc, and_self, if_true, sizeOf, typeInfo, run_program, h2, h3]
  congr 4
  unfold Addr.add
  rw [Nat.mul_comm es]
  by_cases h0 : i.toNat * es = 0 <;> simp [h0]

end Go.Dat
