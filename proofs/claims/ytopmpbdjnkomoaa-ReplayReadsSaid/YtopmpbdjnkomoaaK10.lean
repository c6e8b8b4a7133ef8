/- The operations that change what is there: assignment of an own slice, append to one, stores. No conditions. -/
import Derived.Test.YtopmpbdjnkomoaaK9
namespace Go.Dat

variable [Tables]

variable {P : Program} {Θ : TypeId → TI} {n : Nat} {ρ ρ' ρ'' : Nat → Tag} {w w' w'' : World} {tmps tmps' : Array Value} {E E' : Nat → Slot} {t : Nat} {u : Value}

omit [Tables] in
theorem D.set_at {y : D} : ∀ (p : List Nat) (d : D), d.okp p → (d.set p y).okp p ∧ (d.set p y).off p = d.off p ∧ (d.set p y).get p = y
  | [], d, _ => by simp [D.okp, D.off, D.get, D.set]
  | i :: p, .st ds, h => by
    simp only [D.okp] at h
    obtain ⟨h1, h2, h3⟩ := D.set_at p (ds.getD i un) h.2
    simp only [D.set, D.okp, D.off, D.get, getD_set_eq h.1, List.length_set]
    refine ⟨⟨h.1, h1⟩, ?_, h3⟩
    rw [h2, List.take_set]
    congr 2
    exact List.set_eq_of_length_le (by simp; exact Nat.min_le_left _ _)
  | i :: p, .arr es ds, h => by
    simp only [D.okp] at h
    obtain ⟨h1, h2, h3⟩ := D.set_at p (ds.getD i un) h.2
    simp only [D.set, D.okp, D.off, D.get, getD_set_eq h.1, List.length_set]
    exact ⟨⟨h.1, h1⟩, by rw [h2], h3⟩
  | _ :: _, .v _, hp => by simp [D.okp] at hp
  | _ :: _, .lst _ _ _, hp => by simp [D.okp] at hp
  | _ :: _, .own _ _ _ _, hp => by simp [D.okp] at hp
  | _ :: _, .fn _ _ _, hp => by simp [D.okp] at hp
  | _ :: _, .pt _, hp => by simp [D.okp] at hp
  | _ :: _, .dead _, hp => by simp [D.okp] at hp
  | _ :: _, .tup _, hp => by simp [D.okp] at hp

/-- Places strictly below p in the box of slot s. -/
def below (s : Nat) (p : List Nat) : Slot → Bool
  | .ref s' q => s' == s && p.isPrefixOf q && !(p == q)
  | .view s' q => s' == s && p.isPrefixOf q
  | .elt s' q _ _ => s' == s && p.isPrefixOf q
  | .sub s' q _ _ => s' == s && p.isPrefixOf q
  | _ => false

omit [Tables] in
theorem below_owner {s p} (x : Slot) (h : below s p x = true) : owner x = false := by cases x <;> simp_all [below, owner]

/-- Places strictly below q in element i of the own slice in slot s. -/
def belowE (s i : Nat) (q : List Nat) : Slot → Bool
  | .elt s' _ i' q' => s' == s && i' == i && q.isPrefixOf q' && !(q == q')
  | _ => false

omit [Tables] in
theorem belowE_owner {s i q} (x : Slot) (h : belowE s i q x = true) : owner x = false := by cases x <;> simp_all [belowE, owner]

/-- A step that was proved by itself. -/
def RawOp (P : Program) (n : Nat) (E : Nat → Slot) (o : Oper) (E' : Nat → Slot) : Prop :=
  ∀ ρ w (a : Act) (Q : Exit → Act → World → Prop), Inv n ρ w a.tmps E → o.wp P a w (fun a' w' => a'.defers = a.defers ∧ ∃ ρ', Fr ρ w ρ' w' ∧ Inv n ρ' w' a'.tmps E') Q

/-- Scalars that are not what the step yields stay. -/
def Keeps (E : Nat → Slot) (o : Oper) (E1 : Nat → Slot) : Prop := ∀ d x, E d = .d (.v x) → o.dst ≠ some d → E1 d = .d (.v x)

inductive OpStep (P : Program) (Θ : TypeId → TI) (n : Nat) (E : Nat → Slot) : Oper → (Nat → Slot) → Prop
  | ev {o d s} : o.dst = some d → d < n → owner (E d) = false → Ev P Θ E o s → OpStep P Θ n E o (upd E d s)
  | asg {o d k nl e es xs} : o.dst = some d → d < n → o.op = .assign (.tmp k) → k ≠ d → E k = .d (.own nl e es xs) →
      OpStep P Θ n E o (upd (upd (free d (free k E)) k (.view d [])) d (.d (.own nl e es xs)))
  | app {o d k x s T nl e es xs ys b} : o.dst = some d → d < n → owner (E d) = false → d ≠ s → o.op = .call { callee := .builtin .append, args := #[.tmp k, x], argTypes := #[T, T] } →
      E s = .d (.own nl e es xs) → (k = s ∨ E k = .view s []) → Src E x es ys → (Θ T).td = .sl e es b → (xs.length + ys.length) * b ≤ 140737488355328 → xs.length + ys.length ≤ maxLen →
      OpStep P Θ n E o (upd (upd (free s E) s .un) d (.d (.own (nl && ys.isEmpty) e es (xs ++ ys))))
  | sto {o T k x s p X y} : o.dst = none → o.op = .store T (.tmp k) x → Adr E k s p X → OpD E x y → (Θ T).fits y = true → y.size = (X.get p).size → (X.get p).noOwn = true →
      OpStep P Θ n E o (upd (kill (below s p) E) s (.box (X.set p y)))
  | elt {o T k x s i q nl e es xs y} : o.dst = none → o.op = .store T (.tmp k) x → E k = .elt s [] i q → E s = .d (.own nl e es xs) → OpD E x y → (Θ T).fits y = true → y.size = ((xs.getD i un).get q).size →
      OpStep P Θ n E o (upd (kill (belowE s i q) E) s (.d (.own nl e es (xs.set i ((xs.getD i un).set q y)))))
  | ext {o d k i ds nl e es xs} : o.dst = some d → d < n → owner (E d) = false → d ≠ k → o.op = .extract (.tmp k) i → E k = .d (.tup ds) → i < ds.length → ds.getD i un = .own nl e es xs →
      OpStep P Θ n E o (upd (upd E k (.d (.tup (ds.set i (.dead false))))) d (.d (.own nl e es xs)))
  | raw {o E1} : RawOp P n E o E1 → Keeps E o E1 → OpStep P Θ n E o E1

/-- What follows upon a step. -/
def After (n : Nat) (ρ : Nat → Tag) (w : World) (a : Act) (E' : Nat → Slot) (a' : Act) (w' : World) : Prop :=
  a'.defers = a.defers ∧ ∃ ρ', Fr ρ w ρ' w' ∧ Inv n ρ' w' a'.tmps E'

section
variable {a : Act} {o : Oper} {Q : Exit → Act → World → Prop}

omit [Tables] in
theorem put_some {d : Nat} {v : Value} (h : o.dst = some d) : a.put o.dst v = { a with tmps := a.tmps.setIfInBounds d v } := by rw [h]; rfl

omit [Tables] in
theorem put_none {v : Value} (h : o.dst = none) : a.put o.dst v = a := by rw [h]; rfl

theorem step_ev {d : Nat} {s : Slot} (hΘ : Agree P Θ) (hI : Inv n ρ w a.tmps E) (hd : o.dst = some d) (hn : d < n) (ho : owner (E d) = false) (h : Ev P Θ E o s) :
    o.wp P a w (After n ρ w a (upd E d s)) Q := by
  refine Ev.sound (t := d) hΘ hI h Q _ fun v ρ' w' g hs => ?_
  rw [put_some hd]
  exact ⟨rfl, ρ', g.fr, (hI.grow g).put hn ho hs⟩

omit [Tables] in
theorem oper_val {v : Value} {w' : World} {K : Act → World → Prop} (h : (execOp a.eval o).run P w = .ok (.value v) w') (hK : K (a.put o.dst v) w') : o.wp P a w K Q := by
  unfold Oper.wp; rw [h]; exact hK

omit [Tables] in
theorem oper_skip {w' : World} {K : Act → World → Prop} (h : (execOp a.eval o).run P w = .ok .skip w') (hK : K (a.put o.dst undef) w') : o.wp P a w K Q := by
  unfold Oper.wp; rw [h]; exact hK

/-- Tags, when what was k's is d's, and what was d's is nobody's. -/
def retag (ρ : Nat → Tag) (k d : Nat) (b : Nat) : Tag :=
  match ρ b with
  | .sl s p => if s = k then (if p = [] then .sl d [] else .other) else if s = d then .other else .sl s p
  | .bx s => if s = d ∨ s = k then .other else .bx s
  | x => x

omit [Tables] in
theorem RV.ofOwn {nl e es xs} {v : Value} (h : ROwn ρ w (.sl t []) nl e es xs v) : RV ρ w t (.own nl e es xs) v :=
  ⟨[v], by simp only [RB]; exact ⟨v, rfl, h⟩, rfl⟩

theorem step_asg {d k nl e es xs} (hI : Inv n ρ w a.tmps E) (hd : o.dst = some d) (hn : d < n) (ho : o.op = .assign (.tmp k)) (hk : k ≠ d) (hE : E k = .d (.own nl e es xs)) :
    o.wp P a w (After n ρ w a (upd (upd (free d (free k E)) k (.view d [])) d (.d (.own nl e es xs)))) Q := by
  refine oper_val (v := a.eval (.tmp k)) (w' := w) (by simp [execOp, ho]) ?_
  rw [put_some hd]
  have hI1 := (hI.free k).free d
  have hd' : d < a.tmps.size := by rw [hI.size]; exact hn
  have hown := hI.slot k
  rw [hE] at hown
  have hrt : ∀ b x, retag ρ k d b = x → x ≠ .other → ρ b ≠ .other := by
    intro b x h hx h2
    simp [retag, h2] at h
    exact hx h.symm
  refine ⟨rfl, retag ρ k d, ⟨fun b hb => by simp [retag, hb], fun b _ hb => by simp [retag, hb], fun _ _ _ => rfl, rfl, rfl, rfl, Nat.le_refl _⟩, ?_⟩
  refine ⟨by simp [hI.size], fun b hb => hI.lt b (hrt b _ rfl hb), hI.tab.mono (fun b hb => ⟨by simp only [sh] at hb; simp [sh, retag, hb], rfl⟩), fun u => ?_⟩
  rw [getD_put _ _ _ _ hd']
  by_cases h1 : d = u
  · subst h1
    simp only [if_true, upd]
    exact RV.ofOwn ((RV.own hown).mono (fun b hb => ⟨by simp [retag, hb], rfl⟩) (fun b hb => ⟨by simp [retag, hb], rfl⟩))
  · by_cases h2 : k = u
    · subst h2
      simp only [upd, hk.symm, if_false, if_true]
      refine ⟨nl, e, es, xs, .inl ⟨by simp [upd], rfl, ?_⟩⟩
      rw [getD_put _ _ _ _ hd', if_pos rfl]
      rfl
    · simp only [upd, h1, h2, if_false]
      refine (hI1.slot u).keep hI1 (fun b hb => ⟨by simp [retag, hb], rfl⟩) (fun b r hb => ⟨?_, rfl⟩) (fun b hb => ⟨?_, rfl⟩) (fun s' hs' => ?_) (.inl kill_nwk)
      · have e1 : u ≠ k := fun h => h2 h.symm
        have e2 : u ≠ d := fun h => h1 h.symm
        simp [retag, hb, e1, e2]
      · have e1 : u ≠ k := fun h => h2 h.symm
        have e2 : u ≠ d := fun h => h1 h.symm
        simp [retag, hb, e1, e2]
      · have hd1 : s' ≠ d := by rintro rfl; exact free_ne hs'
        have hk1 : s' ≠ k := by rintro rfl; exact free_ne (free_refers hs')
        refine ⟨by simp [upd, hd1.symm, hk1.symm], ?_, fun _ _ => rfl⟩
        rw [getD_put _ _ _ _ hd', if_neg (fun h => hd1 h.symm)]


omit [Tables] in
theorem append_run {T ty e es b : Nat} {tg : Tag} {nl : Bool} {xs ys : List D} {v : Value} {ad : Option Addr} {c : Nat} {news : List Value} (h : TD.says P T (.sl e es b)) (hown : ROwn ρ w tg nl e es xs v)
    (hl : news.length = ys.length * es) (hr : Rpa (sh ρ) w es ys news) (hs : ys = [] ∨ ∃ b o, ad = some ⟨b, o, none⟩ ∧ Mem w b o news)
    (hb : (xs.length + ys.length) * b ≤ 140737488355328) (hm : xs.length + ys.length ≤ maxLen) :
    ∃ v' w' cells, (Builtin.append_ #[T, T] ty #[v, .slice ad ys.length c]).run P w = .ok v' w' ∧ w'.ownsRow 0 e es v' (xs.length + ys.length) (cells ++ news) ∧ Rpa (sh ρ) w es xs cells ∧ w.grownBy w' v.ownBlock ∧
      ((nl && ys.isEmpty) = true ↔ v' = .slice none 0 0) ∧ (∀ g, v'.ownBlock = some g → v.ownBlock = some g ∨ w.heap.size ≤ g) ∧ (∀ g, v'.ownBlock = some g → g < w'.heap.size) := by
  obtain ⟨hu, i, z, i1, i2, i3, i4, i5, i6⟩ := h
  obtain ⟨cells, ho, h2, h3, _⟩ := hown
  have hlt : ∀ {w'' : World} {v'' : Value} {m : Nat} {l : List Value}, w''.ownsRow 0 e es v'' m l → ∀ g, v''.ownBlock = some g → g < w''.heap.size := fun hh g hg => (World.ownsRow.lt hh g hg).2
  by_cases hy : ys = []
  · subst hy
    have hn : news = [] := List.eq_nil_of_length_eq_zero (by simpa using hl)
    subst hn
    refine ⟨v, w, cells, ?_, by simpa using ho, h2, ⟨rfl, rfl, rfl, Nat.le_refl _, fun _ _ _ => rfl⟩, by simpa using h3, fun g hg => .inl hg, hlt ho⟩
    rcases ho.2 with ⟨rfl, hx⟩ | ⟨g, cap, cur, rfl, _, hg, hc1, _⟩
    · cases ad <;> simp [Builtin.append_, run_underlying hu, sizeOf, typeInfo, i1, Builtin.lenOf, Builtin.firstCells, loadCells, loadCellsFrom]
    · cases ad <;> simp [Builtin.append_, run_underlying hu, sizeOf, typeInfo, i1, Builtin.lenOf, Builtin.firstCells, loadCells, loadCellsFrom, hc1, storeCells]
  · obtain ⟨b', o', rfl, hmem⟩ := hs.resolve_left hy
    have hys : 0 < ys.length := by cases ys <;> simp_all
    have hne : ys.isEmpty = false := by cases ys <;> simp_all
    have h1 : ∀ u ∈ news, u.oneCell' = true := Rp.one.row ys hr
    rcases ho.2 with ⟨rfl, hx⟩ | ⟨g, cap, cur, rfl, hbg, hg, hnc, hcm, hcs, htake⟩
    · obtain ⟨v', w', r1, r2, r3, r4⟩ := run_append_own (P := P) w w.heap.size T ty e i z es b hu i1 i4 i2 i3 i5 i6 (.slice none 0 0) xs.length cells ⟨ho.1, .inl ⟨rfl, hx⟩⟩ ⟨b', o', none⟩ ys.length c news hl (Mem.at hmem) h1 hm hb (Nat.le_refl _)
      have r5 : w'.ownsRow 0 e es v' (xs.length + ys.length) (cells ++ news) := by
        obtain ⟨q1, q2⟩ := r2
        refine ⟨q1, q2.imp id ?_⟩
        rintro ⟨g, cap, cur, q3, _, q4⟩
        exact ⟨g, cap, cur, q3, Nat.zero_le _, q4⟩
      refine ⟨v', w', cells, r1, r5, h2, r3, ?_, fun g hg => .inr (World.ownsRow.lt r2 g hg).1, hlt r5⟩
      rw [r4]
      simp [hne, Nat.ne_of_gt hys]
    · have hnl : nl = false := by
        cases nl
        · rfl
        · have := h3.1 rfl; simp at this
      by_cases hroom : xs.length + ys.length ≤ cap
      · have hfit : xs.length * i.size + news.length ≤ cur.size := by rw [hl, hcs, i2, ← Nat.add_mul]; exact Nat.mul_le_mul_right _ hroom
        have hrr := run_append_room (P := P) w T ty e i hu i1 g xs.length cap cur hg ⟨b', o', none⟩ ys.length c news (by rw [i2]; exact hl) (Mem.at hmem) h1 hroom hfit
        rw [i2] at hrr
        have hcl : (cells ++ news).length = (xs.length + ys.length) * es := by rw [List.length_append, ho.1, hl, Nat.add_mul]
        refine ⟨_, _, cells, hrr, ⟨hcl, .inr ⟨g, cap, _, rfl, hbg, setRow_heap w g cur _ e _ hg, hroom, hcm, ?_, ?_⟩⟩, h2, ⟨rfl, rfl, rfl, by simp, fun k _ hk => setRow_other w g k _ (fun e => hk (by simp [Value.ownBlock, e]))⟩, ?_, fun g' hg' => .inl hg', ?_⟩
        · rw [i2] at hfit
          simp only [List.size_toArray, List.length_append, List.length_take, List.length_drop, Array.length_toList]
          omega
        · simp only [htake]
          rw [← hcl, List.take_left]
        · simp [hnl]
        · intro g' hg'
          simp only [Value.ownBlock, Option.some.injEq] at hg'
          subst hg'
          rw [size_setRow]
          exact (Array.getElem?_eq_some_iff.1 hg).1
      · have holds : ∀ j u, cells[j]? = some u → w.cell? ((⟨g, 0, none⟩ : Addr).add j) = some u := ho.cells (g := g) rfl
        have hrr := run_append_grow (P := P) w T ty e i z hu i1 i4 ⟨g, 0, none⟩ xs.length cap cells (by rw [i2]; exact ho.1) holds ⟨b', o', none⟩ ys.length c news (by rw [i2]; exact hl) (Mem.at hmem) (by omega) (by unfold maxLen at hm; omega) (growslice_fits (by omega) (by rw [i3]; exact hb))
        have hge := grownCap_ge w (xs.length + ys.length) cap e
        have hcm' := grownCap_le_maxLen w (xs.length + ys.length) cap e hm
        have hcl : (cells ++ news).length = (xs.length + ys.length) * es := by rw [List.length_append, ho.1, hl, Nat.add_mul]
        refine ⟨_, _, cells, hrr, ⟨hcl, .inr ⟨w.heap.size, _, _, rfl, Nat.zero_le _, heap_alloc_new w.drew _, hge, hcm', ?_, ?_⟩⟩, h2, ⟨rfl, rfl, rfl, by simp, fun k hk _ => heap_alloc_old w.drew _ k hk⟩, by simp [hnl], ?_, ?_⟩
        · simp only [Array.size_append, List.size_toArray, size_zeroCells, i5, ho.1, hl, ← Nat.add_mul]
          congr 1
          omega
        · simp only [Array.toList_append, List.append_assoc]
          rw [← List.append_assoc, ← hcl]
          exact List.take_left
        · intro g' hg'
          simp only [Value.ownBlock, Option.some.injEq] at hg'
          exact .inr (by omega)
        · intro g' hg'
          simp only [Value.ownBlock, Option.some.injEq] at hg'
          subst hg'
          simp

end
end Go.Dat
