/- Results of a frame; own slices that are shared from now on; a function's contract out of a derivation. No conditions. -/
import Derived.Test.YtopmpbdjnkomoaaK19
namespace Go.Dat

variable [Tables]

variable {P : Program} {Θ : TypeId → TI} {n : Nat} {E E' : Nat → Slot} {R : (Nat → Slot) → Prop} {ops : Array Oper} {ld : List Nat} {i : Nat} {os : List Oper} {k : List Item} {l : Env}
variable {ρ ρ' : Nat → Tag} {w w' : World} {tmps : Array Value}

/-! ### Results -/

def retag0 (ρ : Nat → Tag) (t : Nat) (b : Nat) : Tag :=
  match ρ b with
  | .sl t' p => if t' = t then .sl 0 p else .other
  | .sh => .sh
  | _ => .other

omit [Tables] in
theorem retag0_lt {t b : Nat} (h : retag0 ρ t b ≠ .other) : ρ b ≠ .other := by
  intro h2; simp [retag0, h2] at h

omit [Tables] in
theorem retag0_fr (t : Nat) : Fr ρ w (retag0 ρ t) w :=
  ⟨fun b hb => by simp [retag0, hb], fun b _ hb => by simp [retag0, hb], fun _ _ _ => rfl, rfl, rfl, rfl, Nat.le_refl _⟩

omit [Tables] in
theorem RV.retag0 {t : Nat} {x : D} {u : Value} (h : RV ρ w t x u) : RV (retag0 ρ t) w 0 x u :=
  RV.mono (fun b hb => ⟨by simp [Dat.retag0, hb], rfl⟩) (fun b r hb => ⟨by simp [Dat.retag0, hb], rfl⟩) h

def resV (tmps : Array Value) : ResultVar → Sem Value
  | .tmp t => pure (tmps.getD t undef)
  | .cell a t => do loadVar t (← asAddr (tmps.getD a undef))

omit [Tables] in
theorem results_eq (fn : Func) (tmps : Array Value) : results fn tmps = (do let vs ← fn.results.mapM (resV tmps); pure (if h : vs.size = 1 then vs[0] else .tuple vs)) := rfl

omit [Tables] in
theorem results_one {fn : Func} {rv : ResultVar} {v : Value} (h : fn.results = #[rv]) (hv : (match rv with | .tmp t => (Pure.pure (tmps.getD t undef) : Sem Value) | .cell a t => (do loadVar t (← asAddr (tmps.getD a undef)))).run P w = .ok v w) :
    (results fn tmps).run P w = .ok v w := by
  cases rv with
  | tmp t =>
    simp only [Sem.run_pure, Result.ok.injEq, and_true] at hv
    simp [results, h, ← hv]
  | cell a t =>
    simp only [results, h]
    simp only [Array.mapM_eq_mapM_toList, List.mapM_cons, List.mapM_nil, Sem.run_bind, Sem.run_map, Sem.run_pure, Result.andThen_ok] at hv ⊢
    rw [hv]
    simp

theorem Ends.tmp {fn : Func} {t : Nat} {x : D} (h : fn.results = #[.tmp t]) (hE : E t = .d x) : Ends P fn x E := by
  intro n ρ w tmps hI
  have h1 := hI.slot t
  rw [hE] at h1
  exact ⟨tmps.getD t undef, retag0 ρ t, results_one h (by simp), retag0_fr t, fun b hb => hI.lt b (retag0_lt hb), RV.retag0 h1⟩

theorem Ends.view {fn : Func} {t s : Nat} {nl e es xs} (h : fn.results = #[.tmp t]) (hE : E t = .view s []) (hs : E s = .d (.own nl e es xs)) : Ends P fn (.own nl e es xs) E := by
  intro n ρ w tmps hI
  have h1 := hI.slot s
  rw [hs] at h1
  have h2 := hI.slot t
  rw [hE] at h2
  obtain ⟨nl', e', es', xs', h3⟩ := h2
  have hv : tmps.getD t undef = tmps.getD s undef := by
    rcases h3 with ⟨_, _, h⟩ | ⟨x, b, h, _⟩
    · exact h
    · rw [hs] at h; cases h
  exact ⟨tmps.getD s undef, retag0 ρ s, results_one h (by simpa using hv), retag0_fr s, fun b hb => hI.lt b (retag0_lt hb), RV.retag0 h1⟩

theorem Adr.load {k s : Nat} {p : List Nat} {x : D} {T : TypeId} (hΘ : Agree P Θ) (hI : Inv n ρ w tmps E) (hk : Adr E k s p x) (hf : (Θ T).fits (x.get p) = true) (hp : (x.get p).pl = true) :
    ∃ u, (do loadVar T (← asAddr (tmps.getD k undef)) : Sem Value).run P w = .ok u w ∧ RD (sh ρ) w (x.get p) u := by
  obtain ⟨b, cs, g1, g2, g3, g4, g5, g6⟩ := hk.sound hI
  obtain ⟨c1, m, c2, e1, e2, e3, _⟩ := RB.lens p x g5 g6
  have hm := g4.mem
  rw [e1, Mem.app, Mem.app] at hm
  have h3 := (RB.plain _ (D.pl_noOwn hp)).1 e3
  obtain ⟨u, q1, q2⟩ := loadVar_run (P := P) (w := w) (b := b) (o := x.off p) hΘ hf (Rp.len _ h3) (by rw [← e2]; simpa using hm.1.2)
  refine ⟨u, ?_, m, h3, q1⟩
  rw [g2]
  simp only [asAddr, Sem.run_bind, Sem.run_pure, Result.andThen_ok, q2]

theorem Ends.cell {fn : Func} {a : Nat} {T : TypeId} {s p x} (hΘ : Agree P Θ) (h : fn.results = #[.cell a T]) (hE : adrOf E a = some (s, p, x)) (hf : ((Θ T).fits (x.get p) && (x.get p).pl) = true) : Ends P fn (x.get p) E := by
  intro n ρ w tmps hI
  simp only [Bool.and_eq_true] at hf
  obtain ⟨u, h1, h2⟩ := (adrOf_sound hE).load hΘ hI hf.1 hf.2
  exact ⟨u, ρ, results_one h h1, Fr.refl _ _, hI.lt, h2.rv⟩

def resOf (Θ : TypeId → TI) (E : Nat → Slot) : List ResultVar → Option (List D × Prop)
  | [] => some ([], True)
  | .tmp t :: r => match E t with
    | .d x => match resOf Θ E r with
      | some (ds, c) => some (x :: ds, x.pl = true ∧ c)
      | none => none
    | _ => none
  | .cell a T :: r => match adrOf E a with
    | some (_, p, x) => match resOf Θ E r with
      | some (ds, c) => some (x.get p :: ds, ((Θ T).fits (x.get p) = true ∧ (x.get p).pl = true) ∧ c)
      | none => none
    | none => none

theorem resOf_run (hΘ : Agree P Θ) (hI : Inv n ρ w tmps E) : ∀ {rs : List ResultVar} {ds : List D} {c : Prop}, resOf Θ E rs = some (ds, c) → c → ∃ vs, (rs.mapM (resV tmps)).run P w = .ok vs w ∧ Rpv (sh ρ) w ds vs
  | [], ds, c, h, hc => by
    cases h
    exact ⟨[], rfl, by simp [Rpv]⟩
  | .tmp t :: r, ds, c, h, hc => by
    unfold resOf at h
    split at h
    · next x hE =>
      split at h
      · next h2 =>
        cases h
        obtain ⟨vs, h3, h4⟩ := resOf_run hΘ hI h2 hc.2
        have h5 := hI.slot t
        rw [hE] at h5
        obtain ⟨cs, g1, g2⟩ := (RV.plain hc.1).1 h5
        refine ⟨tmps.getD t undef :: vs, ?_, ?_⟩
        · simp only [List.mapM_cons, resV, Sem.run_bind, Sem.run_pure, Result.andThen_ok, h3]
        · simp only [Rpv]; exact ⟨_, _, cs, rfl, g1, g2, h4⟩
      · cases h
    · cases h
  | .cell a T :: r, ds, c, h, hc => by
    unfold resOf at h
    split at h
    · next s p x hE =>
      split at h
      · next h2 =>
        cases h
        obtain ⟨vs, h3, h4⟩ := resOf_run hΘ hI h2 hc.2
        obtain ⟨u, g1, cs, g2, g3⟩ := (adrOf_sound hE).load hΘ hI hc.1.1 hc.1.2
        refine ⟨u :: vs, ?_, ?_⟩
        · have g1' : (resV tmps (.cell a T)).run P w = .ok u w := g1
          simp only [List.mapM_cons]
          rw [Sem.run_bind, g1']
          simp only [Result.andThen_ok, Sem.run_bind, h3, Sem.run_pure]
        · simp only [Rpv]; exact ⟨_, _, cs, rfl, g2, g3, h4⟩
      · cases h
    · cases h

omit [Tables] in
theorem Rpv.rvs {t : Nat} : ∀ {ds : List D} {vs : List Value} {i : Nat}, Rpv (sh ρ) w ds vs → RVs ρ w t i ds vs
  | [], _, _, h => by simp only [Rpv] at h; subst h; rfl
  | d :: ds, _, i, h => by
    simp only [Rpv] at h
    obtain ⟨u, y, cs, rfl, h1, h2, h3⟩ := h
    exact ⟨u, y, rfl, ⟨cs, RB.ofRp h1, h2⟩, h3.rvs⟩

theorem Ends.tup {fn : Func} {ds : List D} {c : Prop} (hΘ : Agree P Θ) (h : resOf Θ E fn.results.toList = some (ds, c)) (hc : c) (h1 : (ds.length == 1) = false) : Ends P fn (.tup ds) E := by
  intro n ρ w tmps hI
  obtain ⟨vs, h2, h3⟩ := resOf_run hΘ hI h hc
  have hl := h3.len
  have hne : ¬ vs.toArray.size = 1 := by simp only [List.size_toArray, hl]; simpa using h1
  refine ⟨.tuple vs.toArray, ρ, ?_, Fr.refl _ _, hI.lt, vs, rfl, h3.rvs⟩
  rw [results_eq, Sem.run_bind]
  have : (fn.results.mapM (resV tmps)).run P w = .ok vs.toArray w := by
    rw [Array.mapM_eq_mapM_toList, Sem.run_map, h2]
    rfl
  rw [this]
  simp only [Result.andThen_ok, hne, dif_neg, not_false_eq_true, Sem.run_pure]

/-! ### The contract out of a derivation -/

def initL : Nat → List D → Env
  | _, [] => []
  | i, d :: ds => (i, .d d) :: initL (i + 1) ds

omit [Tables] in
theorem lk_initL : ∀ (ds : List D) (i t : Nat), lk (initL i ds) t = if t < i then .un else init ds (t - i)
  | [], i, t => by simp [initL, lk, init]
  | d :: ds, i, t => by
    simp only [initL, lk, lk_initL ds (i + 1) t]
    by_cases h : i = t
    · subst h; simp [init]
    · simp only [h, if_false]
      by_cases h2 : t < i
      · simp [h2, Nat.lt_succ_of_lt h2]
      · have h3 : ¬ t < i + 1 := by omega
        simp only [h2, h3, if_false, init]
        rw [show t - i = (t - (i + 1)) + 1 by omega]
        simp

theorem DFun.ofRun {f : FuncId} {fn : Func} {c : Code} {ds : List D} {r : D} (hΘ : Agree P Θ) (hm : P.follows .mixedOrders = true) (hf : P.funcs[f]? = some fn) (hb : fn.body = some c) (hn : (decide (ds.length ≤ fn.ntmps)) = true)
    (h : Run P Θ fn.ntmps (Ends P fn r) [.code c] (lk (initL 0 ds))) : DFun P f ds r := by
  refine .of_run hΘ hm hf hb (by simpa using hn) ?_
  have : lk (initL 0 ds) = init ds := by
    funext t
    rw [lk_initL]
    simp
  rw [← this]
  exact h

/-! ### Own slices, shared -/

def okK : Bool → SK → Bool
  | true, .nl => true
  | false, .opn => true
  | _, .any => true
  | _, _ => false

def frz (s : Nat) (x : D) : Slot → Slot
  | .view s' [] => if s' = s then .d x else .view s' []
  | .elt s' p i q => if s' = s then .un else .elt s' p i q
  | .sub s' p i q => if s' = s then .un else .sub s' p i q
  | .ref s' p => if s' = s then .un else .ref s' p
  | .view s' (a :: p) => if s' = s then .un else .view s' (a :: p)
  | y => y

def frzL (s : Nat) (x : D) (l : Env) : Env := l.map fun (u, y) => (u, frz s x y)

omit [Tables] in
theorem lk_map {f : Slot → Slot} (hf : f .un = .un) {u : Nat} : lk (l.map fun (u, s) => (u, f s)) u = f (lk l u) := by
  induction l with
  | nil => simp [lk, hf]
  | cons x l ih =>
    obtain ⟨v, s⟩ := x
    simp only [List.map_cons, lk]
    by_cases h : v = u
    · simp [h]
    · simp only [h, if_false]; exact ih

omit [Tables] in
theorem ROwn.lst {tg : Tag} {nl : Bool} {e es : Nat} {xs : List D} {v : Value} {sk : SK} (h : ROwn ρ w tg nl e es xs v) (hk : okK nl sk = true) (hs : ∀ b, ρ b = .sh → ρ' b = .sh) (ht : ∀ b, ρ b = tg → ρ' b = .sh) :
    RD (sh ρ') w (.lst sk es xs) v := by
  obtain ⟨cells, ⟨h1, h2⟩, h3, h4, h5⟩ := h
  refine ⟨[v], ?_, rfl⟩
  simp only [Rp]
  rcases h2 with ⟨rfl, h6⟩ | ⟨g, cap, cur, rfl, _, g1, g2, g3, g4, g5⟩
  · have hx : xs = [] := List.eq_nil_of_length_eq_zero h6
    subst hx
    refine ⟨none, 0, 0, rfl, ?_, fun ad had => by cases had⟩
    have hn : nl = true := h4.2 rfl
    subst hn
    cases sk <;> simp_all [okK, Hdr]
  · have hn : nl = false := by
      cases nl
      · rfl
      · have := h4.1 rfl; cases this
    subst hn
    refine ⟨some ⟨g, 0, none⟩, xs.length, cap, rfl, ?_, fun ad had => ?_⟩
    · cases sk <;> simp_all [okK, Hdr]
    · cases had
      have hg : ρ' g = .sh := ht g (h5 g rfl)
      refine Rpx.of hg (Rpa.mono (fun b hb => ⟨hs b hb, rfl⟩) xs h3) (Mem.ofAt fun j v hj => ?_)
      rw [cell_of_row w g _ _ _ _ g1, ← g5] at *
      rw [List.getElem?_take] at hj
      split at hj
      · simpa using hj
      · cases hj

theorem Run.freeze {todo : List Item} (s : Nat) (sk : SK) {nl e es xs} (hE : lk l s = .d (.own nl e es xs)) (hk : okK nl sk = true) (h : Run P Θ n R todo (lk ((s, .d (.lst sk es xs)) :: frzL s (.lst sk es xs) l))) : Run P Θ n R todo (lk l) := by
  refine .ghost (fun ρ w tmps hI => ?_) h
  let ρ' : Nat → Tag := fun b => if ρ b = .sl s [] then .sh else ρ b
  have hk' : ∀ b, ρ b ≠ .sl s [] → ρ' b = ρ b := fun b hb => by simp [ρ', hb]
  have hsh : ∀ b, ρ b = .sh → ρ' b = .sh := fun b hb => by rw [hk' b (by simp [hb]), hb]
  have hown : ROwn ρ w (.sl s []) nl e es xs (tmps.getD s undef) := by
    have := hI.slot s
    rw [hE] at this
    exact RV.own this
  have hlst := hown.lst (ρ' := ρ') hk hsh (fun b hb => by simp [ρ', hb])
  refine ⟨ρ', ⟨hsh, fun b _ hb => by rw [hk' b (by simp [hb]), hb], fun _ _ _ => rfl, rfl, rfl, rfl, Nat.le_refl _⟩, hI.size, fun b hb => ?_, hI.tab.mono (fun b hb => ⟨hsh b hb, rfl⟩), fun u => ?_⟩
  · simp only [ρ'] at hb
    split at hb
    · next h => exact hI.lt b (by simp [h])
    · exact hI.lt b hb
  · have hslot := hI.slot u
    have hlku : lk (frzL s (.lst sk es xs) l) u = frz s (.lst sk es xs) (lk l u) := lk_map rfl
    by_cases hu : s = u
    · subst hu
      simp only [lk, if_true]
      exact hlst.rv
    · simp only [lk, hu, if_false, hlku]
      have keep : refers (lk l u) ≠ some s → RS ρ' w tmps (lk ((s, .d (.lst sk es xs)) :: frzL s (.lst sk es xs) l)) u (tmps.getD u undef) (lk l u) := by
        intro hne
        refine hslot.keep hI (fun b hb => ⟨hsh b hb, rfl⟩) (fun b r hb => ⟨by rw [hk' b (by rw [hb]; simp [Ne.symm hu]), hb], rfl⟩) (fun b hb => ⟨by rw [hk' b (by simp [hb]), hb], rfl⟩) (fun s' hs' => ?_) (.inr ⟨fun _ _ => rfl, Nat.le_refl _⟩)
        have h1 : s' ≠ s := by rintro rfl; exact hne hs'
        have how := hI.refOwner hs'
        refine ⟨?_, rfl, fun _ _ => rfl⟩
        simp only [lk, h1.symm, if_false]
        rw [show lk (frzL s (.lst sk es xs) l) s' = frz s (.lst sk es xs) (lk l s') from lk_map rfl]
        cases hq : lk l s' <;> simp_all [owner, frz]
      cases hq : lk l u with
      | view s' p =>
        cases p with
        | nil =>
          simp only [frz]
          split
          · next hs =>
            subst hs
            rw [hq] at hslot
            obtain ⟨nl', e', es', xs', h1⟩ := hslot
            rcases h1 with ⟨_, _, h1⟩ | ⟨x, b, h1, _⟩
            · rw [h1]; exact hlst.rv
            · rw [hE] at h1; cases h1
          · next hs => have := keep (by rw [hq]; simpa [refers] using hs); rw [hq] at this; exact this
        | cons a p =>
          simp only [frz]
          split
          · trivial
          · next hs => have := keep (by rw [hq]; simpa [refers] using hs); rw [hq] at this; exact this
      | elt s' p i q =>
        simp only [frz]
        split
        · trivial
        · next hs => have := keep (by rw [hq]; simpa [refers] using hs); rw [hq] at this; exact this
      | sub s' p i q =>
        simp only [frz]
        split
        · trivial
        · next hs => have := keep (by rw [hq]; simpa [refers] using hs); rw [hq] at this; exact this
      | ref s' p =>
        simp only [frz]
        split
        · trivial
        · next hs => have := keep (by rw [hq]; simpa [refers] using hs); rw [hq] at this; exact this
      | un => trivial
      | wk x => have := keep (by rw [hq]; simp [refers]); rw [hq] at this; exact this
      | no => have := keep (by rw [hq]; simp [refers]); rw [hq] at this; exact this
      | d x => have := keep (by rw [hq]; simp [refers]); rw [hq] at this; exact this
      | box x => have := keep (by rw [hq]; simp [refers]); rw [hq] at this; exact this

end Go.Dat
