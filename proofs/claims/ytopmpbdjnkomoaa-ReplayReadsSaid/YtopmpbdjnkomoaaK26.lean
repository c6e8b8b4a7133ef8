/- An own slice is cut short; it is handed to a function that may write over it. No conditions. -/
import Derived.Test.YtopmpbdjnkomoaaK25
namespace Go.Dat

variable [Tables]

variable {P : Program} {Θ : TypeId → TI} {n : Nat} {ρ ρ' : Nat → Tag} {w w' : World} {tmps : Array Value} {E E' : Nat → Slot} {t : Nat} {u : Value}

/-- What was slot s's own is slot d's. -/
theorem Inv.pass {s d nl e es xs xs' nl' e' es'} {v : Value} (hI : Inv n ρ w tmps E) (hn : d < n) (hE : E s = .d (.own nl e es xs)) (hds : d ≠ s) (hv : ROwn ρ w (.sl s []) nl' e' es' xs' v) :
    Inv n (retag ρ s d) w (tmps.setIfInBounds d v) (upd (upd (Dat.free d (Dat.free s E)) s .un) d (.d (.own nl' e' es' xs'))) := by
  have hI1 := (hI.free s).free d
  have hd' : d < tmps.size := by rw [hI.size]; exact hn
  have hrt : ∀ b x, retag ρ s d b = x → x ≠ .other → ρ b ≠ .other := by
    intro b x h hx h2
    simp [retag, h2] at h
    exact hx h.symm
  refine ⟨by simp [hI.size], fun b hb => hI.lt b (hrt b _ rfl hb), hI.tab.mono (fun b hb => ⟨by simp only [sh] at hb; simp [sh, retag, hb], rfl⟩), fun u => ?_⟩
  rw [getD_put _ _ _ _ hd']
  by_cases h1 : d = u
  · subst h1
    simp only [if_true, upd]
    exact RV.ofOwn (hv.mono (fun b hb => ⟨by simp [retag, hb], rfl⟩) (fun b hb => ⟨by simp [retag, hb], rfl⟩))
  · by_cases h2 : s = u
    · subst h2
      simp only [upd, hds, if_false, if_true]
      trivial
    · simp only [upd, h1, h2, if_false]
      refine (hI1.slot u).keep hI1 (fun b hb => ⟨by simp [retag, hb], rfl⟩) (fun b r hb => ⟨?_, rfl⟩) (fun b hb => ⟨?_, rfl⟩) (fun s' hs' => ?_) (.inl kill_nwk)
      · have e1 : u ≠ s := fun h => h2 h.symm
        have e2 : u ≠ d := fun h => h1 h.symm
        simp [retag, hb, e1, e2]
      · have e1 : u ≠ s := fun h => h2 h.symm
        have e2 : u ≠ d := fun h => h1 h.symm
        simp [retag, hb, e1, e2]
      · have hd1 : s' ≠ d := by rintro rfl; exact free_ne hs'
        have hk1 : s' ≠ s := by rintro rfl; exact free_ne (free_refers hs')
        refine ⟨by simp [upd, hd1.symm, hk1.symm], ?_, fun _ _ => rfl⟩
        rw [getD_put _ _ _ _ hd', if_neg (fun h => hd1 h.symm)]

omit [Tables] in
theorem retag_fr {s d : Nat} : Fr ρ w (retag ρ s d) w := ⟨fun b hb => by simp [retag, hb], fun b _ hb => by simp [retag, hb], fun _ _ _ => rfl, rfl, rfl, rfl, Nat.le_refl _⟩

theorem own_value {a : Act} {q s nl e es xs} (hI : Inv n ρ w a.tmps E) (hE : E s = .d (.own nl e es xs)) (hq : q = s ∨ E q = .view s []) : ROwn ρ w (.sl s []) nl e es xs (a.tmps.getD q undef) := by
  have h0 : OwnAt w a.tmps E s [] nl e es xs (a.tmps.getD q undef) := by
    rcases hq with rfl | h
    · exact .inl ⟨hE, rfl, rfl⟩
    · have h1 := hI.slot q
      rw [h] at h1
      obtain ⟨nl', e', es', xs', h1⟩ := h1
      have k0 : nl' = nl ∧ e' = e ∧ es' = es ∧ xs' = xs := by
        rcases h1 with ⟨q1, _⟩ | ⟨x, b, q1, _⟩ <;> rw [hE] at q1 <;> cases q1
        simp
      obtain ⟨rfl, rfl, rfl, rfl⟩ := k0
      exact h1
  exact h0.own hI

/-- s[:j], the whole being given up. -/
theorem RawOp.cut {o : Oper} {d q s j : Nat} {hi : Option Operand} {T : TypeId} {nl e es xs e' b} (hΘ : Agree P Θ) (hd : o.dst = some d) (hn : d < n) (hds : d ≠ s) (ho : o.op = .slice T (.tmp q) none hi none)
    (hE : E s = .d (.own nl e es xs)) (hq : q = s ∨ E q = .view s []) (ht : (Θ T).td = .sl e' es b) (hh : Bnd E hi xs.length j) (hj : j ≤ xs.length) :
    RawOp P n E o (upd (upd (free d (free s E)) s .un) d (.d (.own nl e es (xs.take j)))) := by
  intro ρ w a Q hI
  have hown := own_value hI hE hq
  have hhi := hh.sound (a := a) rfl hI
  obtain ⟨cells, ⟨o1, o2⟩, o3, o4, o5⟩ := hown
  have hsp : xs = xs.take j ++ xs.drop j := (List.take_append_drop j xs).symm
  have o3' := o3
  rw [hsp] at o3'
  obtain ⟨A, B, q1, q2, q3, q4⟩ := o3'.split
  have htl : (xs.take j).length = j := by rw [List.length_take]; omega
  rcases o2 with ⟨o2, o2'⟩ | ⟨g, cap, cur, o2, _, p1, p2, p3, p4, p5⟩
  · have hj0 : j = 0 := by omega
    subst hj0
    rw [o2] at o4 o5
    have hr := slice_run (P := P) (w := w) (ad := none) (l := 0) (cap := 0) (i := 0) (j := 0) (lo := none) (f := a.eval) (hΘ.says ht) (.inl ⟨rfl, rfl⟩) (by rw [o2'] at hhi; exact hhi) (Nat.le_refl _) (Nat.le_refl _)
    have hv : ROwn ρ w (.sl s []) nl e es (xs.take 0) (.slice none 0 0) := ⟨[], ⟨by simp, .inl ⟨rfl, by simp⟩⟩, by simp [Rpa], o4, o5⟩
    refine oper_val (v := .slice none 0 0) (w' := w) ?_ ?_
    · simp only [execOp, ho, Option.map_none, Sem.run_bind] at hr ⊢
      rw [eval_tmp, o2, hr]
      simp
    · rw [put_some hd]
      exact ⟨rfl, _, retag_fr, hI.pass hn hE hds hv⟩
  · rw [o2] at o4 o5
    have hr := slice_run (P := P) (w := w) (ad := some ⟨g, 0, none⟩) (l := xs.length) (cap := cap) (i := 0) (j := j) (lo := none) (f := a.eval) (hΘ.says ht) (.inl ⟨rfl, rfl⟩) hhi (Nat.zero_le _) (by omega)
    have hv : ROwn ρ w (.sl s []) nl e es (xs.take j) (.slice (some ⟨g, 0, none⟩) j cap) := by
      refine ⟨A, ⟨q2, .inr ⟨g, cap, cur, by rw [htl], Nat.zero_le _, p1, by omega, p3, p4, ?_⟩⟩, q3, ?_, o5⟩
      · have : cur.toList.take ((xs.take j).length * es) = (cur.toList.take (xs.length * es)).take ((xs.take j).length * es) := by
          rw [List.take_take, Nat.min_eq_left (Nat.mul_le_mul_right _ (by omega))]
        rw [this, p5, q1, ← q2, List.take_left]
      · rw [o4]; simp
    refine oper_val (v := .slice (some ⟨g, 0, none⟩) j cap) (w' := w) ?_ ?_
    · simp only [execOp, ho, Option.map_none, Sem.run_bind] at hr ⊢
      rw [eval_tmp, o2, hr]
      by_cases hc : cap = 0 <;> simp [hc, Addr.add]
    · rw [put_some hd]
      exact ⟨rfl, _, retag_fr, hI.pass hn hE hds hv⟩

/-! ### Functions that may write over what they are handed -/

/-- The contract of a function some of whose arguments are its own from then on. -/
def OFun (P : Program) (f : FuncId) (args : List D) (r : D) : Prop :=
  ∀ (ρ : Nat → Tag) (w : World) (vals : List Value), (∀ b, ρ b ≠ .other → b < w.heap.size) → TabS (sh ρ) w → vals.length = args.length → (∀ i, i < args.length → RV ρ w i (args.getD i un) (vals.getD i undef)) →
    Calls P f vals.toArray w fun e w' => ∃ v ρ', e = .returned v ∧ Fr ρ w ρ' w' ∧ (∀ b, ρ' b ≠ .other → b < w'.heap.size) ∧ RV ρ' w' 0 r v

theorem OFun.ofRun {f : FuncId} {fn : Func} {c : Code} {ds : List D} {r : D} (hΘ : Agree P Θ) (hm : P.follows .mixedOrders = true) (hf : P.funcs[f]? = some fn) (hb : fn.body = some c) (hn : (decide (ds.length ≤ fn.ntmps)) = true)
    (h : Run P Θ fn.ntmps (Ends P fn r) [.code c] (lk (initL 0 ds))) : OFun P f ds r := by
  intro ρ w vals hlt hT hlen hv
  have hn' : ds.length ≤ fn.ntmps := by simpa using hn
  intro cs
  let b : Frame := { (default : Frame) with fn := f, kind := .normal }
  let a : Act := { tmps := vals.toArray ++ Array.replicate (fn.ntmps - vals.toArray.size) undef, defers := [] }
  have henter : Frame.enter P f vals.toArray .normal = b.at a [.code c] := by simp [Frame.enter, Frame.at, hf, hb, b, a]
  have hI : Inv fn.ntmps ρ w a.tmps (lk (initL 0 ds)) := by
    refine ⟨by simp [a]; omega, hlt, hT, fun t => ?_⟩
    rw [lk_initL]
    simp only [Nat.not_lt_zero, if_false, Nat.sub_zero, init]
    cases hd : ds[t]? with
    | none => trivial
    | some d =>
      have ht : t < ds.length := (List.getElem?_eq_some_iff.1 hd).1
      have h1 := hv t ht
      have hgd : ds.getD t un = d := by simp [hd]
      have hval : a.tmps.getD t undef = vals.getD t undef := by
        have : t < vals.length := by omega
        simp only [a, Array.getD_eq_getD_getElem?, Array.getElem?_append, List.size_toArray, this, if_true, List.getElem?_toArray, List.getD_eq_getElem?_getD]
      rw [hgd] at h1
      rw [hval]
      exact h1
  obtain ⟨a', w', k', h1, h2, ρ', E', h3, h4, h5⟩ := h.sound hΘ hm hI b cs
  obtain ⟨v, ρ2, q1, q2, q3, q4⟩ := h5 _ _ _ _ h4
  exact ⟨.returned v, w', _, ⟨v, ρ2, rfl, h3.trans q2, q3, q4⟩, (by rw [henter]; exact h1), rfl, rfl, by simp [Frame.at, h2, a], rfl, fn, hf, q1⟩

def tagC (ρ : Nat → Tag) (s : Nat) (b : Nat) : Tag :=
  match ρ b with
  | .sh => .sh
  | .sl s' p => if s' = s ∧ p = [] then .sl 0 [] else .other
  | _ => .other

/-- A call whose first argument is given up. -/
theorem RawOp.callOwn {o : Oper} {d q s : Nat} {fo : Operand} {args : Array Operand} {ts : Array TypeId} {rest : List Operand} {f : FuncId} {nl e es xs ds r} (hd : o.dst = some d) (hn : d < n) (hds : d ≠ s) (ho : o.op = .call { callee := .value fo, args := args, argTypes := ts })
    (hargs : args.toList = .tmp q :: rest) (hfo : OpD E fo (.fn (.func f) [] [])) (hE : E s = .d (.own nl e es xs)) (hq : q = s ∨ E q = .view s []) (hrest : OpDs E rest ds) (hc : Callable P f) (hf : OFun P f (.own nl e es xs :: ds) r) :
    RawOp P n E o (upd (upd (free d (free s E)) s .un) d (.d r)) := by
  intro ρ w a Q hI
  have hown := own_value hI hE hq
  obtain ⟨c1, h1, h2⟩ := hfo.sound hI
  simp only [Rp] at h1
  obtain ⟨us, ts', rfl, h3, h4⟩ := h1
  simp only [Rpv] at h3 h4
  subst h3 h4
  simp only [VC] at h2
  have he : a.eval fo = .func (.func f) #[] #[] := by simpa using h2.symm
  unfold Oper.wp
  rw [callValue_run ho he hc]
  have hmap : #[] ++ args.map a.eval ++ #[] = (a.tmps.getD q undef :: rest.map a.eval).toArray := by
    apply Array.ext'
    simp [hargs, eval_tmp]
  rw [hmap]
  have hvals := hrest.sound hI
  have hlen := hvals.len
  have hsh : ∀ b, sh ρ b → sh (tagC ρ s) b ∧ w.heap[b]? = w.heap[b]? := fun b hb => ⟨by simp only [sh] at hb; simp [sh, tagC, hb], rfl⟩
  refine (hf (tagC ρ s) w _ (fun b hb => hI.lt b (fun h => hb (by simp [tagC, h]))) (hI.tab.mono hsh) (by simp [hlen]) (fun i hi => ?_)).mono ?_
  · cases i with
    | zero => exact RV.ofOwn (hown.mono hsh (fun b hb => ⟨by simp [tagC, hb], rfl⟩))
    | succ i =>
      simp only [List.length_cons] at hi
      obtain ⟨v, g1, g2⟩ := nth_map_vals hvals (i := i) (by omega)
      have hgv : (a.tmps.getD q undef :: rest.map a.eval).getD (i + 1) undef = v := by
        rw [List.getD_eq_getElem?_getD, List.getElem?_cons_succ, g1]; rfl
      rw [hgv]
      have hgd : (D.own nl e es xs :: ds).getD (i + 1) un = ds.getD i un := by simp
      rw [hgd]
      exact (g2.mono hsh).rv
  · rintro ex w' ⟨v, ρ', rfl, hfr, hlt, hr⟩
    let ρ2 : Nat → Tag := fun b => if b < w.heap.size ∧ ρ b ≠ .sl s [] then retag ρ s d b else match ρ' b with | .sl 0 p => .sl d p | .sh => .sh | _ => .other
    have hd' : d < a.tmps.size := by rw [hI.size]; exact hn
    have hkeep : ∀ b, ρ b ≠ .other → ρ b ≠ .sl s [] → ρ2 b = retag ρ s d b := fun b h1 h2 => by simp only [ρ2]; rw [if_pos ⟨hI.lt b h1, h2⟩]
    have hheap : ∀ b, b < w.heap.size → ρ b ≠ .sl s [] → w'.heap[b]? = w.heap[b]? := fun b h1 h2 => hfr.old b h1 (by
      unfold tagC
      cases hb : ρ b with
      | sl s' p =>
        simp only
        split
        · next h => obtain ⟨rfl, rfl⟩ := h; exact absurd hb h2
        · exact .inr rfl
      | _ => simp)
    have hold : ∀ b, b < w.heap.size → ρ b ≠ .sl s [] → ρ' b = .sh → ρ b = .sh := fun b h1 h2 h3 => by
      refine Classical.byContradiction fun h4 => ?_
      have h5 : tagC ρ s b = .other := by
        unfold tagC
        cases hb : ρ b with
        | sl s' p =>
          simp only
          split
          · next h => obtain ⟨rfl, rfl⟩ := h; exact absurd hb h2
          · rfl
        | sh => exact absurd hb h4
        | _ => rfl
      have := hfr.oth b h1 h5
      rw [this] at h3; cases h3
    have hold2 : ∀ b, b < w.heap.size → ρ b ≠ .sl s [] → ∀ p, ρ' b ≠ .sl 0 p := fun b h1 h2 p h3 => by
      by_cases h4 : ρ b = .sh
      · have := hfr.shd b (by simp [tagC, h4])
        rw [this] at h3; cases h3
      · have h5 : tagC ρ s b = .other := by
          unfold tagC
          cases hb : ρ b with
          | sl s' p =>
            simp only
            split
            · next h => obtain ⟨rfl, rfl⟩ := h; exact absurd hb h2
            · rfl
          | sh => exact absurd hb h4
          | _ => rfl
        have := hfr.oth b h1 h5
        rw [this] at h3; cases h3
    show (a.put o.dst v).defers = a.defers ∧ ∃ ρ', Fr ρ w ρ' w' ∧ Inv n ρ' w' (a.put o.dst v).tmps _
    rw [put_some hd]
    refine ⟨rfl, ρ2, ⟨fun b hb => ?_, fun b hl hb => ?_, fun b hl hb => hheap b hl (by rintro h; rw [h] at hb; rcases hb with h | h <;> cases h), hfr.os, hfr.tape, hfr.output, hfr.size⟩, ?_⟩
    · rw [hkeep b (by simp [hb]) (by simp [hb])]; simp [retag, hb]
    · simp only [ρ2]; rw [if_pos ⟨hl, by simp [hb]⟩]; simp [retag, hb]
    have hI1 := (hI.free s).free d
    refine ⟨by simp [hI.size], fun b hb => ?_, hI.tab.mono (fun b hb => ⟨by simp only [sh] at hb ⊢; rw [hkeep b (by simp [hb]) (by simp [hb])]; simp [retag, hb], hheap b (hI.lt b (by simp only [sh] at hb; simp [hb])) (by simp only [sh] at hb; simp [hb])⟩), fun u => ?_⟩
    · by_cases hb1 : b < w.heap.size
      · exact Nat.lt_of_lt_of_le hb1 hfr.size
      · refine hlt b fun h => hb ?_
        simp only [ρ2]
        rw [if_neg (fun h => hb1 h.1), h]
    rw [getD_put _ _ _ _ hd']
    by_cases h1 : d = u
    · subst h1
      simp only [if_true, upd]
      refine RV.mono (fun b hb => ⟨?_, rfl⟩) (fun b r hb => ⟨?_, rfl⟩) hr
      · simp only [ρ2]
        split
        · next h => have := hold b h.1 h.2 hb; simp [retag, this]
        · rw [hb]
      · simp only [ρ2]
        split
        · next h => exact absurd hb (hold2 b h.1 h.2 _)
        · simp only [hb]
    · by_cases h2 : s = u
      · subst h2
        simp only [upd, hds, if_false, if_true]
        trivial
      · simp only [upd, h1, h2, if_false]
        have e1 : u ≠ s := fun h => h2 h.symm
        have e2 : u ≠ d := fun h => h1 h.symm
        refine (hI1.slot u).keep hI1 (fun b hb => ⟨?_, ?_⟩) (fun b r hb => ⟨?_, ?_⟩) (fun b hb => ⟨?_, ?_⟩) (fun s' hs' => ?_) (.inl kill_nwk)
        · rw [hkeep b (by simp [hb]) (by simp [hb])]; simp [retag, hb]
        · exact hheap b (hI.lt b (by simp [hb])) (by simp [hb])
        · rw [hkeep b (by simp [hb]) (by simp [hb, e1])]; simp [retag, hb, e1, e2]
        · exact hheap b (hI.lt b (by simp [hb])) (by simp [hb, e1])
        · rw [hkeep b (by simp [hb]) (by simp [hb])]; simp [retag, hb, e1, e2]
        · exact hheap b (hI.lt b (by simp [hb])) (by simp [hb])
        · have hd1 : s' ≠ d := by rintro rfl; exact free_ne hs'
          have hk1 : s' ≠ s := by rintro rfl; exact free_ne (free_refers hs')
          refine ⟨by simp [upd, hd1.symm, hk1.symm], ?_, fun b hb => hheap b (hI.lt b (by simp [hb])) (by simp [hb])⟩
          rw [getD_put _ _ _ _ hd', if_neg (fun h => hd1 h.symm)]

/-! ### How these are written -/

section
variable {R : (Nat → Slot) → Prop} {ops : Array Oper} {ld : List Nat} {i : Nat} {os : List Oper} {K : List Item} {l : Env} {Θ : TypeId → TI} {ty : TypeId} {pos : String} {af : Array Edge}

omit [Tables] in
theorem free_free {d s : Nat} : Dat.free d (Dat.free s (lk l)) = lk (killL (fun x => refersTo d x || refersTo s x) l) := by
  unfold Dat.free killL
  rw [kill_lk, kill_lk]
  congr 1
  simp only [List.map_map]
  apply List.map_congr_left
  rintro ⟨u, x⟩ _
  simp only [Function.comp]
  cases h1 : refersTo s x <;> cases h2 : refersTo d x <;> cases h3 : isWk x <;> simp [h2, h3, show isWk .un = false from rfl, show ∀ t, refersTo t .un = false from fun _ => rfl]

omit [Tables] in
theorem isElt_some {s : Nat} (x : Slot) (h : isElt s x = true) : ∃ q, refers x = some q := by cases x <;> simp_all [isElt, refers]

omit [Tables] in
theorem Keeps.pass {o : Oper} {d s : Nat} {nl e es xs} {X : Slot} (hd : o.dst = some d) (hs : E s = .d (.own nl e es xs)) : Keeps E o (upd (upd (Dat.free d (Dat.free s E)) s .un) d X) := by
  intro u x hu hne
  have h1 : d ≠ u := by rintro rfl; exact hne hd
  have h2 : s ≠ u := by rintro rfl; rw [hs] at hu; cases hu
  rw [upd_ne h1, upd_ne h2]
  exact kill_v refersTo_some (kill_v refersTo_some hu)
omit [Tables] in
theorem Keeps.copy {o : Oper} {d s : Nat} {nl e es xs} {X Y : Slot} (hd : o.dst = some d) (hs : E s = .d (.own nl e es xs)) : Keeps E o (upd (upd (kill (isElt s) E) s Y) d X) := by
  intro u x hu hne
  have h1 : d ≠ u := by rintro rfl; exact hne hd
  have h2 : s ≠ u := by rintro rfl; rw [hs] at hu; cases hu
  rw [upd_ne h1, upd_ne h2]
  exact kill_v isElt_some hu
omit [Tables] in
theorem Keeps.clear {o : Oper} {s : Nat} {nl e es xs} {Y : Slot} (hs : E s = .d (.own nl e es xs)) : Keeps E o (upd (kill (isElt s) E) s Y) := by
  intro u x hu _
  have h2 : s ≠ u := by rintro rfl; rw [hs] at hu; cases hu
  rw [upd_ne h2]
  exact kill_v isElt_some hu

theorem OpsAt.rw_ {o : Oper} {l' : Env} (h : RawOp P n (lk l) o (lk l')) (hk : Keeps (lk l) o (lk l')) (hg : o.guard = none) (hi : ld.contains i = true) (next : OpsAt P Θ n R ops ld (i + 1) os K (lk l')) : OpsAt P Θ n R ops ld i (o :: os) K (lk l) :=
  .loud (.raw h hk) hg hi next

theorem OpsAt.cut {d q s j : Nat} {hi : Option Operand} {T : TypeId} {nl e es xs e' b} {c : Prop} (hΘ : Agree P Θ) (hv : vwOf (lk l) q = some (s, [], nl, e, es, xs)) (hs : lk l s = .d (.own nl e es xs)) (ht : (Θ T).td = .sl e' es b) (hh : bndOf (lk l) hi xs.length = some (j, c))
    (hd : (decide (d < n) && (d != s)) = true) (hl : ld.contains i = true) (hc : c ∧ j ≤ xs.length)
    (next : OpsAt P Θ n R ops ld (i + 1) os K (lk ((d, .d (.own nl e es (xs.take j))) :: (s, .un) :: killL (fun x => refersTo d x || refersTo s x) l))) :
    OpsAt P Θ n R ops ld i (⟨some d, .slice T (.tmp q) none hi none, ty, pos, af, none⟩ :: os) K (lk l) := by
  simp only [Bool.and_eq_true, decide_eq_true_eq, bne_iff_ne, ne_eq] at hd
  refine .rw_ ?_ ?_ rfl hl next
  rotate_left
  · have := Keeps.pass (o := ⟨some d, .slice T (.tmp q) none hi none, ty, pos, af, none⟩) (X := .d (.own nl e es (xs.take j))) rfl hs
    rw [free_free] at this
    exact this
  have hq : q = s ∨ lk l q = .view s [] := by
    rcases vwOf_sound hv with ⟨h, _⟩ | ⟨_, h, _⟩
    · exact .inr h
    · exact .inl h
  have := RawOp.cut (P := P) (n := n) (o := ⟨some d, .slice T (.tmp q) none hi none, ty, pos, af, none⟩) hΘ rfl hd.1 hd.2 rfl hs hq ht (bndOf_sound hh hc.1) hc.2
  rw [free_free] at this
  exact this

theorem OpsAt.callOwn {d q s : Nat} {fo : Operand} {args : Array Operand} {ts : Array TypeId} {rest : List Operand} {f : FuncId} {nl e es xs ds r} {c1 c2 : Prop} (hargs : args.toList = .tmp q :: rest) (hv : vwOf (lk l) q = some (s, [], nl, e, es, xs)) (hs : lk l s = .d (.own nl e es xs))
    (hfo : opOf (lk l) fo = some (.fn (.func f) [] [], c1)) (hrest : opsOf (lk l) rest = some (ds, c2)) (hd : (decide (d < n) && (d != s)) = true) (hl : ld.contains i = true) (hc : c1 ∧ c2) (hca : Callable P f) (hf : OFun P f (.own nl e es xs :: ds) r)
    (next : OpsAt P Θ n R ops ld (i + 1) os K (lk ((d, .d r) :: (s, .un) :: killL (fun x => refersTo d x || refersTo s x) l))) :
    OpsAt P Θ n R ops ld i (⟨some d, .call { callee := .value fo, args := args, argTypes := ts }, ty, pos, af, none⟩ :: os) K (lk l) := by
  simp only [Bool.and_eq_true, decide_eq_true_eq, bne_iff_ne, ne_eq] at hd
  refine .rw_ ?_ ?_ rfl hl next
  rotate_left
  · have := Keeps.pass (o := ⟨some d, .call { callee := .value fo, args := args, argTypes := ts }, ty, pos, af, none⟩) (X := .d r) rfl hs
    rw [free_free] at this
    exact this
  have hq : q = s ∨ lk l q = .view s [] := by
    rcases vwOf_sound hv with ⟨h, _⟩ | ⟨_, h, _⟩
    · exact .inr h
    · exact .inl h
  have := RawOp.callOwn (P := P) (n := n) (o := ⟨some d, .call { callee := .value fo, args := args, argTypes := ts }, ty, pos, af, none⟩) rfl hd.1 hd.2 rfl hargs (opOf_sound hfo hc.1) hs hq (opsOf_sound hrest hc.2) hca hf
  rw [free_free] at this
  exact this

def bargsOf (E : Nat → Slot) : List Operand → Option (List D × Prop)
  | [] => some ([], True)
  | .tmp k :: os => match vwOf E k with
    | some (_, _, _, _, es, xs) => match bargsOf E os with
      | some (ds, c) => some (.lst .any es xs :: ds, 0 < es ∧ c)
      | none => none
    | none => match opOf E (.tmp k) with
      | some (x, c1) => match bargsOf E os with
        | some (ds, c) => some (x :: ds, c1 ∧ c)
        | none => none
      | none => none
  | o :: os => match opOf E o with
    | some (x, c1) => match bargsOf E os with
      | some (ds, c) => some (x :: ds, c1 ∧ c)
      | none => none
    | none => none

omit [Tables] in
theorem bargsOf_sound {E : Nat → Slot} : ∀ {os : List Operand} {ds : List D} {c : Prop}, bargsOf E os = some (ds, c) → c → BArgs E os ds
  | [], _, _, h, _ => by cases h; exact .nil
  | .tmp k :: os, ds, c, h, hc => by
    simp only [bargsOf] at h
    split at h
    · next h1 =>
      split at h
      · next h2 => cases h; exact .own (vwOf_sound h1) hc.1 (bargsOf_sound h2 hc.2)
      · cases h
    · split at h
      · next h1 =>
        split at h
        · next h2 => cases h; exact .plain (opOf_sound h1 hc.1) (bargsOf_sound h2 hc.2)
        · cases h
      · cases h
  | .const v :: os, ds, c, h, hc => by
    simp only [bargsOf] at h
    split at h
    · next h1 =>
      split at h
      · next h2 => cases h; exact .plain (opOf_sound h1 hc.1) (bargsOf_sound h2 hc.2)
      · cases h
    · cases h
  | .func v :: os, ds, c, h, hc => by
    simp only [bargsOf] at h
    split at h
    · next h1 =>
      split at h
      · next h2 => cases h; exact .plain (opOf_sound h1 hc.1) (bargsOf_sound h2 hc.2)
      · cases h
    · cases h
  | .global v :: os, ds, c, h, hc => by
    simp only [bargsOf] at h
    split at h
    · next h1 =>
      split at h
      · next h2 => cases h; exact .plain (opOf_sound h1 hc.1) (bargsOf_sound h2 hc.2)
      · cases h
    · cases h

theorem Ev.callsB {o : Oper} {E : Nat → Slot} {fo : Operand} {args : Array Operand} {ts : Array TypeId} {f : FuncId} {fs cs ds : List D} {r : D} {c1 c2 : Prop} (ho : o.op = .call { callee := .value fo, args := args, argTypes := ts })
    (h1 : opOf E fo = some (.fn (.func f) fs cs, c1)) (h2 : bargsOf E args.toList = some (ds, c2)) (hr : r.flatv = true) (hc : c1 ∧ c2) (hf : Callable P f) (hd : DFun P f (fs ++ ds ++ cs) r) : Ev P Θ E o (.d r) :=
  .callB ho (opOf_sound h1 hc.1) (bargsOf_sound h2 hc.2) hf hd hr

def partOf (E : Nat → Slot) (q : Nat) : Option (Nat × Option (Nat × Nat)) :=
  match E q with
  | .sub s [] i j => some (s, some (i, j))
  | .view s [] => some (s, none)
  | .d (.own _ _ _ _) => some (q, none)
  | _ => none

omit [Tables] in
theorem partOf_sound {q s ij n'} (h : partOf E q = some (s, ij)) : Part E s n' q (match ij with | some (i, _) => i | none => 0) (match ij with | some (_, j) => j | none => n') := by
  unfold partOf at h
  split at h
  · next h1 => cases h; exact .sub h1
  · next h1 => cases h; exact .view (.inr h1)
  · next h1 => cases h; exact .view (.inl rfl)
  · cases h

def lo? : Option (Nat × Nat) → Nat | some (i, _) => i | none => 0
def hi? (n : Nat) : Option (Nat × Nat) → Nat | some (_, j) => j | none => n

theorem OpsAt.copy {d q s : Nat} {ij : Option (Nat × Nat)} {x : Operand} {T T2 : TypeId} {nl e es xs ys b} (hΘ : Agree P Θ) (hq : partOf (lk l) q = some (s, ij)) (hs : lk l s = .d (.own nl e es xs)) (hx : Src (lk l) x es ys) (ht : (Θ T).td = .sl e es b)
    (hd : (decide (d < n) && !owner (lk l d)) = true) (hl : ld.contains i = true)
    (next : OpsAt P Θ n R ops ld (i + 1) os K (lk ((d, .d (.v (.int .i64 ((min ys.length (hi? xs.length ij - lo? ij) : Nat) : Int)))) ::
      (s, .d (.own nl e es (xs.take (lo? ij) ++ (ys.take (min ys.length (hi? xs.length ij - lo? ij)) ++ xs.drop (lo? ij + min ys.length (hi? xs.length ij - lo? ij)))))) :: killL (isElt s) l))) :
    OpsAt P Θ n R ops ld i (⟨some d, .call { callee := .builtin .copy, args := #[.tmp q, x], argTypes := #[T, T2] }, ty, pos, af, none⟩ :: os) K (lk l) := by
  simp only [Bool.and_eq_true, decide_eq_true_eq, Bool.not_eq_true'] at hd
  refine .rw_ ?_ ?_ rfl hl next
  rotate_left
  · have := Keeps.copy (o := ⟨some d, .call { callee := .builtin .copy, args := #[.tmp q, x], argTypes := #[T, T2] }, ty, pos, af, none⟩) (X := .d (.v (.int .i64 ((min ys.length (hi? xs.length ij - lo? ij) : Nat) : Int)))) (Y := .d (.own nl e es (xs.take (lo? ij) ++ (ys.take (min ys.length (hi? xs.length ij - lo? ij)) ++ xs.drop (lo? ij + min ys.length (hi? xs.length ij - lo? ij)))))) rfl hs
    rw [kill_lk] at this
    exact this
  have hp := partOf_sound (n' := xs.length) hq
  have := RawOp.copy (P := P) (n := n) (o := ⟨some d, .call { callee := .builtin .copy, args := #[.tmp q, x], argTypes := #[T, T2] }, ty, pos, af, none⟩) hΘ rfl hd.1 hd.2 rfl hs hp hx ht
  rw [kill_lk] at this
  cases ij <;> exact this

theorem OpsAt.clear {q s : Nat} {ij : Option (Nat × Nat)} {T : TypeId} {nl e es xs b} (hΘ : Agree P Θ) (hq : partOf (lk l) q = some (s, ij)) (hs : lk l s = .d (.own nl e es xs)) (ht : (Θ T).td = .sl e es b) (hk : (Θ e).known = true) (hl : ld.contains i = true)
    (next : OpsAt P Θ n R ops ld (i + 1) os K (lk ((s, .d (.own nl e es (xs.take (lo? ij) ++ (List.replicate (hi? xs.length ij - lo? ij) (Θ e).z ++ xs.drop (hi? xs.length ij))))) :: killL (isElt s) l))) :
    OpsAt P Θ n R ops ld i (⟨none, .call { callee := .builtin .clear, args := #[.tmp q], argTypes := #[T] }, ty, pos, af, none⟩ :: os) K (lk l) := by
  refine .rw_ ?_ ?_ rfl hl next
  rotate_left
  · have := Keeps.clear (o := ⟨none, .call { callee := .builtin .clear, args := #[.tmp q], argTypes := #[T] }, ty, pos, af, none⟩) (Y := .d (.own nl e es (xs.take (lo? ij) ++ (List.replicate (hi? xs.length ij - lo? ij) (Θ e).z ++ xs.drop (hi? xs.length ij))))) hs
    rw [kill_lk] at this
    exact this
  have hp := partOf_sound (n' := xs.length) hq
  have := RawOp.clear (P := P) (n := n) (o := ⟨none, .call { callee := .builtin .clear, args := #[.tmp q], argTypes := #[T] }, ty, pos, af, none⟩) hΘ rfl rfl hs hp ht hk rfl
  rw [kill_lk] at this
  cases ij <;> exact this

end
end Go.Dat
