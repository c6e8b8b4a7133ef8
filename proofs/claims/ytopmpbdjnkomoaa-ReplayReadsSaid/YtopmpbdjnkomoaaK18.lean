/- The operations that leave things alone, by a function. No conditions. -/
import Derived.Test.YtopmpbdjnkomoaaK17
namespace Go.Dat

variable [Tables]

variable {P : Program} {Θ : TypeId → TI} {n : Nat} {E : Nat → Slot}

/-- A constant's datum. -/
def konstOf : Value → Option D
  | .slice none 0 0 => some (.lst .nl 0 [])
  | .agg _ => none
  | .tuple _ => none
  | v => some (.v v)

def opOf (E : Nat → Slot) : Operand → Option (D × Prop)
  | .tmp t => match E t with | .d x => some (x, x.pl = true) | _ => none
  | .const v => match konstOf v with | some d => some (d, True) | none => none
  | .func f => some (.fn (.func f) [] [], True)
  | .global _ => none

omit [Tables] in
theorem opOf_sound {o : Operand} {x : D} {s : Prop} (h : opOf E o = some (x, s)) (hs : s) : OpD E o x := by
  unfold opOf at h
  split at h
  · split at h
    · next hE => cases h; exact .tmp hE hs
    · cases h
  · next v =>
    split at h
    · next d hd =>
      cases h
      unfold konstOf at hd
      split at hd <;> first
        | (cases hd; exact .nil)
        | cases hd
        | skip
      rename_i h1 h2 h3
      refine .const ?_
      cases v <;> first | rfl | exact (h2 _ rfl).elim | exact (h3 _ rfl).elim
    · cases h
  · cases h; exact .func
  · cases h

def opsOf (E : Nat → Slot) : List Operand → Option (List D × Prop)
  | [] => some ([], True)
  | o :: os => match opOf E o with
    | none => none
    | some (x, s) => match opsOf E os with
      | none => none
      | some (xs, s') => some (x :: xs, s ∧ s')

omit [Tables] in
theorem opsOf_sound : ∀ {os : List Operand} {xs : List D} {s : Prop}, opsOf E os = some (xs, s) → s → OpDs E os xs
  | [], _, _, h, _ => by cases h; exact .nil
  | o :: os, _, _, h, hs => by
    unfold opsOf at h
    split at h
    · cases h
    · next x s1 h1 =>
      split at h
      · cases h
      · next xs s2 h2 =>
        cases h
        exact .cons (opOf_sound h1 hs.1) (opsOf_sound h2 hs.2)

def adrOf (E : Nat → Slot) (k : Nat) : Option (Nat × List Nat × D) :=
  match E k with
  | .ref s p => match E s with | .box x => some (s, p, x) | _ => none
  | .box x => some (k, [], x)
  | _ => none

omit [Tables] in
theorem adrOf_sound {k s p x} (h : adrOf E k = some (s, p, x)) : Adr E k s p x := by
  unfold adrOf at h
  split at h
  · next h1 => split at h
               · next h2 => cases h; exact ⟨h2, .inl h1⟩
               · cases h
  · next h1 => cases h; exact ⟨h1, .inr ⟨rfl, rfl⟩⟩
  · cases h

def eltOf (E : Nat → Slot) (k : Nat) : Option (Nat × List Nat × Nat × List Nat × Bool × Nat × Nat × List D) :=
  match E k with
  | .elt s p i q => match E s with
    | .d (.own nl e es xs) => some (s, p, i, q, nl, e, es, xs)
    | .box x => match x.get p with
      | .own nl e es xs => some (s, p, i, q, nl, e, es, xs)
      | _ => none
    | _ => none
  | _ => none

omit [Tables] in
theorem eltOf_sound {k s p i q nl e es xs} (h : eltOf E k = some (s, p, i, q, nl, e, es, xs)) : Elt E k s p i q nl e es xs := by
  unfold eltOf at h
  split at h
  · next h1 =>
    split at h
    · next h2 => cases h; exact ⟨h1, .inl h2⟩
    · next x h2 =>
      split at h
      · next h3 => cases h; exact ⟨h1, .inr ⟨_, h2, h3⟩⟩
      · cases h
    · cases h
  · cases h

def vwOf (E : Nat → Slot) (k : Nat) : Option (Nat × List Nat × Bool × Nat × Nat × List D) :=
  match E k with
  | .view s p => match E s with
    | .d (.own nl e es xs) => some (s, p, nl, e, es, xs)
    | .box x => match x.get p with
      | .own nl e es xs => some (s, p, nl, e, es, xs)
      | _ => none
    | _ => none
  | .d (.own nl e es xs) => some (k, [], nl, e, es, xs)
  | _ => none

omit [Tables] in
theorem vwOf_sound {k s p nl e es xs} (h : vwOf E k = some (s, p, nl, e, es, xs)) : Vw E k s p nl e es xs := by
  unfold vwOf at h
  split at h
  · next h1 =>
    split at h
    · next h2 => cases h; exact .inl ⟨h1, .inl h2⟩
    · next x h2 =>
      split at h
      · next h3 => cases h; exact .inl ⟨h1, .inr ⟨_, h2, h3⟩⟩
      · cases h
    · cases h
  · next h1 => cases h; exact .inr ⟨h1, rfl, rfl⟩
  · cases h

def srcOf (E : Nat → Slot) (es : Nat) : Operand → Option (List D × Prop)
  | .tmp k => match vwOf E k with
    | some (_, _, _, _, es', ys) => if es' = es then some (ys, True) else none
    | none => match E k with
      | .d (.lst .nl _ ys) => some (ys, ys = [])
      | .d (.lst _ es' ys) => if es' = es then some (ys, True) else none
      | _ => none
  | .const (.slice none 0 0) => some ([], True)
  | _ => none

omit [Tables] in
theorem srcOf_sound {es : Nat} {o : Operand} {ys : List D} {s : Prop} (hE : ∀ k es' ys, E k = .d (.lst .nl es' ys) → OpD E (.tmp k) (.lst .nl es ys)) (h : srcOf E es o = some (ys, s)) (_hs : s) : Src E o es ys := by
  unfold srcOf at h
  split at h
  · next k =>
    split at h
    · next h1 =>
      split at h
      · next he => cases h; subst he; exact .vw (vwOf_sound h1)
      · cases h
    · split at h
      · next h2 => cases h; exact .lst (hE _ _ _ h2)
      · next h2 =>
        split at h
        · next he => cases h; subst he; exact .lst (.tmp h2 rfl)
        · cases h
      · cases h
  · cases h; exact .lst .nil
  · cases h


/-- The parts of a struct that is built, checked. -/
def partsOk (Θ : TypeId → TI) (fs : List (TypeId × Nat)) (zs : List D) : List (Nat × D) → Bool
  | [] => true
  | (i, x) :: r => (match fs[i]? with
    | some (Tf, off) => (off == sizes (zs.take i)) && (Θ Tf).fits x && decide (i < zs.length) && ((zs.getD i un).size == x.size)
    | none => false) && partsOk Θ fs zs r

omit [Tables] in
theorem partsOk_sound {fs : List (TypeId × Nat)} {zs : List D} : ∀ {l : List (Nat × D)}, partsOk Θ fs zs l = true →
    ∀ ix ∈ l, ∃ Tf, fs[ix.1]? = some (Tf, sizes (zs.take ix.1)) ∧ (Θ Tf).fits ix.2 = true ∧ ix.1 < zs.length ∧ (zs.getD ix.1 un).size = ix.2.size
  | [], _, _, h => by cases h
  | (i, x) :: r, h, ix, hm => by
    simp only [partsOk, Bool.and_eq_true] at h
    rcases List.mem_cons.1 hm with rfl | hm
    · have h1 := h.1
      split at h1
      · next Tf off hf =>
        simp only [Bool.and_eq_true, beq_iff_eq, decide_eq_true_eq] at h1
        obtain ⟨⟨⟨h2, h3⟩, h4⟩, h5⟩ := h1
        exact ⟨Tf, by rw [hf, h2], h3, h4, h5⟩
      · cases h1
    · exact partsOk_sound h.2 ix hm

def faOk (fs : List (TypeId × Nat)) (ds : List D) (f : Nat) : Bool := decide (f < ds.length) && (match fs[f]? with | some (_, off) => off == sizes (ds.take f) | none => false)
omit [Tables] in
theorem faOk_sound {fs : List (TypeId × Nat)} {ds : List D} {f : Nat} (h : faOk fs ds f = true) : f < ds.length ∧ ∃ Tf, fs[f]? = some (Tf, sizes (ds.take f)) := by
  simp only [faOk, Bool.and_eq_true, decide_eq_true_eq] at h
  obtain ⟨h1, h2⟩ := h
  split at h2
  · next Tf off hf => exact ⟨h1, Tf, by rw [hf, beq_iff_eq.1 h2]⟩
  · cases h2
def bsOk (is : List Nat) (len es : Nat) (xs : List D) : Bool := (is == List.range len) && xs.all (fun x => x.size == es) && decide (len * es ≤ 16777216)

/-- What a quiet operation yields, and what it asks. -/
def evq (Θ : TypeId → TI) (E : Nat → Slot) (o : Oper) : Option (Slot × Prop) :=
  match o.op with
  | .move (.tmp k) =>
    match E k with
    | .d (.own _ _ _ _) => some (.view k [], True)
    | .d (.tup ds) => some (.d (.tup ds), noOwns ds = true)
    | .d x => some (.d x, x.pl = true)
    | .box _ => some (.ref k [], True)
    | .un => none
    | .no => none
    | .wk x => some (.wk x, True)
    | s => some (s, True)
  | .move x => match opOf E x with | some (d, s) => some (.d d, s) | none => none
  | .assign (.tmp k) =>
    match E k with
    | .d (.own _ _ _ _) => none
    | .d x => some (.d x, x.pl = true)
    | .box _ => none
    | .un => none
    | .no => none
    | .wk x => some (.wk x, True)
    | s => some (s, True)
  | .assign x => match opOf E x with | some (d, s) => some (.d d, s) | none => none
  | .pick c x y =>
    match opOf E c with
    | some (.v (.bool true), s) => match opOf E x with | some (d, s') => some (.d d, s ∧ s') | none => none
    | some (.v (.bool false), s) => match opOf E y with | some (d, s') => some (.d d, s ∧ s') | none => none
    | _ => none
  | .alloc T => some (.box (Θ T).z, (Θ T).known = true)
  | .box _ x => match opOf E x with | some (d, s) => some (.box d, s) | none => none
  | .load T (.tmp k) =>
    match adrOf E k with
    | some (s, p, x) => match x.get p with
      | .own nl e es xs => some (.view s p, (Θ T).fits (.own nl e es xs) = true)
      | y => some (.d y, (Θ T).fits y = true ∧ y.pl = true)
    | none => match eltOf E k with
      | some (_, _, i, q, _, _, _, xs) => some (.d ((xs.getD i un).get q), (Θ T).fits ((xs.getD i un).get q) = true)
      | none => match E k with
        | .d (.pt x) => some (.d x, (Θ T).fits x = true)
        | _ => none
  | .fieldAddr T (.tmp k) f =>
    match (Θ T).td with
    | .st fs => match adrOf E k with
      | some (s, p, x) => match x.get p with
        | .st ds => some (.ref s (p ++ [f]), faOk fs ds f = true)
        | _ => none
      | none => match eltOf E k with
        | some (s, p, i, q, _, _, _, xs) => match (xs.getD i un).get q with
          | .st ds => some (.elt s p i (q ++ [f]), faOk fs ds f = true)
          | _ => none
        | none => match E k with
          | .d (.pt (.st ds)) => some (.d (.pt (ds.getD f un)), faOk fs ds f = true)
          | _ => none
    | _ => none
  | .indexAddr T (.tmp k) ix =>
    match opOf E ix with
    | some (.v (.int _ i), si) => match (Θ T).td with
      | .ar len _ es => match adrOf E k with
        | some (s, p, x) => match x.get p with
          | .arr es' ds => some (.ref s (p ++ [i.toNat]), si ∧ es' = es ∧ ds.length = len ∧ 0 ≤ i ∧ i < len)
          | _ => none
        | none => match E k with
          | .d (.pt (.arr es' ds)) => some (.d (.pt (ds.getD i.toNat un)), si ∧ es' = es ∧ ds.length = len ∧ 0 ≤ i ∧ i < len)
          | _ => none
      | .sl _ es _ => match vwOf E k with
        | some (s, p, _, _, es', xs) => some (.elt s p i.toNat [], si ∧ es' = es ∧ 0 ≤ i ∧ i.toNat < xs.length)
        | none => match E k with
          | .d (.lst _ es' xs) => some (.d (.pt (xs.getD i.toNat un)), si ∧ es' = es ∧ 0 ≤ i ∧ i.toNat < xs.length)
          | _ => none
      | _ => none
    | _ => none
  | .buildSlice T len parts =>
    match (Θ T).td with
    | .sl e es _ => match opsOf E (parts.toList.map (·.2)) with
      | some (xs, s) => some (.d (.own false e es xs), s ∧ bsOk (parts.toList.map (·.1)) len es xs = true)
      | none => none
    | _ => none
  | .build T parts =>
    match (Θ T).td, (Θ T).z with
    | .st fs, .st zs => match opsOf E (parts.toList.map (·.2)) with
      | some (xs, s) => some (.d (.st (built zs ((parts.toList.map (·.1)).zip xs))), s ∧ partsOk Θ fs zs ((parts.toList.map (·.1)).zip xs) = true)
      | none => none
    | _, _ => none
  | .unOp u _ x =>
    match u, opOf E x with
    | .not, some (.v (.bool b), s) => some (.d (.v (.bool (!b))), s)
    | .neg, some (.v (.int k a), s) => some (.d (.v (.int k (k.wrap (0 - a)))), s)
    | _, _ => none
  | .makeFunc f first cap =>
    match opsOf E first.toList, opsOf E cap.toList with
    | some (fs, s), some (cs, s') => some (.d (.fn f fs cs), s ∧ s')
    | _, _ => none
  | .extract (.tmp k) i =>
    match E k with
    | .d (.tup ds) => match ds.getD i un with
      | .own _ _ _ _ => none
      | y => some (.d y, (decide (i < ds.length) && y.pl) = true)
    | _ => none
  | .nilCheck (.tmp k) =>
    match E k with
    | .ref s p => some (.ref s p, True)
    | .elt s p i q => some (.elt s p i q, True)
    | _ => none
  | _ => none

theorem evq_sound {o : Oper} {s : Slot} {c : Prop} (h : evq Θ E o = some (s, c)) (hc : c) : Ev P Θ E o s := by
  unfold evq at h
  split at h
  case h_1 k ho =>
    split at h
    · next hE => cases h; exact .mvOwn ho hE
    · next hE => cases h; exact .mvTup ho hE hc
    · next hE => cases h; exact .mv (.inl ho) (.tmp hE hc)
    · next hE => cases h; exact .mvBox ho hE
    · cases h
    · cases h
    · next hE => cases h; exact .wmv (.inl ho) hE
    · next s' h1 h1' h2 h3 h4 h5 h6 =>
      cases h
      refine .mvSame (.inl ho) rfl ?_
      generalize hE : E k = z at *
      cases z <;> first | rfl | exact absurd rfl h4 | exact absurd rfl h5 | exact (h6 _ rfl).elim | exact (h2 _ rfl).elim | exact (h3 _ rfl).elim | skip
  case h_2 x _ ho =>
    split at h
    · next h1 => cases h; exact .mv (.inl ho) (opOf_sound h1 hc)
    · cases h
  case h_3 k ho =>
    split at h
    · cases h
    · next hE => cases h; exact .mv (.inr ho) (.tmp hE hc)
    · cases h
    · cases h
    · cases h
    · next hE => cases h; exact .wmv (.inr ho) hE
    · next s' h1 h2 h3 h4 h5 h6 =>
      cases h
      refine .mvSame (.inr (.inl ho)) rfl ?_
      generalize hE : E k = z at *
      cases z <;> first | rfl | exact (h6 _ rfl).elim | exact (h2 _ rfl).elim | exact (h3 _ rfl).elim | exact absurd rfl h4 | exact absurd rfl h5
  case h_4 x _ ho =>
    split at h
    · next h1 => cases h; exact .mv (.inr ho) (opOf_sound h1 hc)
    · cases h
  case h_5 cc x y ho =>
    split at h
    · next h1 =>
      split at h
      · next h2 =>
        cases h
        exact .pickT ho (opOf_sound h1 hc.1) (opOf_sound h2 hc.2)
      · cases h
    · next h1 =>
      split at h
      · next h2 =>
        cases h
        exact .pickF ho (opOf_sound h1 hc.1) (opOf_sound h2 hc.2)
      · cases h
    · cases h
  case h_6 T ho => cases h; exact .alloc ho hc
  case h_7 T x ho =>
    split at h
    · next h1 => cases h; exact .box ho (opOf_sound h1 hc)
    · cases h
  case h_8 T k ho =>
    split at h
    · next h1 =>
      split at h
      · next h2 => cases h; exact .ldView ho (adrOf_sound h1) h2 hc
      · next h2 => cases h; exact .ldBox ho (adrOf_sound h1) hc.1 hc.2
    · split at h
      · next h1 => cases h; exact .ldElt ho (eltOf_sound h1) hc
      · split at h
        · next h1 => cases h; exact .ldPt ho h1 hc
        · cases h
  case h_9 T k f ho =>
    split at h
    · next fs ht =>
      split at h
      · next h1 =>
        split at h
        · next h2 => cases h; obtain ⟨c1, Tf, c2⟩ := faOk_sound hc; exact .faBox ho (adrOf_sound h1) h2 c1 ht c2
        · cases h
      · split at h
        · next h1 =>
          split at h
          · next h2 => cases h; obtain ⟨c1, Tf, c2⟩ := faOk_sound hc; exact .faElt ho (eltOf_sound h1) h2 c1 ht c2
          · cases h
        · split at h
          · next h1 => cases h; obtain ⟨c1, Tf, c2⟩ := faOk_sound hc; exact .faPt ho h1 c1 ht c2
          · cases h
    · cases h
  case h_10 T k ix ho =>
    split at h
    · next hix =>
      split at h
      · next ht =>
        split at h
        · next h1 =>
          split at h
          · next h2 => cases h; obtain ⟨c1, rfl, rfl, c3, c4⟩ := hc; exact .iaBox ho (adrOf_sound h1) h2 (opOf_sound hix c1) c3 (by omega) ht
          · cases h
        · split at h
          · next h1 => cases h; obtain ⟨c1, rfl, rfl, c3, c4⟩ := hc; exact .iaPt ho h1 (opOf_sound hix c1) c3 (by omega) ht
          · cases h
      · next ht =>
        split at h
        · next h1 => cases h; obtain ⟨c1, rfl, c3, c4⟩ := hc; exact .iaView ho (vwOf_sound h1) (opOf_sound hix c1) c3 c4 ht
        · split at h
          · next h1 => cases h; obtain ⟨c1, rfl, c3, c4⟩ := hc; exact .iaLst ho (.tmp h1 rfl) (opOf_sound hix c1) c3 c4 ht
          · cases h
      · cases h
    · cases h
  case h_11 T len parts ho =>
    split at h
    · next ht =>
      split at h
      · next h1 =>
        cases h
        obtain ⟨c1, c2⟩ := hc
        simp only [bsOk, Bool.and_eq_true, beq_iff_eq, List.all_eq_true, decide_eq_true_eq] at c2
        exact .buildSlice ho (opsOf_sound h1 c1) c2.1.1 ht c2.1.2 c2.2
      · cases h
    · cases h
  case h_12 T parts ho =>
    split at h
    · next ht hz =>
      split at h
      · next h1 => cases h; exact .build ho (opsOf_sound h1 hc.1) ht hz (partsOk_sound hc.2)
      · cases h
    · cases h
  case h_13 u T x ho =>
    split at h
    · next h1 =>
      cases h
      refine .uno ho (opOf_sound h1 hc) fun S w u hu => ?_
      rw [hu.v]
      exact ⟨_, rfl, RD.ofV rfl⟩
    · next h1 =>
      cases h
      refine .uno ho (opOf_sound h1 hc) fun S w u hu => ?_
      rw [hu.v]
      exact ⟨_, rfl, RD.ofV rfl⟩
    · cases h
  case h_14 f first cap ho =>
    split at h
    · next h1 h2 => cases h; exact .mf ho (opsOf_sound h1 hc.1) (opsOf_sound h2 hc.2)
    · cases h
  case h_15 k i ho =>
    split at h
    · next h1 =>
      split at h
      · cases h
      · cases h
        simp only [Bool.and_eq_true, decide_eq_true_eq] at hc
        exact .ext ho h1 hc.1 hc.2
    · cases h
  case h_16 k ho =>
    split at h
    · next h1 => cases h; exact .mvSame (.inr (.inr ho)) h1 rfl
    · next h1 => cases h; exact .mvSame (.inr (.inr ho)) h1 rfl
    · cases h
  case h_17 => cases h

end Go.Dat
