/- Building of structs and slices; new blocks. No conditions. -/
import Derived.Test.YtopmpbdjnkomoaaK5
namespace Go.Dat

variable [Tables]

variable {P : Program} {Θ : TypeId → TI} {n : Nat} {ρ ρ' : Nat → Tag} {w w' : World} {E : Nat → Slot} {t : Nat} {u : Value}

omit [Tables] in
theorem splice_toList : ∀ (l : List Value) (off k : Nat) (cells : Array Value), off + k + l.length ≤ cells.size →
    ((l.zipIdx k).foldl (fun (cs : Array Value) (x : Value × Nat) => cs.setIfInBounds (off + x.2) x.1) cells).toList = cells.toList.take (off + k) ++ l ++ cells.toList.drop (off + k + l.length)
  | [], off, k, cells, _ => by simp
  | v :: l, off, k, cells, h => by
    simp only [List.zipIdx_cons, List.foldl_cons]
    rw [splice_toList l off (k + 1) _ (by simp at h ⊢; omega)]
    have hk : off + k < cells.toList.length := by simp at h ⊢; omega
    simp only [Array.toList_setIfInBounds]
    have e1 : (cells.toList.set (off + k) v).take (off + (k + 1)) = cells.toList.take (off + k) ++ [v] := by
      rw [← Nat.add_assoc, List.take_set, List.take_succ_eq_append_getElem hk]
      have hmin : min (off + k) cells.size = off + k := by simp at hk; omega
      rw [List.set_append_right _ _ (by simp [hmin])]
      simp [hmin]
    have e2 : (cells.toList.set (off + k) v).drop (off + (k + 1) + l.length) = cells.toList.drop (off + k + (v :: l).length) := by
      rw [List.drop_set_of_lt (by omega)]
      congr 1
      simp
      omega
    rw [e1, e2]
    simp

omit [Tables] in
theorem fill_step (place : Nat → Option (Nat × Nat)) (cells : Array Value) (i : Nat) (v : Value) (rest : List (Nat × Value)) {off : Nat} (hp : place i = some (off, v.cells.size)) (hb : off + v.cells.size ≤ cells.size) :
    ∃ c' : Array Value, Instr.fill place cells ((i, v) :: rest) = Instr.fill place c' rest ∧ c'.toList = cells.toList.take off ++ v.cells.toList ++ cells.toList.drop (off + v.cells.size) ∧ c'.size = cells.size := by
  refine ⟨v.cells.zipIdx.foldl (fun cs (c, j) => cs.setIfInBounds (off + j) c) cells, ?_, ?_, ?_⟩
  · have h2 : ¬ (off + v.cells.size > cells.size) := by omega
    simp only [Instr.fill, hp]
    simp [h2]
  all_goals
    have h3 : (v.cells.zipIdx.foldl (fun (cs : Array Value) (x : Value × Nat) => cs.setIfInBounds (off + x.2) x.1) cells).toList = cells.toList.take off ++ v.cells.toList ++ cells.toList.drop (off + v.cells.size) := by
      rw [← Array.foldl_toList]
      have := splice_toList v.cells.toList off 0 cells (by simpa using hb)
      simpa using this
  · exact h3
  · have := congrArg List.length h3
    simp only [Array.length_toList, List.length_append, List.length_take, List.length_drop] at this
    rw [this]
    omega

omit [Tables] in
theorem fill_row (es : Nat) : ∀ (vs : List Value) (k : Nat) (cells : Array Value), (∀ v ∈ vs, v.cells.size = es) → (k + vs.length) * es = cells.size →
    ∃ c' : Array Value, Instr.fill (fun i => some (i * es, es)) cells ((List.range' k vs.length).zip vs) = some c' ∧ c'.toList = cells.toList.take (k * es) ++ vs.flatMap (·.cells.toList)
  | [], k, cells, _, h => ⟨cells, rfl, by
    have h' : k * es = cells.toList.length := by simpa using h
    rw [h', List.take_length]
    simp⟩
  | v :: vs, k, cells, hv, h => by
    have hve := hv v (by simp)
    have hmul : (k + (v :: vs).length) * es = k * es + es + vs.length * es := by simp only [List.length_cons, Nat.add_mul, Nat.one_mul]; omega
    obtain ⟨c1, h1, h2, h3⟩ := fill_step (fun i => some (i * es, es)) cells k v ((List.range' (k + 1) vs.length).zip vs) (off := k * es) (by simp [hve]) (by rw [hve]; omega)
    obtain ⟨c2, h4, h5⟩ := fill_row es vs (k + 1) c1 (fun v hv' => hv v (by simp [hv'])) (by rw [h3, ← h]; congr 1; simp; omega)
    refine ⟨c2, ?_, ?_⟩
    · rw [List.length_cons, List.range'_succ, List.zip_cons_cons, h1, h4]
    · rw [h5, h2, hve]
      have hlen : (cells.toList.take (k * es)).length = k * es := by simp; omega
      have hl2 : v.cells.toList.length = es := by simpa using hve
      rw [show (k + 1) * es = (cells.toList.take (k * es) ++ v.cells.toList).length by rw [List.length_append, hlen, hl2]; simp [Nat.add_mul]]
      rw [List.take_left]
      simp

omit [Tables] in
/-- Values of one size, as elements. -/
theorem Rpa.ofVals {S : Nat → Prop} {es : Nat} : ∀ {xs : List D} {vs : List Value}, Rpv S w xs vs → (∀ x ∈ xs, x.size = es) → Rpa S w es xs (vs.flatMap (·.cells.toList)) ∧ vs.length = xs.length ∧ ∀ v ∈ vs, v.cells.size = es
  | [], _, h, _ => by simp only [Rpv] at h; subst h; simp [Rpa]
  | x :: xs, _, h, hs => by
    simp only [Rpv] at h
    obtain ⟨u, y, cs, rfl, h1, h2, h3⟩ := h
    have hc := RD.cells ⟨cs, h1, h2⟩
    have hl := Rp.len x hc
    rw [hs x (by simp)] at hl
    obtain ⟨g1, g2, g3⟩ := Rpa.ofVals h3 (fun x hx => hs x (by simp [hx]))
    refine ⟨?_, by simp [g2], ?_⟩
    · simp only [List.flatMap_cons, Rpa]
      exact ⟨_, _, rfl, hl, hc, g1⟩
    · intro v hv
      rcases List.mem_cons.1 hv with rfl | hv
      · simpa using hl
      · exact g3 v hv

omit [Tables] in
theorem zip_fst_snd {α β : Type} : ∀ (l : List (α × β)), (l.map (·.1)).zip (l.map (·.2)) = l
  | [] => rfl
  | x :: l => by simp [zip_fst_snd l]

omit [Tables] in
theorem buildSlice_run {S : Nat → Prop} {T len e es b : Nat} {parts : List (Nat × Value)} {xs : List D} (h : TD.says P T (.sl e es b)) (hv : Rpv S w xs (parts.map (·.2))) (hi : parts.map (·.1) = List.range len)
    (hs : ∀ x ∈ xs, x.size = es) (hb : len * es ≤ 16777216) :
    ∃ c : Array Value, (Instr.buildSlice T len parts.toArray).run P w = .ok (.slice (some ⟨w.heap.size, 0, none⟩) len len) (w.alloc (.cells c e)) ∧ Rpa S w es xs c.toList ∧ c.size = len * es ∧ xs.length = len := by
  obtain ⟨h1, i, z, h2, h3, h4, h5, h6, h7⟩ := h
  obtain ⟨g1, g2, g3⟩ := Rpa.ofVals hv hs
  have hlen : parts.length = len := by have := congrArg List.length hi; simpa using this
  have hparts : parts = (List.range' 0 (parts.map (·.2)).length).zip (parts.map (·.2)) := by
    conv => lhs; rw [← zip_fst_snd parts]
    rw [hi, List.length_map, hlen, List.range_eq_range']
  obtain ⟨c, k1, k2⟩ := fill_row es (parts.map (·.2)) 0 ((Array.range (len * es)).map fun j => (if len * es = 0 then #[] else z.cells)[j % (if len * es = 0 then #[] else z.cells).size]!) g3 (by simp [hlen])
  rw [← hparts] at k1
  have hbig : ¬ (16777216 < len * es) := by omega
  refine ⟨c, ?_, ?_, ?_, ?_⟩
  · by_cases h0 : len * es = 0
    · obtain rfl : len = 0 := by rcases Nat.mul_eq_zero.1 h0 with h | h <;> omega
      obtain rfl : parts = [] := by simpa using hlen
      simp only [h0, if_true, Instr.fill, Option.some.injEq] at k1
      subst k1
      simp [Instr.buildSlice, run_underlying h1, sizeOf, typeInfo, h2, Instr.fill, newRow]
    · simp only [h0, if_false] at k1
      simp [Instr.buildSlice, run_underlying h1, sizeOf, typeInfo, h2, h3, zeroValue, h5, h0, hbig, k1, newRow]
  · rw [k2]; simpa using g1
  · have hl : c.toList.length = es * xs.length := Rp.len.row xs (by rw [k2]; simpa using g1)
    rw [Array.length_toList] at hl
    rw [hl, ← g2, List.length_map, hlen, Nat.mul_comm]
  · rw [← g2]; simpa using hlen

/-! ### New blocks -/

def ext (ρ : Nat → Tag) (w : World) (tg : Tag) (b : Nat) : Tag := if b = w.heap.size then tg else ρ b

omit [Tables] in
theorem Grow.alloc (hlt : ∀ b, ρ b ≠ .other → b < w.heap.size) (tg : Tag) (o : Obj) : Grow ρ w (ext ρ w tg) (w.alloc o) := by
  refine ⟨fun b hb => ?_, fun b hb => ⟨?_, heap_alloc_old w o b hb⟩, fun b hb => ?_, rfl, rfl, rfl, by simp⟩
  · have := hlt b hb
    simp [ext, Nat.ne_of_lt this]
  · simp [ext, Nat.ne_of_lt hb]
  · simp only [ext] at hb
    split at hb
    · subst_vars; simp
    · have := hlt b hb; simp; omega

omit [Tables] in
theorem Grow.drew (g : Grow ρ w ρ' w') : Grow ρ w ρ' w'.drew := ⟨g.keep, g.old, g.lt, g.os, g.tape, g.output, g.size⟩

omit [Tables] in
theorem RS.newBox {tmps : Array Value} {d : D} {cs : Array Value} {e : TypeId} (hlt : ∀ b, ρ b ≠ .other → b < w.heap.size) (h : Rp (sh ρ) w d cs.toList) :
    RS (ext ρ w (.bx t)) (w.alloc (.cells cs e)) tmps E t (.pointer (some ⟨w.heap.size, 0, none⟩)) (.box d) := by
  have g := Grow.alloc hlt (.bx t) (.cells cs e)
  refine ⟨w.heap.size, cs.toList, rfl, by simp [ext], ⟨e, ?_⟩, RB.ofRp ?_⟩
  · rw [heap_alloc_new]
  · exact Rp.mono (g.shd hlt) d h

omit [Tables] in
theorem RS.newOwn {tmps : Array Value} {xs : List D} {cs : Array Value} {e es cap : Nat} (hlt : ∀ b, ρ b ≠ .other → b < w.heap.size) (hes : xs.length ≤ cap) (hcap : cap ≤ maxLen) (hcs : cs.size = cap * es)
    (h : Rpa (sh ρ) w es xs (cs.toList.take (xs.length * es))) (hl : (cs.toList.take (xs.length * es)).length = xs.length * es) :
    RS (ext ρ w (.sl t [])) (w.alloc (.cells cs e)) tmps E t (.slice (some ⟨w.heap.size, 0, none⟩) xs.length cap) (.d (.own false e es xs)) := by
  have g := Grow.alloc hlt (.sl t []) (.cells cs e)
  refine ⟨[.slice (some ⟨w.heap.size, 0, none⟩) xs.length cap], ?_, rfl⟩
  simp only [RB]
  refine ⟨_, rfl, cs.toList.take (xs.length * es), ⟨hl, .inr ⟨w.heap.size, cap, cs, rfl, Nat.zero_le _, heap_alloc_new _ _, hes, hcap, hcs, rfl⟩⟩, ?_, by simp, ?_⟩
  · exact Rpa.mono (g.shd hlt) xs h
  · intro g' hg'
    simp only [Value.ownBlock, Option.some.injEq] at hg'
    subst hg'
    simp [ext]

/-! ### Structs -/

open Classical in
omit [Tables] in
theorem sh_tagS (S : Nat → Prop) : sh (tagS S) = S := by funext b; simp [sh, tagS]

omit [Tables] in
theorem fields_run (F : List Field) (h : ∀ f ∈ F, P.cellsOf f.type ≠ 0) :
    (F.mapM fun f => do pure (f.offset, ← sizeOf f.type) : Sem (List (Nat × Nat))).run P w = .ok (F.map fun f => (f.offset, P.cellsOf f.type)) w := by
  induction F with
  | nil => rfl
  | cons f F ih =>
    have h1 := h f (by simp)
    have h2 : (sizeOf f.type).run P w = .ok (P.cellsOf f.type) w := by
      unfold Program.cellsOf at h1 ⊢
      cases hq : P.info? f.type with
      | none => simp [hq] at h1
      | some i => simp [sizeOf, typeInfo, hq]
    simp only [List.mapM_cons, Sem.run_bind, h2, Result.andThen_ok, Sem.run_pure, ih (fun f hf => h f (by simp [hf])), List.map_cons]

omit [Tables] in
theorem fill_struct {S : Nat → Prop} {place : Nat → Option (Nat × Nat)} : ∀ (parts : List (Nat × Value)) (zs : List D) (xs : List D) (cells : Array Value), Rps S w zs cells.toList → Rpv S w xs (parts.map (·.2)) →
    (∀ ix ∈ (parts.map (·.1)).zip xs, place ix.1 = some (sizes (zs.take ix.1), ix.2.size) ∧ ix.1 < zs.length ∧ (zs.getD ix.1 un).size = ix.2.size) →
    ∃ c' : Array Value, Instr.fill place cells parts = some c' ∧ Rps S w (built zs ((parts.map (·.1)).zip xs)) c'.toList
  | [], zs, xs, cells, h, hv, _ => by
    exact ⟨cells, rfl, by simpa [built] using h⟩
  | (i, v) :: parts, zs, [], cells, h, hv, _ => by
    simp [Rpv] at hv
  | (i, v) :: parts, zs, x :: xs, cells, h, hv, hp => by
    simp only [List.map_cons, Rpv] at hv
    obtain ⟨u, y, cs, e1, h1, h2, h3⟩ := hv
    injection e1 with e1 e1'
    subst e1 e1'
    have hc := RD.cells ⟨cs, h1, h2⟩
    have hl := Rp.len x hc
    obtain ⟨p1, p2, p3⟩ := hp (i, x) (by simp)
    simp only at p1 p2 p3
    have hsz : v.cells.size = x.size := by simpa using hl
    -- the place of part i
    classical
    obtain ⟨a, m, b, q1, q2, q3, q4⟩ := RBs.lens (ρ := tagS S) (t := 0) (q := []) (k := 0) i zs ((RBs.plain zs (Rp.noOwn.many zs h)).2 (by rw [sh_tagS]; exact h)) p2
    have hm : m.length = x.size := by rw [RB.len _ q3, p3]
    have hcl : cells.size = a.length + m.length + b.length := by
      have := congrArg List.length q1
      simp only [Array.length_toList, List.length_append] at this
      omega
    obtain ⟨c1, f1, f2, f3⟩ := fill_step place cells i v parts (off := sizes (zs.take i)) (by rw [hsz]; exact p1) (by rw [← q2, hsz]; omega)
    have f2' : c1.toList = a ++ v.cells.toList ++ b := by
      rw [f2, q1, ← q2, hsz, ← hm]
      simp
    have hnew : Rps S w (zs.set i x) c1.toList := by
      rw [f2']
      have := q4 (tagS S) w ⟨fun b hb => ⟨hb, rfl⟩, fun b j r _ hb => ⟨rfl, rfl⟩⟩ x v.cells.toList (by rw [hl, hm]) (RB.ofRp (by rw [sh_tagS]; exact hc))
      have hno : noOwns (zs.set i x) = true := by
        have hz := Rp.noOwn.many zs h
        have hx := Rp.noOwn x hc
        clear q4 q3 q1 p1 p2 p3 hp f1 f2 f2' this q2 h
        revert i
        induction zs with
        | nil => intros; simp [noOwns]
        | cons z zs ih =>
          simp only [noOwns, Bool.and_eq_true] at hz
          intro i
          cases i with
          | zero => simp [noOwns, hx, hz.2]
          | succ i => simp [noOwns, hz.1, ih hz.2 i]
      have h5 := (RBs.plain (zs.set i x) hno).1 this
      rw [sh_tagS] at h5
      exact h5
    obtain ⟨c', g1, g2⟩ := fill_struct parts (zs.set i x) xs c1 hnew h3 (by
      intro ix hix
      obtain ⟨r1, r2, r3⟩ := hp ix (by simp [hix])
      have hsizes : ∀ (zs : List D) (i j : Nat), (zs.getD i un).size = x.size → i < zs.length → sizes ((zs.set i x).take j) = sizes (zs.take j) ∧ ((zs.set i x).getD j un).size = (zs.getD j un).size := by
        intro zs
        induction zs with
        | nil => intro i j _ h; simp at h
        | cons z zs ih =>
          intro i j hi hlt
          cases i with
          | zero =>
            simp at hi
            cases j <;> simp [sizes, hi]
          | succ i =>
            cases j with
            | zero => simp [sizes]
            | succ j =>
              obtain ⟨k1, k2⟩ := ih i j (by simpa using hi) (by simpa using hlt)
              constructor
              · simp [sizes, k1]
              · simpa using k2
      obtain ⟨k1, k2⟩ := hsizes zs i ix.1 p3 p2
      exact ⟨by rw [k1]; exact r1, by simpa using r2, by rw [k2]; exact r3⟩)
    exact ⟨c', by rw [f1]; exact g1, by simpa [built] using g2⟩

end Go.Dat
