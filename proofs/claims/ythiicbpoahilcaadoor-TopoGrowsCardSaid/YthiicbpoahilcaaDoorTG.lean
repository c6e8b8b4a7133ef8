/- Texts S24, S25, S26, S30, S31, S33, S34, S35, S36, Op2 in one file. No conditions. -/
import Derived.Test.YthiicbpoahilcaaDoorTC
import Derived.Test.YthiicbpoahilcaaDoorKC

namespace Go.Proofs.YthiicbpoahilcaaDoor
open Go Go.Dat

theorem getD_eq {α : Type} {l : List α} {i : Nat} {d : α} (h : i < l.length) : l.getD i d = l[i] := by
  rw [List.getD_eq_getElem?_getD]
  simp [h]

theorem assign_out {x : Nat} : ∀ {is ps : List Nat} {l : List Int}, x ∉ is → (assign l is ps).getD x 0 = l.getD x 0
  | [], _, _, _ => by simp [assign]
  | _ :: _, [], _, _ => by simp [assign]
  | i :: is, p :: ps, l, h => by
    simp only [List.mem_cons, not_or] at h
    simp only [assign]
    rw [assign_out h.2, List.getD_eq_getElem?_getD, List.getD_eq_getElem?_getD, List.getElem?_set_ne (fun e => h.1 e.symm)]
theorem assign_in : ∀ {is ps : List Nat} {l : List Int} {k : Nat}, is.Nodup → is.length = ps.length → (∀ i ∈ is, i < l.length) → k < is.length → (assign l is ps).getD (is.getD k 0) 0 = (ps.getD k 0 : Nat)
  | [], _, _, _, _, _, _, h => by simp at h
  | _ :: _, [], _, _, _, h, _, _ => by cases h
  | i :: is, p :: ps, l, 0, hn, hl, hi, _ => by
    simp only [assign, List.getD_cons_zero]
    rw [assign_out (List.nodup_cons.1 hn).1]
    have := hi i (by simp)
    rw [List.getD_eq_getElem?_getD]
    simp [this]
  | i :: is, p :: ps, l, k + 1, hn, hl, hi, hk => by
    simp only [assign, List.getD_cons_succ]
    exact assign_in (List.nodup_cons.1 hn).2 (by simpa using hl) (fun j hj => by rw [List.length_set]; exact hi j (by simp [hj])) (by simpa using hk)

/-- Where one stands in a row sorted by places: behind all that have less. -/
theorem idx_count {l : List Int} {x : Nat} : ∀ {L : List Nat} {k : Nat}, L.Pairwise (fun a b => pl l a < pl l b) → k < L.length → L.getD k 0 = x → L.countP (fun i => decide (pl l i < pl l x)) = k
  | [], _, _, h, _ => by simp at h
  | a :: L, 0, hp, _, hx => by
    rw [List.getD_cons_zero] at hx
    subst hx
    have h0 : L.countP (fun i => decide (pl l i < pl l a)) = 0 := List.countP_eq_zero.2 fun b hb => by
      have := (List.pairwise_cons.1 hp).1 b hb
      simp; omega
    rw [List.countP_cons, h0]
    simp
  | a :: L, k + 1, hp, hk, hx => by
    rw [List.getD_cons_succ] at hx
    have hk' : k < L.length := by simpa using hk
    have ih := idx_count (List.pairwise_cons.1 hp).2 hk' hx
    have hm : x ∈ L := by rw [← hx]; exact getD_mem hk'
    have := (List.pairwise_cons.1 hp).1 x hm
    rw [List.countP_cons, ih]
    simp [this]

theorem idx_of {L : List Nat} {x : Nat} (h : x ∈ L) : ∃ k, k < L.length ∧ L.getD k 0 = x := by
  obtain ⟨k, hk, e⟩ := List.getElem_of_mem h
  exact ⟨k, hk, by rw [getD_eq hk, e]⟩
theorem count_byO (l : List Int) (s x : Nat) : (byO l s).countP (fun i => decide (pl l i < pl l x)) = ((List.range 32).map (at' l)).countP (fun i => decide (pl l i < pl l x) && s.testBit i) := by
  unfold byO
  rw [List.countP_filter]

structure Moved (l nl : List Int) (H F : Nat) : Prop where
  perm : Perm32 nl
  out : ∀ i, i < 32 → H.testBit i = false → F.testBit i = false → pl nl i = pl l i
  hh : ∀ x y, x < 32 → y < 32 → H.testBit x = true → H.testBit y = true → pl l x < pl l y → pl nl x < pl nl y
  ff : ∀ x y, x < 32 → y < 32 → F.testBit x = true → F.testBit y = true → pl l x < pl l y → pl nl x < pl nl y
  hf : ∀ x y, x < 32 → y < 32 → H.testBit x = true → F.testBit y = true → pl nl x < pl nl y
  down : ∀ x, x < 32 → H.testBit x = true → pl nl x ≤ pl l x
  up : ∀ x, x < 32 → F.testBit x = true → pl l x ≤ pl nl x
  place : ∀ x, x < 32 → (H.testBit x = true ∨ F.testBit x = true) → ∃ z, z < 32 ∧ (H.testBit z = true ∨ F.testBit z = true) ∧ pl nl x = pl l z

theorem moved {l : List Int} (hp : Perm32 l) {H F : Nat} (hd : ∀ j, ¬ (F.testBit j = true ∧ H.testBit j = true)) : Moved l (newO l H F) H F := by
  have hcnt := byO_or (l := l) hd
  obtain ⟨xs, hxs⟩ : ∃ xs, xs = byO l (F ||| H) := ⟨_, rfl⟩
  obtain ⟨ys, hys⟩ : ∃ ys, ys = byO l H ++ byO l F := ⟨_, rfl⟩
  obtain ⟨ps, hps⟩ : ∃ ps, ps = xs.map (pl l) := ⟨_, rfl⟩
  have hnl : newO l H F = assign l ys ps := by rw [newO, ← hxs, hys, hps]
  have hlen : ys.length = ps.length := by rw [hys, hps, List.length_append, List.length_map, hcnt, hxs]
  have hxl : xs.length = ps.length := by rw [hps, List.length_map]
  have hymem : ∀ i, i ∈ ys ↔ i < 32 ∧ (H.testBit i = true ∨ F.testBit i = true) := fun i => by
    rw [hys, List.mem_append, hp.byO_mem, hp.byO_mem]
    constructor
    · rintro (h | h)
      · exact ⟨h.1, .inl h.2⟩
      · exact ⟨h.1, .inr h.2⟩
    · rintro ⟨h, h1 | h1⟩
      · exact .inl ⟨h, h1⟩
      · exact .inr ⟨h, h1⟩
  have hxmem : ∀ i, i ∈ xs ↔ i < 32 ∧ (H.testBit i = true ∨ F.testBit i = true) := fun i => by
    rw [hxs, hp.byO_mem, Nat.testBit_or, Bool.or_eq_true]
    exact ⟨fun h => ⟨h.1, h.2.symm⟩, fun h => ⟨h.1, h.2.symm⟩⟩
  have hnd : ys.Nodup := by
    rw [hys, List.nodup_append]
    refine ⟨pairwise_nodup (hp.byO_sorted H), pairwise_nodup (hp.byO_sorted F), fun a ha b hb => ?_⟩
    rintro rfl
    exact hd a ⟨(hp.byO_mem.1 hb).2, (hp.byO_mem.1 ha).2⟩
  have hin : ∀ k, k < ys.length → (newO l H F).getD (ys.getD k 0) 0 = (ps.getD k 0 : Nat) := fun k hk => by
    rw [hnl]
    exact assign_in hnd hlen (fun i hi => by rw [hp.len]; exact ((hymem i).1 hi).1) hk
  have hout : ∀ x, x ∉ ys → (newO l H F).getD x 0 = l.getD x 0 := fun x hx => by rw [hnl]; exact assign_out hx
  have hnlen : (newO l H F).length = 32 := by rw [hnl, assign_len, hp.len]
  have hpm : ∀ k, k < ps.length → ps.getD k 0 = pl l (xs.getD k 0) := fun k hk => by
    have hk' : k < xs.length := by omega
    rw [getD_eq hk, getD_eq hk']
    simp only [hps, List.getElem_map]
  have hinc : ∀ i j, i < j → j < ps.length → ps.getD i 0 < ps.getD j 0 := fun i j hij hj => by
    have hs := hp.byO_sorted (F ||| H)
    rw [← hxs] at hs
    rw [hpm i (by omega), hpm j hj, getD_eq (by omega : i < xs.length), getD_eq (by omega : j < xs.length)]
    exact (List.pairwise_iff_getElem.1 hs) i j (by omega) (by omega) hij
  have hinc' : ∀ i j, i ≤ j → j < ps.length → ps.getD i 0 ≤ ps.getD j 0 := fun i j hij hj => by
    rcases Nat.lt_or_ge i j with h | h
    · exact Nat.le_of_lt (hinc i j h hj)
    · rw [show i = j by omega]; exact Nat.le_refl _
  have hperm : Perm32 (newO l H F) := by
    refine ⟨hnlen, perm_of_all 32 _ (by omega) fun p hpp => ?_⟩
    obtain ⟨i, hi, e⟩ := hp.surj hpp
    by_cases hm : i ∈ ys
    · obtain ⟨k, hk, e2⟩ := idx_of ((hxmem i).2 ((hymem i).1 hm))
      have h1 := hin k (by omega)
      rw [hpm k (by omega), e2, e] at h1
      rw [← h1]
      have hky : ys.getD k 0 ∈ ys := getD_mem (by omega)
      exact getD_mem (by rw [hnlen]; exact ((hymem _).1 hky).1)
    · have h1 := hout i hm
      rw [(hp.pl_eq hi).1, e] at h1
      rw [← h1]
      exact getD_mem (by rw [hnlen]; exact hi)
  have hpl : ∀ k, k < ys.length → pl (newO l H F) (ys.getD k 0) = ps.getD k 0 := fun k hk => by
    unfold pl
    rw [hin k hk]
    exact Int.toNat_natCast _
  -- where the nodes of H and of F stand
  have hH : ∀ x, x < 32 → H.testBit x = true → ∃ k, k < (byO l H).length ∧ pl (newO l H F) x = ps.getD k 0 ∧ k = (byO l H).countP (fun i => decide (pl l i < pl l x)) := fun x hx hb => by
    obtain ⟨k, hk, e⟩ := idx_of (hp.byO_mem.2 ⟨hx, hb⟩)
    refine ⟨k, hk, ?_, (idx_count (hp.byO_sorted H) hk e).symm⟩
    have hk2 : k < ys.length := by rw [hys, List.length_append]; omega
    have e2 : ys.getD k 0 = x := by
      rw [hys, List.getD_eq_getElem?_getD, List.getElem?_append_left hk, ← List.getD_eq_getElem?_getD, e]
    rw [← hpl k hk2, e2]
  have hF : ∀ x, x < 32 → F.testBit x = true → ∃ k, k < (byO l F).length ∧ pl (newO l H F) x = ps.getD ((byO l H).length + k) 0 ∧ k = (byO l F).countP (fun i => decide (pl l i < pl l x)) := fun x hx hb => by
    obtain ⟨k, hk, e⟩ := idx_of (hp.byO_mem.2 ⟨hx, hb⟩)
    refine ⟨k, hk, ?_, (idx_count (hp.byO_sorted F) hk e).symm⟩
    have hk2 : (byO l H).length + k < ys.length := by rw [hys, List.length_append]; omega
    have e2 : ys.getD ((byO l H).length + k) 0 = x := by
      rw [hys, List.getD_eq_getElem?_getD, List.getElem?_append_right (by omega), Nat.add_sub_cancel_left, ← List.getD_eq_getElem?_getD, e]
    rw [← hpl _ hk2, e2]
  have hX : ∀ x, x < 32 → (H.testBit x = true ∨ F.testBit x = true) → ∃ k, k < ps.length ∧ ps.getD k 0 = pl l x ∧ k = (byO l H).countP (fun i => decide (pl l i < pl l x)) + (byO l F).countP (fun i => decide (pl l i < pl l x)) := fun x hx hb => by
    obtain ⟨k, hk, e⟩ := idx_of ((hxmem x).2 ⟨hx, hb⟩)
    refine ⟨k, by omega, by rw [hpm k (by omega), e], ?_⟩
    have h1 := idx_count (x := x) (by rw [hxs]; exact hp.byO_sorted (F ||| H)) hk e
    have h2 : ys.Perm xs := (List.perm_ext_iff_of_nodup hnd (by rw [hxs]; exact pairwise_nodup (hp.byO_sorted _))).2 fun i => by rw [hymem, hxmem]
    rw [← h1, ← h2.countP_eq, hys, List.countP_append]
  have hyl : ys.length = (byO l H).length + (byO l F).length := by rw [hys, List.length_append]
  have hmono : ∀ (s x y : Nat), pl l x < pl l y → s.testBit x = true → x < 32 → (byO l s).countP (fun i => decide (pl l i < pl l x)) < (byO l s).countP (fun i => decide (pl l i < pl l y)) := fun s x y hxy hs hx => by
    obtain ⟨k, hk, e⟩ := idx_of (hp.byO_mem.2 ⟨hx, hs⟩)
    have h1 := idx_count (hp.byO_sorted s) hk e
    have hall : ∀ (L : List Nat), L.countP (fun i => decide (pl l i < pl l x)) + (if x ∈ L then 1 else 0) ≤ L.countP (fun i => decide (pl l i < pl l y)) := by
      intro L
      induction L with
      | nil => simp
      | cons a L ih =>
        rw [List.countP_cons, List.countP_cons]
        by_cases ha : x = a
        · subst ha
          simp only [List.mem_cons, true_or, if_true, Nat.lt_irrefl, decide_false, Bool.false_eq_true, if_false, hxy, decide_true]
          have : L.countP (fun i => decide (pl l i < pl l x)) ≤ L.countP (fun i => decide (pl l i < pl l y)) := List.countP_mono_left fun i _ h => by simp at h ⊢; omega
          omega
        · have h2 : (if x ∈ a :: L then 1 else 0) = (if x ∈ L then 1 else 0) := by simp [ha]
          rw [h2]
          have h3 : (if decide (pl l a < pl l x) = true then 1 else 0) ≤ (if decide (pl l a < pl l y) = true then 1 else 0) := by
            by_cases h : pl l a < pl l x
            · have : pl l a < pl l y := by omega
              simp [h, this]
            · simp [h]
          omega
    have := hall (byO l s)
    rw [if_pos (hp.byO_mem.2 ⟨hx, hs⟩)] at this
    omega
  refine ⟨hperm, fun i hi h1 h2 => ?_, fun x y hx hy h1 h2 hlt => ?_, fun x y hx hy h1 h2 hlt => ?_, fun x y hx hy h1 h2 => ?_, fun x hx h1 => ?_, fun x hx h1 => ?_, fun x hx h1 => ?_⟩
  · have := hout i (fun h => by have := ((hymem i).1 h).2; rw [h1, h2] at this; simp at this)
    unfold pl
    rw [this]
  · obtain ⟨k, g1, g2, g3⟩ := hH x hx h1
    obtain ⟨k', g1', g2', g3'⟩ := hH y hy h2
    rw [g2, g2']
    have := hmono H x y hlt h1 hx
    exact hinc _ _ (by omega) (by omega)
  · obtain ⟨k, g1, g2, g3⟩ := hF x hx h1
    obtain ⟨k', g1', g2', g3'⟩ := hF y hy h2
    rw [g2, g2']
    have := hmono F x y hlt h1 hx
    exact hinc _ _ (by omega) (by omega)
  · obtain ⟨k, g1, g2, g3⟩ := hH x hx h1
    obtain ⟨k', g1', g2', g3'⟩ := hF y hy h2
    rw [g2, g2']
    exact hinc _ _ (by omega) (by omega)
  · obtain ⟨k, g1, g2, g3⟩ := hH x hx h1
    obtain ⟨m, q1, q2, q3⟩ := hX x hx (.inl h1)
    rw [g2, ← q2]
    exact hinc' _ _ (by omega) q1
  · obtain ⟨k, g1, g2, g3⟩ := hF x hx h1
    obtain ⟨m, q1, q2, q3⟩ := hX x hx (.inr h1)
    rw [g2, ← q2]
    have : (byO l H).countP (fun i => decide (pl l i < pl l x)) ≤ (byO l H).length := List.countP_le_length
    exact hinc' _ _ (by omega) (by omega)
  · obtain ⟨k, hk, e⟩ := idx_of ((hymem x).2 ⟨hx, h1⟩)
    have h2 := hpl k hk
    rw [e, hpm k (by omega)] at h2
    have hm : xs.getD k 0 ∈ xs := getD_mem (by omega)
    obtain ⟨q1, q2⟩ := (hxmem _).1 hm
    exact ⟨_, q1, q2, h2⟩
end Go.Proofs.YthiicbpoahilcaaDoor

namespace Go.Proofs.YthiicbpoahilcaaDoor
open Go Go.Dat

theorem putG_true {g : List Nat} {a b : Int} (h : (putG g a b).2 = true) : ∃ A B : Nat, a = A ∧ b = B ∧ A < 32 ∧ B < 32 ∧ A ≠ B ∧ putG g a b = (g.set A (withN (g.getD A 0) (B : Int)), true) := by
  unfold putG at h ⊢
  split at h
  · next hc =>
    simp only [Bool.and_eq_true, bne_iff_ne, ne_eq] at hc
    obtain ⟨A, rfl, hA⟩ := node_nat hc.1.1
    obtain ⟨B, rfl, hB⟩ := node_nat hc.1.2
    refine ⟨A, B, rfl, rfl, hA, hB, fun e => hc.2 (by rw [e]), ?_⟩
    rw [if_pos (by simp only [Bool.and_eq_true, bne_iff_ne, ne_eq]; exact hc), Int.toNat_natCast]
  · cases h
theorem put_edge {g : List Nat} (hg : g.length = 32) {A B : Nat} (hA : A < 32) (hB : B < 32) (i k : Nat) : edge (g.set A (withN (g.getD A 0) (B : Int))) i k = true ↔ edge g i k = true ∨ (i = A ∧ k = B) := by
  unfold edge
  by_cases hi : i = A
  · subst hi
    have : (g.set i (withN (g.getD i 0) (B : Int))).getD i 0 = withN (g.getD i 0) (B : Int) := by
      rw [List.getD_eq_getElem?_getD]
      simp [hg, hA]
    rw [this, with_bit (by omega)]
    simp only [Bool.and_eq_true, Bool.or_eq_true, decide_eq_true_eq, true_and]
    constructor
    · rintro ⟨h, h1 | h1⟩
      · exact .inl ⟨h, h1⟩
      · exact .inr h1.symm
    · rintro (⟨h, h1⟩ | rfl)
      · exact ⟨h, .inl h1⟩
      · exact ⟨⟨hA, hB⟩, .inr rfl⟩
  · have : (g.set A (withN (g.getD A 0) (B : Int))).getD i 0 = g.getD i 0 := by
      rw [List.getD_eq_getElem?_getD, List.getElem?_set_ne (fun e => hi e.symm), ← List.getD_eq_getElem?_getD]
    rw [this]
    simp [hi]

/-- What comes of an edge. -/
inductive InsR (g : List Nat) (l : List Int) (a b : Int) : Prop
  | no : insG g l a b = (g, l, false) → ((putG g a b).2 = false ∨ sortedN g l = false) → InsR g l a b
  | up (A B : Nat) : a = A → b = B → A < 32 → B < 32 → A ≠ B → sortedN g l = true → pl l A < pl l B → insG g l a b = (g.set A (withN (g.getD A 0) (B : Int)), l, true) → (putG g a b) = (g.set A (withN (g.getD A 0) (B : Int)), true) → InsR g l a b
  | round (A B : Nat) : a = A → b = B → A < 32 → B < 32 → A ≠ B → sortedN g l = true → pl l B < pl l A → Comes (nxF g l A) B A → insG g l a b = (g, l, false) → (putG g a b) = (g.set A (withN (g.getD A 0) (B : Int)), true) → InsR g l a b
  | down (A B : Nat) : a = A → b = B → A < 32 → B < 32 → A ≠ B → sortedN g l = true → pl l B < pl l A → (foreN g l A B).testBit A = false → insG g l a b = (g.set A (withN (g.getD A 0) (B : Int)), newO l (hindN g l A B) (foreN g l A B), true) → (putG g a b) = (g.set A (withN (g.getD A 0) (B : Int)), true) → InsR g l a b

theorem insR (g : List Nat) (l : List Int) (a b : Int) (hl : l.length = 32) : InsR g l a b := by
  cases h1 : (putG g a b).2 with
  | false => exact .no (by unfold insG; rw [h1]; rfl) (.inl h1)
  | true =>
    cases h2 : sortedN g l with
    | false => exact .no (by unfold insG; rw [h1, h2]; rfl) (.inr h2)
    | true =>
      obtain ⟨A, B, rfl, rfl, hA, hB, hne, hq⟩ := putG_true h1
      have hp := ((sorted_iff hl).1 h2).1
      have e1 := (hp.pl_eq hA).1
      have e2 := (hp.pl_eq hB).1
      have hne2 : pl l A ≠ pl l B := fun e => hne (hp.inj hA hB e)
      by_cases h3 : l.getD A 0 < l.getD B 0
      · refine .up A B rfl rfl hA hB hne h2 (by omega) ?_ hq
        unfold insG
        rw [hq, h2]
        simp only [Bool.not_true, Bool.or_false, Bool.false_eq_true, if_false, Int.toNat_natCast, if_pos h3]
      · have hs : small (A : Int) = true := by simp [small]; omega
        cases h4 : (foreN g l A B).testBit A with
        | true =>
          refine .round A B rfl rfl hA hB hne h2 (by omega) (setOf_bit.1 h4).2 ?_ hq
          unfold insG
          rw [hq, h2]
          simp only [Bool.not_true, Bool.or_false, Bool.false_eq_true, if_false, Int.toNat_natCast, if_neg h3, hasN, hs, h4, Bool.true_and, if_true]
        | false =>
          refine .down A B rfl rfl hA hB hne h2 (by omega) h4 ?_ hq
          unfold insG
          rw [hq, h2]
          simp only [Bool.not_true, Bool.or_false, Bool.false_eq_true, if_false, Int.toNat_natCast, if_neg h3, hasN, hs, h4, Bool.true_and]

/-- Behind an edge that goes down. -/
structure Down (g : List Nat) (l : List Int) (A B : Nat) : Prop where
  moved : Moved l (newO l (hindN g l A B) (foreN g l A B)) (hindN g l A B) (foreN g l A B)
  inF : ∀ x, (foreN g l A B).testBit x = true → x < 32 ∧ pl l B ≤ pl l x ∧ pl l x ≤ pl l A
  inH : ∀ x, (hindN g l A B).testBit x = true → x < 32 ∧ pl l B ≤ pl l x ∧ pl l x ≤ pl l A
  apart : ∀ x, ¬ ((foreN g l A B).testBit x = true ∧ (hindN g l A B).testBit x = true)
  cloF : ∀ x y, (foreN g l A B).testBit x = true → edge g x y = true → pl l y ≤ pl l A → (foreN g l A B).testBit y = true
  cloH : ∀ x y, (hindN g l A B).testBit y = true → edge g x y = true → pl l B ≤ pl l x → (hindN g l A B).testBit x = true
  endA : (hindN g l A B).testBit A = true
  endB : (foreN g l A B).testBit B = true

theorem downs {g : List Nat} {l : List Int} {A B : Nat} (hl : l.length = 32) (hA : A < 32) (hB : B < 32) (hs : sortedN g l = true) (hlt : pl l B < pl l A) (hno : (foreN g l A B).testBit A = false) : Down g l A B := by
  obtain ⟨hp, he⟩ := (sorted_iff hl).1 hs
  have hap := apart hp he hA hB (Nat.le_of_lt hlt) (by rw [hno]; simp)
  have hF : ∀ x, (foreN g l A B).testBit x = true → x < 32 ∧ pl l B ≤ pl l x ∧ pl l x ≤ pl l A := fun x h => fore_lt hp he hA hB (Nat.le_of_lt hlt) (setOf_bit.1 h).2
  have hH : ∀ x, (hindN g l A B).testBit x = true → x < 32 ∧ pl l B ≤ pl l x ∧ pl l x ≤ pl l A := fun x h => hind_lt hp he hA hB (Nat.le_of_lt hlt) (setOf_bit.1 h).2
  refine ⟨moved hp hap, hF, hH, hap, fun x y h h1 h2 => ?_, fun x y h h1 h2 => ?_, setOf_bit.2 ⟨by omega, .base⟩, setOf_bit.2 ⟨by omega, .base⟩⟩
  · have hy : y < 32 := by simp only [edge, Bool.and_eq_true, decide_eq_true_eq] at h1; exact h1.1.2
    exact setOf_bit.2 ⟨by omega, (setOf_bit.1 h).2.step ((nxF_iff hp hA).2 ⟨h1, h2⟩)⟩
  · have hx : x < 32 := by simp only [edge, Bool.and_eq_true, decide_eq_true_eq] at h1; exact h1.1.1
    exact setOf_bit.2 ⟨by omega, (setOf_bit.1 h).2.step ((nxH_iff hp hB).2 ⟨h1, h2⟩)⟩

theorem down_sorted {g : List Nat} {l : List Int} {A B : Nat} (hg : g.length = 32) (hl : l.length = 32) (hA : A < 32) (hB : B < 32) (hs : sortedN g l = true) (d : Down g l A B) :
    sortedN (g.set A (withN (g.getD A 0) (B : Int))) (newO l (hindN g l A B) (foreN g l A B)) = true := by
  obtain ⟨hp, he⟩ := (sorted_iff hl).1 hs
  obtain ⟨M, hF, hH, hap, cF, cH, eA, eB⟩ := d
  generalize hindN g l A B = H at *
  generalize foreN g l A B = F at *
  refine (sorted_iff M.perm.len).2 ⟨M.perm, fun x y h => ?_⟩
  rcases (put_edge hg hA hB x y).1 h with h | ⟨rfl, rfl⟩
  · have hxy : x < 32 ∧ y < 32 := by simp only [edge, Bool.and_eq_true, decide_eq_true_eq] at h; exact h.1
    have hlt := he x y h
    cases hx : H.testBit x with
    | true =>
      cases hy : H.testBit y with
      | true => exact M.hh x y hxy.1 hxy.2 hx hy hlt
      | false =>
        cases hy2 : F.testBit y with
        | true => exact M.hf x y hxy.1 hxy.2 hx hy2
        | false =>
          rw [M.out y hxy.2 hy hy2]
          have := M.down x hxy.1 hx
          omega
    | false =>
      cases hx2 : F.testBit x with
      | true =>
        cases hy : H.testBit y with
        | true => exact absurd ⟨cF x y hx2 h (hH y hy).2.2, hy⟩ (hap y)
        | false =>
          cases hy2 : F.testBit y with
          | true => exact M.ff x y hxy.1 hxy.2 hx2 hy2 hlt
          | false =>
            rw [M.out y hxy.2 hy hy2]
            obtain ⟨z, hz, hz2, e⟩ := M.place x hxy.1 (.inr hx2)
            have h1 : pl l z ≤ pl l A := by
              rcases hz2 with h | h
              · exact (hH z h).2.2
              · exact (hF z h).2.2
            have h2 : ¬ pl l y ≤ pl l A := fun hc => by rw [cF x y hx2 h hc] at hy2; cases hy2
            omega
      | false =>
        rw [M.out x hxy.1 hx hx2]
        cases hy : H.testBit y with
        | true =>
          obtain ⟨z, hz, hz2, e⟩ := M.place y hxy.2 (.inl hy)
          have h1 : pl l B ≤ pl l z := by
            rcases hz2 with h | h
            · exact (hH z h).2.1
            · exact (hF z h).2.1
          have h2 : ¬ pl l B ≤ pl l x := fun hc => by rw [cH x y hy h hc] at hx; cases hx
          omega
        | false =>
          cases hy2 : F.testBit y with
          | true =>
            have := M.up y hxy.2 hy2
            omega
          | false =>
            rw [M.out y hxy.2 hy hy2]
            exact hlt
  · exact M.hf x y hA hB eA eB

/-- A graph with its order. -/
structure Fit (g : List Nat) (l : List Int) : Prop where
  gk : gok g
  ln : l.length = 32
  so : sortedN g l = true
theorem ins_fit {g : List Nat} {l : List Int} (h : Fit g l) (a b : Int) : Fit (insG g l a b).1 (insG g l a b).2.1 := by
  rcases insR g l a b h.ln with ⟨e, _⟩ | ⟨A, B, _, _, hA, hB, hne, hs, hlt, e, _⟩ | ⟨A, B, _, _, hA, hB, hne, hs, hlt, hc, e, _⟩ | ⟨A, B, _, _, hA, hB, hne, hs, hlt, hc, e, _⟩
  · rw [e]; exact h
  · rw [e]
    refine ⟨h.gk.set _ (withN_lt _ (h.gk.at _)), h.ln, ?_⟩
    obtain ⟨hp, he⟩ := (sorted_iff h.ln).1 hs
    refine (sorted_iff h.ln).2 ⟨hp, fun x y hxy => ?_⟩
    rcases (put_edge h.gk.1 hA hB x y).1 hxy with h1 | ⟨rfl, rfl⟩
    · exact he x y h1
    · exact hlt
  · rw [e]; exact h
  · rw [e]
    have d := downs h.ln hA hB hs hlt hc
    exact ⟨h.gk.set _ (withN_lt _ (h.gk.at _)), d.moved.perm.len, down_sorted h.gk.1 h.ln hA hB hs d⟩
theorem ins_edges {g : List Nat} {l : List Int} (h : Fit g l) (a b : Int) {i k : Nat} (he : edge g i k = true) : edge (insG g l a b).1 i k = true := by
  rcases insR g l a b h.ln with ⟨e, _⟩ | ⟨A, B, _, _, hA, hB, hne, hs, hlt, e, _⟩ | ⟨A, B, _, _, hA, hB, hne, hs, hlt, hc, e, _⟩ | ⟨A, B, _, _, hA, hB, hne, hs, hlt, hc, e, _⟩
  · rw [e]; exact he
  · rw [e]; exact (put_edge h.gk.1 hA hB i k).2 (.inl he)
  · rw [e]; exact he
  · rw [e]; exact (put_edge h.gk.1 hA hB i k).2 (.inl he)
theorem fit0 : Fit G0 (upto 32) := ⟨gok0, upto_len 32, by decide +kernel⟩
end Go.Proofs.YthiicbpoahilcaaDoor

namespace Go.Proofs.YthiicbpoahilcaaDoor
open Go Go.Dat

theorem all_eq {α : Type} [DecidableEq α] {a b : List α} {n : Nat} {z : α} (ha : a.length = n) (hb : b.length = n) : (List.range n).all (fun i => decide (a.getD i z = b.getD i z)) = decide (a = b) := by
  rw [Bool.eq_iff_iff, List.all_eq_true, decide_eq_true_eq]
  constructor
  · intro h
    apply List.ext_getElem (by omega)
    intro i h1 h2
    have := h i (List.mem_range.2 (by omega))
    rw [decide_eq_true_eq, getD_eq h1, getD_eq h2] at this
    exact this
  · rintro rfl i _
    simp
theorem eqOrd {T : TypeId} {x y : Operand} {a b : List Int} (ha : a.length = 32) (hb : b.length = 32) (hT : (Θ T).td = .ar 32 3 1) (hg : Tryd.prog.eqGuardType Tryd.prog.depth T = false) : BinD Tryd.prog .eql T x y (ord a) (ord b) (.v (.bool (decide (a = b)))) := by
  have h : EqT Tryd.prog (9999 + 1) T (.arr 1 (ints a)) (.arr 1 (ints b)) ((List.range 32).all fun i => decide (a.getD i 0 = b.getD i 0)) :=
    EqT.arr agree hT (by rw [ints_len, ha]) (by rw [ints_len, hb]) (fun i hi => by
      have e1 : (ints a).getD i un = .v (.int .i64 (a.getD i 0)) := by simp [ints, ha, hi]
      have e2 : (ints b).getD i un = .v (.int .i64 (b.getD i 0)) := by simp [ints, hb, hi]
      rw [e1, e2]
      exact ⟨rfl, rfl⟩) (fun i hi => by
      have e1 : (ints a).getD i un = .v (.int .i64 (a.getD i 0)) := by simp [ints, ha, hi]
      have e2 : (ints b).getD i un = .v (.int .i64 (b.getD i 0)) := by simp [ints, hb, hi]
      rw [e1, e2]
      have := EqT.int (P := Tryd.prog) (d := 9998) (T := 3) (k := .i64) (k0 := .i64) (x := a.getD i 0) (y := b.getD i 0) Tryd.underlying3
      by_cases e : a.getD i 0 = b.getD i 0
      · rw [decide_eq_true e]; rwa [show (a.getD i 0 == b.getD i 0) = true by simpa using e] at this
      · rw [decide_eq_false e]; rwa [show (a.getD i 0 == b.getD i 0) = false by simpa using e] at this)
  rw [all_eq ha hb] at h
  exact BinD.eqAr hg h
theorem eqGr {T : TypeId} {e : TypeId} {x y : Operand} {a b : List Nat} (ha : a.length = 32) (hb : b.length = 32) (hT : (Θ T).td = .ar 32 e 1) (he : Tryd.prog.underlying e = some (.int .u64)) (hf : ∀ n : Nat, (Θ e).fits (S n) = true) (hg : Tryd.prog.eqGuardType Tryd.prog.depth T = false) : BinD Tryd.prog .eql T x y (gr a) (gr b) (.v (.bool (decide (a = b)))) := by
  have h : EqT Tryd.prog (9999 + 1) T (.arr 1 (sets a)) (.arr 1 (sets b)) ((List.range 32).all fun i => decide (a.getD i 0 = b.getD i 0)) :=
    EqT.arr agree hT (by rw [sets_len, ha]) (by rw [sets_len, hb]) (fun i hi => by
      have e1 : (sets a).getD i un = S (a.getD i 0) := by simp [sets, ha, hi]
      have e2 : (sets b).getD i un = S (b.getD i 0) := by simp [sets, hb, hi]
      rw [e1, e2]
      exact ⟨hf _, hf _⟩) (fun i hi => by
      have e1 : (sets a).getD i un = S (a.getD i 0) := by simp [sets, ha, hi]
      have e2 : (sets b).getD i un = S (b.getD i 0) := by simp [sets, hb, hi]
      rw [e1, e2]
      have := EqT.int (P := Tryd.prog) (d := 9998) (T := e) (k := .u64) (k0 := .u64) (x := (a.getD i 0 : Nat)) (y := (b.getD i 0 : Nat)) he
      by_cases e : a.getD i 0 = b.getD i 0
      · rw [decide_eq_true e]
        rwa [show (((a.getD i 0 : Nat) : Int) == ((b.getD i 0 : Nat) : Int)) = true by rw [e]; simp] at this
      · rw [decide_eq_false e]
        rwa [show (((a.getD i 0 : Nat) : Int) == ((b.getD i 0 : Nat) : Int)) = false by simp only [beq_eq_false_iff_ne, ne_eq]; omega] at this)
  rw [all_eq ha hb] at h
  exact BinD.eqAr hg h

theorem noOwns_gl (g : List Nat) (l : List Int) (x : Value) : noOwns [gr g, ord l, .v x] = true := by
  show ((gr g).pl && ((ord l).pl && true)) = true
  rw [gr_pl, ord_pl]
  rfl

/-- An edge. -/
def ed (q : Int × Int) : D := .st [.v (.int .i64 q.1), .v (.int .i64 q.2)]
def eds (l : List (Int × Int)) : List D := l.map ed
theorem eds_len (l : List (Int × Int)) : (eds l).length = l.length := by simp [eds]
theorem eds_pre (pre post : List (Int × Int)) (x : Int × Int) : (eds (pre ++ x :: post)).getD ((pre.length : Int)).toNat un = ed x := by simp [eds]
/-- Edges come, one behind the other. -/
noncomputable def growN (es : List (Int × Int)) : List Nat × List Int := es.foldl (fun q e => ((insG q.1 q.2 e.1 e.2).1, (insG q.1 q.2 e.1 e.2).2.1)) (G0, upto 32)
theorem grow_snoc (es : List (Int × Int)) (e : Int × Int) : growN (es ++ [e]) = ((insG (growN es).1 (growN es).2 e.1 e.2).1, (insG (growN es).1 (growN es).2 e.1 e.2).2.1) := by
  unfold growN
  rw [List.foldl_append]
  rfl
theorem grow_fit (es : List (Int × Int)) : Fit (growN es).1 (growN es).2 := by
  have : ∀ n (l : List (Int × Int)), l.length = n → Fit (growN l).1 (growN l).2 := by
    intro n
    induction n with
    | zero => intro l hl; rw [List.eq_nil_of_length_eq_zero hl]; exact fit0
    | succ n ih =>
      intro l hl
      have hne : l ≠ [] := by rintro rfl; simp at hl
      rw [(List.dropLast_concat_getLast hne).symm, grow_snoc]
      exact ins_fit (ih l.dropLast (by simp [hl])) _ _
  exact this _ es rfl
end Go.Proofs.YthiicbpoahilcaaDoor

namespace Go.Proofs.YthiicbpoahilcaaDoor
open Go Go.Dat

/-- What comes of a by one step or more. -/
def Comes1 (nx : Nat → Nat → Bool) (a j : Nat) : Prop := ∃ i, Comes nx a i ∧ nx i j = true

structure SI (nxt : Nat → Nat) (a had new : Nat) : Prop where
  lt : had < M64
  lt2 : new < M64
  sound : ∀ j, had.testBit j = true → j < 32 ∧ Comes1 (nxf nxt fun _ => true) a j
  sound2 : ∀ j, new.testBit j = true → j < 32 ∧ Comes1 (nxf nxt fun _ => true) a j
  apart : ∀ j, new.testBit j = true → had.testBit j = false
  first : ∀ k, (nxt a).testBit k = true → had.testBit k = true ∨ new.testBit k = true
  clo : ∀ i, had.testBit i = true → ∀ k, (nxt i).testBit k = true → had.testBit k = true ∨ new.testBit k = true

theorem nxt_true {nxt : Nat → Nat} {i k : Nat} : nxf nxt (fun _ => true) i k = (nxt i).testBit k := by simp [nxf]
theorem comes_one {nx : Nat → Nat → Bool} {a j : Nat} (h : Comes1 nx a j) : Comes nx a j := by
  obtain ⟨i, h1, h2⟩ := h
  exact h1.step h2
theorem SI.start {nxt : Nat → Nat} {a : Nat} (hn : ∀ i, nxt i < 4294967296) : SI nxt a 0 (nxt a) := by
  refine ⟨by decide, Nat.lt_trans (hn a) (by decide), fun j hj => by simp at hj, fun j hj => ⟨?_, a, Comes.base, by rw [nxt_true]; exact hj⟩, fun j _ => by simp, fun k hk => .inr hk, fun i hi => by simp at hi⟩
  rcases Nat.lt_or_ge j 32 with h | h
  · exact h
  · rw [hi_bit32 (hn a) h] at hj
    cases hj
theorem SI.next {nxt : Nat → Nat} {a had new i : Nat} (hn : ∀ i, nxt i < 4294967296) (h : SI nxt a had new) (hi : new.testBit i = true) : SI nxt a (withN had (i : Int)) (andn (new ||| nxt i) (withN had (i : Int))) := by
  have hi32 := (h.sound2 i hi).1
  have hw : ∀ j, (withN had (i : Int)).testBit j = true ↔ had.testBit j = true ∨ i = j := fun j => by rw [with_bit (by omega)]; simp
  have hor : new ||| nxt i < M64 := or_lt h.lt2 (Nat.lt_trans (hn i) (by decide))
  have ha : ∀ j, (andn (new ||| nxt i) (withN had (i : Int))).testBit j = true ↔ (new.testBit j = true ∨ (nxt i).testBit j = true) ∧ (withN had (i : Int)).testBit j = false := fun j => by
    rw [andn_bit hor, Nat.testBit_or]; simp
  refine ⟨withN_lt _ h.lt, andn_lt _ _, fun j hj => ?_, fun j hj => ?_, fun j hj => ((ha j).1 hj).2, fun k hk => ?_, fun j hj k hk => ?_⟩
  · rcases (hw j).1 hj with h1 | rfl
    · exact h.sound j h1
    · exact h.sound2 i hi
  · rcases ((ha j).1 hj).1 with h1 | h1
    · exact h.sound2 j h1
    · refine ⟨?_, i, comes_one (h.sound2 i hi).2, by rw [nxt_true]; exact h1⟩
      rcases Nat.lt_or_ge j 32 with h2 | h2
      · exact h2
      · rw [hi_bit32 (hn i) h2] at h1; cases h1
  · cases hb : (withN had (i : Int)).testBit k with
    | true => exact .inl rfl
    | false =>
      rcases h.first k hk with h1 | h1
      · rw [(hw k).2 (.inl h1)] at hb; cases hb
      · exact .inr ((ha k).2 ⟨.inl h1, hb⟩)
  · cases hb : (withN had (i : Int)).testBit k with
    | true => exact .inl rfl
    | false =>
      rcases (hw j).1 hj with h0 | rfl
      · rcases h.clo j h0 k hk with h1 | h1
        · rw [(hw k).2 (.inl h1)] at hb; cases hb
        · exact .inr ((ha k).2 ⟨.inl h1, hb⟩)
      · exact .inr ((ha k).2 ⟨.inr hk, hb⟩)
theorem SI.done {nxt : Nat → Nat} {a had : Nat} (h : SI nxt a had 0) : had = setOf (Comes1 (nxf nxt fun _ => true) a) := by
  have hc : ∀ j, Comes (nxf nxt fun _ => true) a j → j = a ∨ had.testBit j = true := fun j hj => by
    induction hj with
    | base => exact .inl rfl
    | step _ hn ih =>
      rw [nxt_true] at hn
      rcases ih with rfl | ih
      · rcases h.first _ hn with h1 | h1
        · exact .inr h1
        · simp at h1
      · rcases h.clo _ ih _ hn with h1 | h1
        · exact .inr h1
        · simp at h1
  refine setOf_eq h.lt fun j _ => ⟨fun hj => (h.sound j hj).2, ?_⟩
  rintro ⟨i, h1, h2⟩
  rw [nxt_true] at h2
  rcases hc i h1 with rfl | h3
  · rcases h.first _ h2 with h4 | h4
    · exact h4
    · simp at h4
  · rcases h.clo _ h3 _ h2 with h4 | h4
    · exact h4
    · simp at h4

theorem c_spread (f : FuncId) (cs : List D) (nxt : Nat → Nat) (a : Nat) (ha : a < 32) (hn : ∀ i, nxt i < 4294967296) (hc : Callable Tryd.prog f)
    (h1 : ∀ i : Nat, i < 32 → DFun Tryd.prog f ([] ++ [.v (.int .i64 (i : Nat))] ++ cs) (S (nxt i))) :
    DFun Tryd.prog 62 [.v (.int .i64 a), .fn (.func f) [] cs] (S (setOf (Comes1 (nxf nxt fun _ => true) a))) := by
  refine DFun.ofRun agree mixed Tryd.func62 rfl rfl ?_
  refine wa ?_
  refine wc ?_
  repeat (first | refine wb ?_ | refine wc ?_ | refine wd ?_ | refine we ?_ | refine wf ?_ | refine wg ?_ | refine wh ?_ | refine wi ?_ | ((first | refine wl rfl rfl ?_ ?_ | refine wn (wp rfl rfl rfl rfl rfl ?_) rfl ?_ | refine wn (wq agree rfl rfl rfl ?_) rfl ?_ | refine wm rfl rfl rfl ?_ ?_ | refine wo rfl (wp rfl rfl rfl rfl rfl ?_) rfl ?_ | refine wo rfl (wq agree rfl rfl rfl ?_) rfl ?_ | refine wt rfl ?_ ?_ | refine wu rfl ?_ ?_ | refine wv rfl rfl ?_ rfl rfl ?_ | refine xa agree rfl rfl ?_ ?_ | refine xb agree rfl rfl rfl ?_ ?_); try (first | exact trivial | (rw [hgd] <;> rfl) | (rw [hgd2] <;> rfl) | ((repeat' apply And.intro) <;> first | exact trivial | exact rfl | omega | (simp; done) | (simp; omega)))) | refine wn (wr rfl rfl rfl) rfl ?_ | refine wo rfl (wr rfl rfl rfl) rfl ?_ | refine ws rfl rfl ?_ | refine wj rfl ?_ | refine wk rfl ?_ | refine ww rfl rfl rfl ?_ | refine wz rfl (by decide) rfl rfl rfl ?_ | (refine wx rfl rfl (.vw (vwOf_sound rfl)) rfl rfl ?_ ?_ rfl ?_; (try (simp <;> omega)); (try (first | (simp <;> omega) | (simp [maxLen] <;> omega)))) | (refine wy rfl rfl rfl rfl rfl rfl ?_ ?_ ?_ ?_; (try (first | trivial | rfl)); (try (simp <;> omega)); (try (first | (simp <;> omega) | (simp [maxLen] <;> omega)))))
  refine wa ?_
  refine wc ?_
  repeat (first | refine wb ?_ | refine wc ?_ | refine wd ?_ | refine we ?_ | refine wf ?_ | refine wg ?_ | refine wh ?_ | refine wi ?_ | ((first | refine wl rfl rfl ?_ ?_ | refine wn (wp rfl rfl rfl rfl rfl ?_) rfl ?_ | refine wn (wq agree rfl rfl rfl ?_) rfl ?_ | refine wm rfl rfl rfl ?_ ?_ | refine wo rfl (wp rfl rfl rfl rfl rfl ?_) rfl ?_ | refine wo rfl (wq agree rfl rfl rfl ?_) rfl ?_ | refine wt rfl ?_ ?_ | refine wu rfl ?_ ?_ | refine wv rfl rfl ?_ rfl rfl ?_ | refine xa agree rfl rfl ?_ ?_ | refine xb agree rfl rfl rfl ?_ ?_); try (first | exact trivial | (rw [hgd] <;> rfl) | (rw [hgd2] <;> rfl) | ((repeat' apply And.intro) <;> first | exact trivial | exact rfl | omega | (simp; done) | (simp; omega)))) | refine wn (wr rfl rfl rfl) rfl ?_ | refine wo rfl (wr rfl rfl rfl) rfl ?_ | refine ws rfl rfl ?_ | refine wj rfl ?_ | refine wk rfl ?_ | refine ww rfl rfl rfl ?_ | refine wz rfl (by decide) rfl rfl rfl ?_ | (refine wx rfl rfl (.vw (vwOf_sound rfl)) rfl rfl ?_ ?_ rfl ?_; (try (simp <;> omega)); (try (first | (simp <;> omega) | (simp [maxLen] <;> omega)))) | (refine wy rfl rfl rfl rfl rfl rfl ?_ ?_ ?_ ?_; (try (first | trivial | rfl)); (try (simp <;> omega)); (try (first | (simp <;> omega) | (simp [maxLen] <;> omega)))))
  refine wn (xc rfl rfl rfl rfl (by repeat' (first | exact trivial | exact rfl | assumption | apply And.intro)) hc (h1 a ha)) rfl ?_
  repeat (first | refine wb ?_ | refine wc ?_ | refine wd ?_ | refine we ?_ | refine wf ?_ | refine wg ?_ | refine wh ?_ | refine wi ?_ | ((first | refine wl rfl rfl ?_ ?_ | refine wn (wp rfl rfl rfl rfl rfl ?_) rfl ?_ | refine wn (wq agree rfl rfl rfl ?_) rfl ?_ | refine wm rfl rfl rfl ?_ ?_ | refine wo rfl (wp rfl rfl rfl rfl rfl ?_) rfl ?_ | refine wo rfl (wq agree rfl rfl rfl ?_) rfl ?_ | refine wt rfl ?_ ?_ | refine wu rfl ?_ ?_ | refine wv rfl rfl ?_ rfl rfl ?_ | refine xa agree rfl rfl ?_ ?_ | refine xb agree rfl rfl rfl ?_ ?_); try (first | exact trivial | (rw [hgd] <;> rfl) | (rw [hgd2] <;> rfl) | ((repeat' apply And.intro) <;> first | exact trivial | exact rfl | omega | (simp; done) | (simp; omega)))) | refine wn (wr rfl rfl rfl) rfl ?_ | refine wo rfl (wr rfl rfl rfl) rfl ?_ | refine ws rfl rfl ?_ | refine wj rfl ?_ | refine wk rfl ?_ | refine ww rfl rfl rfl ?_ | refine wz rfl (by decide) rfl rfl rfl ?_ | (refine wx rfl rfl (.vw (vwOf_sound rfl)) rfl rfl ?_ ?_ rfl ?_; (try (simp <;> omega)); (try (first | (simp <;> omega) | (simp [maxLen] <;> omega)))) | (refine wy rfl rfl rfl rfl rfl rfl ?_ ?_ ?_ ?_; (try (first | trivial | rfl)); (try (simp <;> omega)); (try (first | (simp <;> omega) | (simp [maxLen] <;> omega)))))
  refine wa ?_
  refine wi ?_
  refine Run.keep [1, 4, 5] rfl ?_
  refine Run.at (l' := [(1, .d (.fn (.func f) [] cs)), (4, .d (S 0)), (5, .d (S (nxt a)))]) rfl ?_
  refine Run.again (α := Nat × Nat) (fun q => SI nxt a q.1 q.2) (fun q => [(1, .d (.fn (.func f) [] cs)), (4, .d (S q.1)), (5, .d (S q.2))]) (fun q => cntTo q.1 32) (0, nxt a) (.start hn) ?_
  rintro ⟨had, new⟩ hI ih
  simp only at hI
  refine Run.at (l' := [(1, .d (.fn (.func f) [] cs)), (4, .d (S had)), (5, .d (S new))]) rfl ?_
  repeat (first | apply wa | apply wb | apply wc | apply wd | apply we | apply wf | apply wg | apply wh | apply wi | ((first | refine wl rfl rfl ?_ ?_ | refine wn (wp rfl rfl rfl rfl rfl ?_) rfl ?_ | refine wn (wq agree rfl rfl rfl ?_) rfl ?_ | refine wm rfl rfl rfl ?_ ?_ | refine wo rfl (wp rfl rfl rfl rfl rfl ?_) rfl ?_ | refine wo rfl (wq agree rfl rfl rfl ?_) rfl ?_ | refine wt rfl ?_ ?_ | refine wu rfl ?_ ?_ | refine wv rfl rfl ?_ rfl rfl ?_ | refine xa agree rfl rfl ?_ ?_ | refine xb agree rfl rfl rfl ?_ ?_); try (first | exact trivial | (rw [hgd] <;> rfl) | ((repeat' apply And.intro) <;> first | exact trivial | exact rfl | omega | (simp; done) | (simp; omega)))) | refine wn (wr rfl rfl rfl) rfl ?_ | refine wo rfl (wr rfl rfl rfl) rfl ?_ | refine ws rfl rfl ?_ | refine wj rfl ?_ | refine wk rfl ?_ | refine ww rfl rfl rfl ?_)
  refine Run.condB rfl rfl (fun h0 => ?_) (fun h0 => ?_)
  · have : new = 0 := by simp at h0; omega
    subst this
    repeat (first | apply wa | apply wb | apply wc | apply wd | apply we | apply wf | apply wg | apply wh | apply wi | ((first | refine wl rfl rfl ?_ ?_ | refine wn (wp rfl rfl rfl rfl rfl ?_) rfl ?_ | refine wn (wq agree rfl rfl rfl ?_) rfl ?_ | refine wm rfl rfl rfl ?_ ?_ | refine wo rfl (wp rfl rfl rfl rfl rfl ?_) rfl ?_ | refine wo rfl (wq agree rfl rfl rfl ?_) rfl ?_ | refine wt rfl ?_ ?_ | refine wu rfl ?_ ?_ | refine wv rfl rfl ?_ rfl rfl ?_ | refine xa agree rfl rfl ?_ ?_ | refine xb agree rfl rfl rfl ?_ ?_); try (first | exact trivial | (rw [hgd] <;> rfl) | ((repeat' apply And.intro) <;> first | exact trivial | exact rfl | omega | (simp; done) | (simp; omega)))) | refine wn (wr rfl rfl rfl) rfl ?_ | refine wo rfl (wr rfl rfl rfl) rfl ?_ | refine ws rfl rfl ?_ | refine wj rfl ?_ | refine wk rfl ?_ | refine ww rfl rfl rfl ?_)
    refine wD (wE rfl rfl ?_)
    rw [hI.done]
  · have hne : new ≠ 0 := by rintro rfl; simp at h0
    obtain ⟨i, k1, k2, k3, _⟩ := ctz_low hne hI.lt2
    have hi := hI.sound2 i k3
    have hN := hI.next hn k3
    have hni : nxt i < M64 := Nat.lt_trans (hn i) (by decide)
    repeat (first | apply wa | apply wb | apply wc | apply wd | apply we | apply wf | apply wg | apply wh | apply wi | ((first | refine wl rfl rfl ?_ ?_ | refine wn (wp rfl rfl rfl rfl rfl ?_) rfl ?_ | refine wn (wq agree rfl rfl rfl ?_) rfl ?_ | refine wm rfl rfl rfl ?_ ?_ | refine wo rfl (wp rfl rfl rfl rfl rfl ?_) rfl ?_ | refine wo rfl (wq agree rfl rfl rfl ?_) rfl ?_ | refine wt rfl ?_ ?_ | refine wu rfl ?_ ?_ | refine wv rfl rfl ?_ rfl rfl ?_ | refine xa agree rfl rfl ?_ ?_ | refine xb agree rfl rfl rfl ?_ ?_); try (first | exact trivial | (rw [hgd] <;> rfl) | ((repeat' apply And.intro) <;> first | exact trivial | exact rfl | omega | (simp; done) | (simp; omega)))) | refine wn (wr rfl rfl rfl) rfl ?_ | refine wo rfl (wr rfl rfl rfl) rfl ?_ | refine ws rfl rfl ?_ | refine wj rfl ?_ | refine wk rfl ?_ | refine ww rfl rfl rfl ?_)
    refine wn (wA rfl rfl rfl (by repeat' (first | exact trivial | exact rfl | assumption | apply And.intro)) (callable (by decide)) (c_First new hI.lt2)) rfl ?_
    first | refine OpsAt.say (d := 14) rfl (y := .v (.int .i64 (i : Nat))) (by simp [firstN, hne, k1]) ?_ | refine Run.say (d := 14) rfl (y := .v (.int .i64 (i : Nat))) (by simp [firstN, hne, k1]) ?_ | refine OpsB.say (d := 14) rfl (y := .v (.int .i64 (i : Nat))) (by simp [firstN, hne, k1]) ?_
    repeat (first | apply wa | apply wb | apply wc | apply wd | apply we | apply wf | apply wg | apply wh | apply wi | ((first | refine wl rfl rfl ?_ ?_ | refine wn (wp rfl rfl rfl rfl rfl ?_) rfl ?_ | refine wn (wq agree rfl rfl rfl ?_) rfl ?_ | refine wm rfl rfl rfl ?_ ?_ | refine wo rfl (wp rfl rfl rfl rfl rfl ?_) rfl ?_ | refine wo rfl (wq agree rfl rfl rfl ?_) rfl ?_ | refine wt rfl ?_ ?_ | refine wu rfl ?_ ?_ | refine wv rfl rfl ?_ rfl rfl ?_ | refine xa agree rfl rfl ?_ ?_ | refine xb agree rfl rfl rfl ?_ ?_); try (first | exact trivial | (rw [hgd] <;> rfl) | ((repeat' apply And.intro) <;> first | exact trivial | exact rfl | omega | (simp; done) | (simp; omega)))) | refine wn (wr rfl rfl rfl) rfl ?_ | refine wo rfl (wr rfl rfl rfl) rfl ?_ | refine ws rfl rfl ?_ | refine wj rfl ?_ | refine wk rfl ?_ | refine ww rfl rfl rfl ?_)
    refine wn (wA rfl rfl rfl (by repeat' (first | exact trivial | exact rfl | assumption | apply And.intro)) (callable (by decide)) (c_With had i hI.lt)) rfl ?_
    repeat (first | apply wa | apply wb | apply wc | apply wd | apply we | apply wf | apply wg | apply wh | apply wi | ((first | refine wl rfl rfl ?_ ?_ | refine wn (wp rfl rfl rfl rfl rfl ?_) rfl ?_ | refine wn (wq agree rfl rfl rfl ?_) rfl ?_ | refine wm rfl rfl rfl ?_ ?_ | refine wo rfl (wp rfl rfl rfl rfl rfl ?_) rfl ?_ | refine wo rfl (wq agree rfl rfl rfl ?_) rfl ?_ | refine wt rfl ?_ ?_ | refine wu rfl ?_ ?_ | refine wv rfl rfl ?_ rfl rfl ?_ | refine xa agree rfl rfl ?_ ?_ | refine xb agree rfl rfl rfl ?_ ?_); try (first | exact trivial | (rw [hgd] <;> rfl) | ((repeat' apply And.intro) <;> first | exact trivial | exact rfl | omega | (simp; done) | (simp; omega)))) | refine wn (wr rfl rfl rfl) rfl ?_ | refine wo rfl (wr rfl rfl rfl) rfl ?_ | refine ws rfl rfl ?_ | refine wj rfl ?_ | refine wk rfl ?_ | refine ww rfl rfl rfl ?_)
    refine wn (xc rfl rfl rfl rfl (by repeat' (first | exact trivial | exact rfl | assumption | apply And.intro)) hc (h1 i hi.1)) rfl ?_
    refine wn (wp rfl rfl rfl rfl rfl (by repeat' (first | exact trivial | exact rfl | assumption | apply And.intro))) rfl ?_
    first | refine OpsAt.say (d := 22) rfl (y := S (new ||| nxt i)) (congrArg (fun z => D.v (.int .u64 z)) (or64 hI.lt2 hni)) ?_ | refine Run.say (d := 22) rfl (y := S (new ||| nxt i)) (congrArg (fun z => D.v (.int .u64 z)) (or64 hI.lt2 hni)) ?_ | refine OpsB.say (d := 22) rfl (y := S (new ||| nxt i)) (congrArg (fun z => D.v (.int .u64 z)) (or64 hI.lt2 hni)) ?_
    refine wl rfl rfl rfl ?_
    refine wn (wp rfl rfl rfl rfl rfl (by repeat' (first | exact trivial | exact rfl | assumption | apply And.intro))) rfl ?_
    first | refine OpsAt.say (d := 24) rfl (y := S (andn (new ||| nxt i) (withN had (i : Int)))) (by rw [show IntKind.u64.bits = 64 from rfl, BitVec.ofInt_natCast, BitVec.ofInt_natCast]; exact congrArg (fun z => D.v (.int .u64 z)) (u64_in (andn_lt _ _))) ?_ | refine Run.say (d := 24) rfl (y := S (andn (new ||| nxt i) (withN had (i : Int)))) (by rw [show IntKind.u64.bits = 64 from rfl, BitVec.ofInt_natCast, BitVec.ofInt_natCast]; exact congrArg (fun z => D.v (.int .u64 z)) (u64_in (andn_lt _ _))) ?_ | refine OpsB.say (d := 24) rfl (y := S (andn (new ||| nxt i) (withN had (i : Int)))) (by rw [show IntKind.u64.bits = 64 from rfl, BitVec.ofInt_natCast, BitVec.ofInt_natCast]; exact congrArg (fun z => D.v (.int .u64 z)) (u64_in (andn_lt _ _))) ?_
    refine wl rfl rfl rfl ?_
    refine wb ?_
    refine wk rfl ?_
    refine wa ?_
    refine wf ?_
    refine Run.keep [1, 4, 5] rfl ?_
    refine ih (withN had (i : Int), andn (new ||| nxt i) (withN had (i : Int))) hN ?_
    have := cnt_with (s := had) (k := i) (by omega) (hI.apart i k3) 32 hi.1
    show cntTo (withN had (i : Int)) 32 < cntTo had 32
    omega
end Go.Proofs.YthiicbpoahilcaaDoor

namespace Go.Proofs.YthiicbpoahilcaaDoor
open Go Go.Dat

noncomputable def reachN (g : List Nat) (a : Nat) : Nat := setOf (Comes1 (nxf (fun i => outsN g (i : Int)) fun _ => true) a)
noncomputable def freeN (g : List Nat) : Bool := (List.range 32).all fun a => !(reachN g a).testBit a

theorem c_Reach1 (g : List Nat) (i : Int) (hg : gok g) : DFun Tryd.prog 63 [.v (.int .i64 i), .pt (gr g)] (S (outsN g i)) := by
  refine DFun.ofRun agree mixed Tryd.func63 rfl rfl ?_
  repeat (first | apply wa | apply wb | apply wc | apply wd | apply we | apply wf | apply wg | apply wh | apply wi | ((first | refine wl rfl rfl ?_ ?_ | refine wn (wp rfl rfl rfl rfl rfl ?_) rfl ?_ | refine wn (wq agree rfl rfl rfl ?_) rfl ?_ | refine wm rfl rfl rfl ?_ ?_ | refine wo rfl (wp rfl rfl rfl rfl rfl ?_) rfl ?_ | refine wo rfl (wq agree rfl rfl rfl ?_) rfl ?_ | refine wt rfl ?_ ?_ | refine wu rfl ?_ ?_ | refine wv rfl rfl ?_ rfl rfl ?_ | refine xa agree rfl rfl ?_ ?_ | refine xb agree rfl rfl rfl ?_ ?_); try (first | exact trivial | (rw [hgd] <;> rfl) | ((repeat' apply And.intro) <;> first | exact trivial | exact rfl | omega | (simp; done) | (simp; omega)))) | refine wn (wr rfl rfl rfl) rfl ?_ | refine wo rfl (wr rfl rfl rfl) rfl ?_ | refine ws rfl rfl ?_ | refine wj rfl ?_ | refine wk rfl ?_ | refine ww rfl rfl rfl ?_)
  · exact gr_fits hg.1 rfl
  repeat (first | apply wa | apply wb | apply wc | apply wd | apply we | apply wf | apply wg | apply wh | apply wi | ((first | refine wl rfl rfl ?_ ?_ | refine wn (wp rfl rfl rfl rfl rfl ?_) rfl ?_ | refine wn (wq agree rfl rfl rfl ?_) rfl ?_ | refine wm rfl rfl rfl ?_ ?_ | refine wo rfl (wp rfl rfl rfl rfl rfl ?_) rfl ?_ | refine wo rfl (wq agree rfl rfl rfl ?_) rfl ?_ | refine wt rfl ?_ ?_ | refine wu rfl ?_ ?_ | refine wv rfl rfl ?_ rfl rfl ?_ | refine xa agree rfl rfl ?_ ?_ | refine xb agree rfl rfl rfl ?_ ?_); try (first | exact trivial | (rw [hgd] <;> rfl) | ((repeat' apply And.intro) <;> first | exact trivial | exact rfl | omega | (simp; done) | (simp; omega)))) | refine wn (wr rfl rfl rfl) rfl ?_ | refine wo rfl (wr rfl rfl rfl) rfl ?_ | refine ws rfl rfl ?_ | refine wj rfl ?_ | refine wk rfl ?_ | refine ww rfl rfl rfl ?_)
  have hpl : (gr g).pl = true := gr_pl g
  refine wn (wA rfl rfl rfl (by repeat' (first | exact trivial | exact rfl | assumption | apply And.intro)) (callable (by decide)) (c_Outs g i hg)) rfl ?_
  repeat (first | apply wa | apply wb | apply wc | apply wd | apply we | apply wf | apply wg | apply wh | apply wi | ((first | refine wl rfl rfl ?_ ?_ | refine wn (wp rfl rfl rfl rfl rfl ?_) rfl ?_ | refine wn (wq agree rfl rfl rfl ?_) rfl ?_ | refine wm rfl rfl rfl ?_ ?_ | refine wo rfl (wp rfl rfl rfl rfl rfl ?_) rfl ?_ | refine wo rfl (wq agree rfl rfl rfl ?_) rfl ?_ | refine wt rfl ?_ ?_ | refine wu rfl ?_ ?_ | refine wv rfl rfl ?_ rfl rfl ?_ | refine xa agree rfl rfl ?_ ?_ | refine xb agree rfl rfl rfl ?_ ?_); try (first | exact trivial | (rw [hgd] <;> rfl) | ((repeat' apply And.intro) <;> first | exact trivial | exact rfl | omega | (simp; done) | (simp; omega)))) | refine wn (wr rfl rfl rfl) rfl ?_ | refine wo rfl (wr rfl rfl rfl) rfl ?_ | refine ws rfl rfl ?_ | refine wj rfl ?_ | refine wk rfl ?_ | refine ww rfl rfl rfl ?_)
  exact wD (wE rfl rfl rfl)
theorem c_mReach (g : List Nat) (a : Nat) (ha : a < 32) (hg : gok g) : DFun Tryd.prog 51 [gr g, .v (.int .i64 a)] (S (reachN g a)) := by
  refine DFun.ofRun agree mixed Tryd.func51 rfl rfl ?_
  repeat (first | apply wa | apply wb | apply wc | apply wd | apply we | apply wf | apply wg | apply wh | apply wi | ((first | refine wl rfl rfl ?_ ?_ | refine wn (wp rfl rfl rfl rfl rfl ?_) rfl ?_ | refine wn (wq agree rfl rfl rfl ?_) rfl ?_ | refine wm rfl rfl rfl ?_ ?_ | refine wo rfl (wp rfl rfl rfl rfl rfl ?_) rfl ?_ | refine wo rfl (wq agree rfl rfl rfl ?_) rfl ?_ | refine wt rfl ?_ ?_ | refine wu rfl ?_ ?_ | refine wv rfl rfl ?_ rfl rfl ?_ | refine xa agree rfl rfl ?_ ?_ | refine xb agree rfl rfl rfl ?_ ?_); try (first | exact trivial | (rw [hgd] <;> rfl) | ((repeat' apply And.intro) <;> first | exact trivial | exact rfl | omega | (simp; done) | (simp; omega)))) | refine wn (wr rfl rfl rfl) rfl ?_ | refine wo rfl (wr rfl rfl rfl) rfl ?_ | refine ws rfl rfl ?_ | refine wj rfl ?_ | refine wk rfl ?_ | refine ww rfl rfl rfl ?_)
  · exact gr_pl g
  repeat (first | apply wa | apply wb | apply wc | apply wd | apply we | apply wf | apply wg | apply wh | apply wi | ((first | refine wl rfl rfl ?_ ?_ | refine wn (wp rfl rfl rfl rfl rfl ?_) rfl ?_ | refine wn (wq agree rfl rfl rfl ?_) rfl ?_ | refine wm rfl rfl rfl ?_ ?_ | refine wo rfl (wp rfl rfl rfl rfl rfl ?_) rfl ?_ | refine wo rfl (wq agree rfl rfl rfl ?_) rfl ?_ | refine wt rfl ?_ ?_ | refine wu rfl ?_ ?_ | refine wv rfl rfl ?_ rfl rfl ?_ | refine xa agree rfl rfl ?_ ?_ | refine xb agree rfl rfl rfl ?_ ?_); try (first | exact trivial | (rw [hgd] <;> rfl) | ((repeat' apply And.intro) <;> first | exact trivial | exact rfl | omega | (simp; done) | (simp; omega)))) | refine wn (wr rfl rfl rfl) rfl ?_ | refine wo rfl (wr rfl rfl rfl) rfl ?_ | refine ws rfl rfl ?_ | refine wj rfl ?_ | refine wk rfl ?_ | refine ww rfl rfl rfl ?_)
  refine wn (xc rfl rfl rfl rfl (by repeat' (first | exact trivial | exact rfl | assumption | apply And.intro)) (callable (by decide)) (c_spread 63 [.pt (gr g).lend] (fun i => outsN g (i : Int)) a ha (outs32 g) (callable (by decide)) (fun i _ => by rw [gr_lend]; exact c_Reach1 g i hg))) rfl ?_
  repeat (first | apply wa | apply wb | apply wc | apply wd | apply we | apply wf | apply wg | apply wh | apply wi | ((first | refine wl rfl rfl ?_ ?_ | refine wn (wp rfl rfl rfl rfl rfl ?_) rfl ?_ | refine wn (wq agree rfl rfl rfl ?_) rfl ?_ | refine wm rfl rfl rfl ?_ ?_ | refine wo rfl (wp rfl rfl rfl rfl rfl ?_) rfl ?_ | refine wo rfl (wq agree rfl rfl rfl ?_) rfl ?_ | refine wt rfl ?_ ?_ | refine wu rfl ?_ ?_ | refine wv rfl rfl ?_ rfl rfl ?_ | refine xa agree rfl rfl ?_ ?_ | refine xb agree rfl rfl rfl ?_ ?_); try (first | exact trivial | (rw [hgd] <;> rfl) | ((repeat' apply And.intro) <;> first | exact trivial | exact rfl | omega | (simp; done) | (simp; omega)))) | refine wn (wr rfl rfl rfl) rfl ?_ | refine wo rfl (wr rfl rfl rfl) rfl ?_ | refine ws rfl rfl ?_ | refine wj rfl ?_ | refine wk rfl ?_ | refine ww rfl rfl rfl ?_)
  exact wD (wE rfl rfl rfl)
theorem has_bit (s a : Nat) (ha : a < 64) : hasN s (a : Int) = s.testBit a := by
  have : small (a : Int) = true := by simp [small]; omega
  rw [hasN, this, Bool.true_and, Int.toNat_natCast]
theorem c_Free (g : List Nat) (hg : gok g) : DFun Tryd.prog 27 [gr g] (.v (.bool (freeN g))) := by
  refine DFun.ofRun agree mixed Tryd.func27 rfl rfl ?_
  repeat (first | apply wa | apply wb | apply wc | apply wd | apply we | apply wf | apply wg | apply wh | apply wi | ((first | refine wl rfl rfl ?_ ?_ | refine wn (wp rfl rfl rfl rfl rfl ?_) rfl ?_ | refine wn (wq agree rfl rfl rfl ?_) rfl ?_ | refine wm rfl rfl rfl ?_ ?_ | refine wo rfl (wp rfl rfl rfl rfl rfl ?_) rfl ?_ | refine wo rfl (wq agree rfl rfl rfl ?_) rfl ?_ | refine wt rfl ?_ ?_ | refine wu rfl ?_ ?_ | refine wv rfl rfl ?_ rfl rfl ?_ | refine xa agree rfl rfl ?_ ?_ | refine xb agree rfl rfl rfl ?_ ?_); try (first | exact trivial | (rw [hgd] <;> rfl) | ((repeat' apply And.intro) <;> first | exact trivial | exact rfl | omega | (simp; done) | (simp; omega)))) | refine wn (wr rfl rfl rfl) rfl ?_ | refine wo rfl (wr rfl rfl rfl) rfl ?_ | refine ws rfl rfl ?_ | refine wj rfl ?_ | refine wk rfl ?_ | refine ww rfl rfl rfl ?_)
  · exact gr_pl g
  repeat (first | apply wa | apply wb | apply wc | apply wd | apply we | apply wf | apply wg | apply wh | apply wi | ((first | refine wl rfl rfl ?_ ?_ | refine wn (wp rfl rfl rfl rfl rfl ?_) rfl ?_ | refine wn (wq agree rfl rfl rfl ?_) rfl ?_ | refine wm rfl rfl rfl ?_ ?_ | refine wo rfl (wp rfl rfl rfl rfl rfl ?_) rfl ?_ | refine wo rfl (wq agree rfl rfl rfl ?_) rfl ?_ | refine wt rfl ?_ ?_ | refine wu rfl ?_ ?_ | refine wv rfl rfl ?_ rfl rfl ?_ | refine xa agree rfl rfl ?_ ?_ | refine xb agree rfl rfl rfl ?_ ?_); try (first | exact trivial | (rw [hgd] <;> rfl) | ((repeat' apply And.intro) <;> first | exact trivial | exact rfl | omega | (simp; done) | (simp; omega)))) | refine wn (wr rfl rfl rfl) rfl ?_ | refine wo rfl (wr rfl rfl rfl) rfl ?_ | refine ws rfl rfl ?_ | refine wj rfl ?_ | refine wk rfl ?_ | refine ww rfl rfl rfl ?_)
  refine Run.keep [1, 2, 4] rfl ?_
  refine Run.at (l' := [(1, .box (gr g)), (2, .d (.v (.bool false))), (4, .d (.v (.int .i64 (0 : Nat))))]) rfl ?_
  refine Run.loopL (α := Nat) (fun i => i ≤ 32 ∧ ∀ j, j < i → (reachN g j).testBit j = false) (fun i => [(1, .box (gr g)), (2, .d (.v (.bool false))), (4, .d (.v (.int .i64 i)))]) (fun i => 32 - i) 0 ⟨by decide, fun j hj => absurd hj (by omega)⟩ ?_
  rintro i ⟨hi, hall⟩ ih
  repeat (first | apply wa | apply wb | apply wc | apply wd | apply we | apply wf | apply wg | apply wh | apply wi | ((first | refine wl rfl rfl ?_ ?_ | refine wn (wp rfl rfl rfl rfl rfl ?_) rfl ?_ | refine wn (wq agree rfl rfl rfl ?_) rfl ?_ | refine wm rfl rfl rfl ?_ ?_ | refine wo rfl (wp rfl rfl rfl rfl rfl ?_) rfl ?_ | refine wo rfl (wq agree rfl rfl rfl ?_) rfl ?_ | refine wt rfl ?_ ?_ | refine wu rfl ?_ ?_ | refine wv rfl rfl ?_ rfl rfl ?_ | refine xa agree rfl rfl ?_ ?_ | refine xb agree rfl rfl rfl ?_ ?_); try (first | exact trivial | (rw [hgd] <;> rfl) | ((repeat' apply And.intro) <;> first | exact trivial | exact rfl | omega | (simp; done) | (simp; omega)))) | refine wn (wr rfl rfl rfl) rfl ?_ | refine wo rfl (wr rfl rfl rfl) rfl ?_ | refine ws rfl rfl ?_ | refine wj rfl ?_ | refine wk rfl ?_ | refine ww rfl rfl rfl ?_)
  refine Run.condB rfl rfl (fun hb => ?_) (fun hb => ?_)
  · have hi2 : i < 32 := by simp at hb; omega
    repeat (first | apply wa | apply wb | apply wc | apply wd | apply we | apply wf | apply wg | apply wh | apply wi | ((first | refine wl rfl rfl ?_ ?_ | refine wn (wp rfl rfl rfl rfl rfl ?_) rfl ?_ | refine wn (wq agree rfl rfl rfl ?_) rfl ?_ | refine wm rfl rfl rfl ?_ ?_ | refine wo rfl (wp rfl rfl rfl rfl rfl ?_) rfl ?_ | refine wo rfl (wq agree rfl rfl rfl ?_) rfl ?_ | refine wt rfl ?_ ?_ | refine wu rfl ?_ ?_ | refine wv rfl rfl ?_ rfl rfl ?_ | refine xa agree rfl rfl ?_ ?_ | refine xb agree rfl rfl rfl ?_ ?_); try (first | exact trivial | (rw [hgd] <;> rfl) | ((repeat' apply And.intro) <;> first | exact trivial | exact rfl | omega | (simp; done) | (simp; omega)))) | refine wn (wr rfl rfl rfl) rfl ?_ | refine wo rfl (wr rfl rfl rfl) rfl ?_ | refine ws rfl rfl ?_ | refine wj rfl ?_ | refine wk rfl ?_ | refine ww rfl rfl rfl ?_)
    · exact ⟨gr_fits hg.1 rfl, gr_pl g⟩
    repeat (first | apply wa | apply wb | apply wc | apply wd | apply we | apply wf | apply wg | apply wh | apply wi | ((first | refine wl rfl rfl ?_ ?_ | refine wn (wp rfl rfl rfl rfl rfl ?_) rfl ?_ | refine wn (wq agree rfl rfl rfl ?_) rfl ?_ | refine wm rfl rfl rfl ?_ ?_ | refine wo rfl (wp rfl rfl rfl rfl rfl ?_) rfl ?_ | refine wo rfl (wq agree rfl rfl rfl ?_) rfl ?_ | refine wt rfl ?_ ?_ | refine wu rfl ?_ ?_ | refine wv rfl rfl ?_ rfl rfl ?_ | refine xa agree rfl rfl ?_ ?_ | refine xb agree rfl rfl rfl ?_ ?_); try (first | exact trivial | (rw [hgd] <;> rfl) | ((repeat' apply And.intro) <;> first | exact trivial | exact rfl | omega | (simp; done) | (simp; omega)))) | refine wn (wr rfl rfl rfl) rfl ?_ | refine wo rfl (wr rfl rfl rfl) rfl ?_ | refine ws rfl rfl ?_ | refine wj rfl ?_ | refine wk rfl ?_ | refine ww rfl rfl rfl ?_)
    have hpl : ((gr g).get []).pl = true := gr_pl g
    refine wn (wA rfl rfl rfl (by repeat' (first | exact trivial | exact rfl | assumption | apply And.intro)) (callable (by decide)) (c_mReach g i hi2 hg)) rfl ?_
    repeat (first | apply wa | apply wb | apply wc | apply wd | apply we | apply wf | apply wg | apply wh | apply wi | ((first | refine wl rfl rfl ?_ ?_ | refine wn (wp rfl rfl rfl rfl rfl ?_) rfl ?_ | refine wn (wq agree rfl rfl rfl ?_) rfl ?_ | refine wm rfl rfl rfl ?_ ?_ | refine wo rfl (wp rfl rfl rfl rfl rfl ?_) rfl ?_ | refine wo rfl (wq agree rfl rfl rfl ?_) rfl ?_ | refine wt rfl ?_ ?_ | refine wu rfl ?_ ?_ | refine wv rfl rfl ?_ rfl rfl ?_ | refine xa agree rfl rfl ?_ ?_ | refine xb agree rfl rfl rfl ?_ ?_); try (first | exact trivial | (rw [hgd] <;> rfl) | ((repeat' apply And.intro) <;> first | exact trivial | exact rfl | omega | (simp; done) | (simp; omega)))) | refine wn (wr rfl rfl rfl) rfl ?_ | refine wo rfl (wr rfl rfl rfl) rfl ?_ | refine ws rfl rfl ?_ | refine wj rfl ?_ | refine wk rfl ?_ | refine ww rfl rfl rfl ?_)
    refine wn (wA rfl rfl rfl (by repeat' (first | exact trivial | exact rfl | assumption | apply And.intro)) (callable (by decide)) (c_Has (reachN g i) i (setOf_lt _))) rfl ?_
    first | refine OpsAt.say (d := 11) rfl (y := .v (.bool ((reachN g i).testBit i))) (by rw [has_bit _ _ (by omega)]) ?_ | refine Run.say (d := 11) rfl (y := .v (.bool ((reachN g i).testBit i))) (by rw [has_bit _ _ (by omega)]) ?_ | refine OpsB.say (d := 11) rfl (y := .v (.bool ((reachN g i).testBit i))) (by rw [has_bit _ _ (by omega)]) ?_
    repeat (first | apply wa | apply wb | apply wc | apply wd | apply we | apply wf | apply wg | apply wh | apply wi | ((first | refine wl rfl rfl ?_ ?_ | refine wn (wp rfl rfl rfl rfl rfl ?_) rfl ?_ | refine wn (wq agree rfl rfl rfl ?_) rfl ?_ | refine wm rfl rfl rfl ?_ ?_ | refine wo rfl (wp rfl rfl rfl rfl rfl ?_) rfl ?_ | refine wo rfl (wq agree rfl rfl rfl ?_) rfl ?_ | refine wt rfl ?_ ?_ | refine wu rfl ?_ ?_ | refine wv rfl rfl ?_ rfl rfl ?_ | refine xa agree rfl rfl ?_ ?_ | refine xb agree rfl rfl rfl ?_ ?_); try (first | exact trivial | (rw [hgd] <;> rfl) | ((repeat' apply And.intro) <;> first | exact trivial | exact rfl | omega | (simp; done) | (simp; omega)))) | refine wn (wr rfl rfl rfl) rfl ?_ | refine wo rfl (wr rfl rfl rfl) rfl ?_ | refine ws rfl rfl ?_ | refine wj rfl ?_ | refine wk rfl ?_ | refine ww rfl rfl rfl ?_)
    refine Run.condB rfl rfl (fun h1 => ?_) (fun h1 => ?_)
    · repeat (first | apply wa | apply wb | apply wc | apply wd | apply we | apply wf | apply wg | apply wh | apply wi | ((first | refine wl rfl rfl ?_ ?_ | refine wn (wp rfl rfl rfl rfl rfl ?_) rfl ?_ | refine wn (wq agree rfl rfl rfl ?_) rfl ?_ | refine wm rfl rfl rfl ?_ ?_ | refine wo rfl (wp rfl rfl rfl rfl rfl ?_) rfl ?_ | refine wo rfl (wq agree rfl rfl rfl ?_) rfl ?_ | refine wt rfl ?_ ?_ | refine wu rfl ?_ ?_ | refine wv rfl rfl ?_ rfl rfl ?_ | refine xa agree rfl rfl ?_ ?_ | refine xb agree rfl rfl rfl ?_ ?_); try (first | exact trivial | (rw [hgd] <;> rfl) | ((repeat' apply And.intro) <;> first | exact trivial | exact rfl | omega | (simp; done) | (simp; omega)))) | refine wn (wr rfl rfl rfl) rfl ?_ | refine wo rfl (wr rfl rfl rfl) rfl ?_ | refine ws rfl rfl ?_ | refine wj rfl ?_ | refine wk rfl ?_ | refine ww rfl rfl rfl ?_)
      refine wD (wE rfl rfl ?_)
      have : freeN g = false := by
        refine Bool.eq_false_iff.2 fun h => ?_
        have := List.all_eq_true.1 h i (List.mem_range.2 hi2)
        rw [h1] at this
        cases this
      rw [this]
    · repeat (first | apply wa | apply wb | apply wc | apply wd | apply we | apply wf | apply wg | apply wh | apply wi | ((first | refine wl rfl rfl ?_ ?_ | refine wn (wp rfl rfl rfl rfl rfl ?_) rfl ?_ | refine wn (wq agree rfl rfl rfl ?_) rfl ?_ | refine wm rfl rfl rfl ?_ ?_ | refine wo rfl (wp rfl rfl rfl rfl rfl ?_) rfl ?_ | refine wo rfl (wq agree rfl rfl rfl ?_) rfl ?_ | refine wt rfl ?_ ?_ | refine wu rfl ?_ ?_ | refine wv rfl rfl ?_ rfl rfl ?_ | refine xa agree rfl rfl ?_ ?_ | refine xb agree rfl rfl rfl ?_ ?_); try (first | exact trivial | (rw [hgd] <;> rfl) | ((repeat' apply And.intro) <;> first | exact trivial | exact rfl | omega | (simp; done) | (simp; omega)))) | refine wn (wr rfl rfl rfl) rfl ?_ | refine wo rfl (wr rfl rfl rfl) rfl ?_ | refine ws rfl rfl ?_ | refine wj rfl ?_ | refine wk rfl ?_ | refine ww rfl rfl rfl ?_)
      first | refine OpsAt.say (d := 4) rfl (y := .v (.int .i64 (i + 1 : Nat))) (by rw [wrap64_in ((i : Int) + 1) (by omega)]; simp) ?_ | refine Run.say (d := 4) rfl (y := .v (.int .i64 (i + 1 : Nat))) (by rw [wrap64_in ((i : Int) + 1) (by omega)]; simp) ?_ | refine OpsB.say (d := 4) rfl (y := .v (.int .i64 (i + 1 : Nat))) (by rw [wrap64_in ((i : Int) + 1) (by omega)]; simp) ?_
      refine Run.keep [1, 2, 4] rfl ?_
      refine ih (i + 1) ⟨by omega, fun j hj => ?_⟩ (by omega)
      by_cases e : j = i
      · rw [e]; exact h1
      · exact hall j (by omega)
  · have hi2 : i = 32 := by simp at hb; omega
    subst hi2
    repeat (first | apply wa | apply wb | apply wc | apply wd | apply we | apply wf | apply wg | apply wh | apply wi | ((first | refine wl rfl rfl ?_ ?_ | refine wn (wp rfl rfl rfl rfl rfl ?_) rfl ?_ | refine wn (wq agree rfl rfl rfl ?_) rfl ?_ | refine wm rfl rfl rfl ?_ ?_ | refine wo rfl (wp rfl rfl rfl rfl rfl ?_) rfl ?_ | refine wo rfl (wq agree rfl rfl rfl ?_) rfl ?_ | refine wt rfl ?_ ?_ | refine wu rfl ?_ ?_ | refine wv rfl rfl ?_ rfl rfl ?_ | refine xa agree rfl rfl ?_ ?_ | refine xb agree rfl rfl rfl ?_ ?_); try (first | exact trivial | (rw [hgd] <;> rfl) | ((repeat' apply And.intro) <;> first | exact trivial | exact rfl | omega | (simp; done) | (simp; omega)))) | refine wn (wr rfl rfl rfl) rfl ?_ | refine wo rfl (wr rfl rfl rfl) rfl ?_ | refine ws rfl rfl ?_ | refine wj rfl ?_ | refine wk rfl ?_ | refine ww rfl rfl rfl ?_)
    refine wD (wE rfl rfl ?_)
    have : freeN g = true := List.all_eq_true.2 fun j hj => by rw [hall j (List.mem_range.1 hj)]; rfl
    rw [this]

theorem nx_edge {g : List Nat} {i k : Nat} : nxf (fun i => outsN g (i : Int)) (fun _ => true) i k = edge g i k := by rw [nxt_true, outs_bit]
theorem free_iff {g : List Nat} : freeN g = true ↔ ∀ a, a < 32 → ¬ Comes1 (nxf (fun i => outsN g (i : Int)) fun _ => true) a a := by
  unfold freeN
  rw [List.all_eq_true]
  constructor
  · intro h a ha hc
    have := h a (List.mem_range.2 ha)
    rw [show (reachN g a).testBit a = true from setOf_bit.2 ⟨by omega, hc⟩] at this
    cases this
  · intro h a ha
    cases hb : (reachN g a).testBit a with
    | false => rfl
    | true => exact absurd (setOf_bit.1 hb).2 (h a (List.mem_range.1 ha))
theorem sorted_free {g : List Nat} {l : List Int} (hl : l.length = 32) (hs : sortedN g l = true) : freeN g = true := by
  obtain ⟨hp, he⟩ := (sorted_iff hl).1 hs
  rw [free_iff]
  rintro a _ ⟨i, h1, h2⟩
  have : ∀ j, Comes (nxf (fun i => outsN g (i : Int)) fun _ => true) a j → pl l a ≤ pl l j := fun j hj => by
    induction hj with
    | base => exact Nat.le_refl _
    | step _ hn ih => rw [nx_edge] at hn; have := he _ _ hn; omega
  rw [nx_edge] at h2
  have h3 := this i h1
  have h4 := he _ _ h2
  omega
/-- It is let in just if it may be, and there is no way round then. -/
theorem ins_is {g : List Nat} {l : List Int} (hf : Fit g l) (a b : Int) : (insG g l a b).2.2 = ((putG g a b).2 && freeN (putG g a b).1) := by
  have hfit := ins_fit hf a b
  rcases insR g l a b hf.ln with ⟨e, h⟩ | ⟨A, B, _, _, hA, hB, hne, hs, hlt, e, hq⟩ | ⟨A, B, _, _, hA, hB, hne, hs, hlt, hc, e, hq⟩ | ⟨A, B, _, _, hA, hB, hne, hs, hlt, hc, e, hq⟩
  · rw [e]
    rcases h with h | h
    · rw [h]; rfl
    · rw [hf.so] at h; cases h
  · rw [e] at hfit ⊢
    rw [hq, sorted_free hfit.ln hfit.so]
    rfl
  · rw [e, hq]
    have hp := ((sorted_iff hf.ln).1 hf.so).1
    have : freeN (g.set A (withN (g.getD A 0) (B : Int))) = false := by
      refine Bool.eq_false_iff.2 fun hfr => ?_
      refine (free_iff.1 hfr) A hA ?_
      have hnew : edge (g.set A (withN (g.getD A 0) (B : Int))) A B = true := (put_edge hf.gk.1 hA hB A B).2 (.inr ⟨rfl, rfl⟩)
      have hmono : ∀ j, Comes (nxF g l A) B j → Comes (nxf (fun i => outsN (g.set A (withN (g.getD A 0) (B : Int))) (i : Int)) fun _ => true) A j := fun j hj => by
        induction hj with
        | base => exact Comes.base.step (by rw [nx_edge]; exact hnew)
        | step _ hn ih =>
          rw [nxF_iff hp hA] at hn
          exact ih.step (by rw [nx_edge]; exact (put_edge hf.gk.1 hA hB _ _).2 (.inl hn.1))
      cases hc with
      | base => exact absurd rfl hne
      | step h1 hn =>
        rw [nxF_iff hp hA] at hn
        exact ⟨_, hmono _ h1, by rw [nx_edge]; exact (put_edge hf.gk.1 hA hB _ _).2 (.inl hn.1)⟩
    rw [this]
    rfl
  · rw [e] at hfit ⊢
    rw [hq, sorted_free hfit.ln hfit.so]
    rfl
/-- What is let in is there; what is not changes nothing. -/
theorem ins_graph {g : List Nat} {l : List Int} (hf : Fit g l) (a b : Int) : ((insG g l a b).2.2 = true → (insG g l a b).1 = (putG g a b).1) ∧ ((insG g l a b).2.2 = false → (insG g l a b).1 = g ∧ (insG g l a b).2.1 = l) := by
  rcases insR g l a b hf.ln with ⟨e, h⟩ | ⟨A, B, _, _, hA, hB, hne, hs, hlt, e, hq⟩ | ⟨A, B, _, _, hA, hB, hne, hs, hlt, hc, e, hq⟩ | ⟨A, B, _, _, hA, hB, hne, hs, hlt, hc, e, hq⟩
  · rw [e]; exact ⟨(fun h => by cases h), fun _ => ⟨rfl, rfl⟩⟩
  · rw [e, hq]; exact ⟨fun _ => rfl, fun h => by cases h⟩
  · rw [e]; exact ⟨(fun h => by cases h), fun _ => ⟨rfl, rfl⟩⟩
  · rw [e, hq]; exact ⟨fun _ => rfl, fun h => by cases h⟩
end Go.Proofs.YthiicbpoahilcaaDoor

namespace Go.Proofs.YthiicbpoahilcaaDoor
open Go Go.Dat

theorem add_bit {s n : Nat} (hs : s < M64) (hn : n < 64) (h : s.testBit n = false) : s + 2 ^ n = s ||| 2 ^ n := by
  have hp : 2 ^ n < 2 ^ 64 := Nat.pow_lt_pow_right (a := 2) (by decide) hn
  have hs' : s < 2 ^ 64 := hs
  have e1' : ∀ p, p < 2 ^ 64 → (BitVec.ofNat 65 s + BitVec.ofNat 65 p).toNat = s + p := fun p hp => by
    rw [BitVec.toNat_add, BitVec.toNat_ofNat, BitVec.toNat_ofNat]
    omega
  have e2' : ∀ p, p < 2 ^ 64 → (BitVec.ofNat 65 s ||| BitVec.ofNat 65 p).toNat = s ||| p := fun p hp => by
    rw [BitVec.toNat_or, BitVec.toNat_ofNat, BitVec.toNat_ofNat, Nat.mod_eq_of_lt (a := s) (by omega), Nat.mod_eq_of_lt (a := p) (by omega)]
  have e1 := e1' (2 ^ n) hp
  have e2 := e2' (2 ^ n) hp
  rw [← e1, ← e2, BitVec.add_eq_or_of_and_eq_zero]
  apply BitVec.eq_of_getLsbD_eq
  intro j hj
  rw [BitVec.getLsbD_and, BitVec.getLsbD_ofNat, BitVec.getLsbD_ofNat, Nat.testBit_two_pow]
  by_cases e : n = j
  · subst e; simp [h]
  · simp [e]
theorem bitN_nat {n : Nat} (hn : n < 64) : bitN (n : Int) = 2 ^ n := by
  have : small (n : Int) = true := by simp [small]; omega
  rw [bitN, this, if_pos rfl, Int.toNat_natCast]
theorem with_add {s n : Nat} (hs : s < M64) (hn : n < 64) (h : s.testBit n = false) : withN s (n : Int) = s + 2 ^ n := by
  rw [withN, bitN_nat hn, add_bit hs hn h]
theorem less_sub {s n : Nat} (hs : s < M64) (hn : n < 64) (h : s.testBit n = true) : lessN s (n : Int) + 2 ^ n = s := by
  have hb : (lessN s (n : Int)).testBit n = false := by rw [lessN_bit _ hs, bit_at hn]; simp
  rw [add_bit (lessN_lt _ _) hn hb]
  apply Nat.eq_of_testBit_eq
  intro j
  rw [Nat.testBit_or, lessN_bit _ hs, bit_at hn, Nat.testBit_two_pow]
  by_cases e : n = j
  · subst e; simp [h]
  · simp [e]
theorem has_nat (s n : Nat) (hn : n < 64) : hasN s (n : Int) = s.testBit n := by
  have : small (n : Int) = true := by simp [small]; omega
  rw [hasN, this, Bool.true_and, Int.toNat_natCast]
theorem not_small {i : Int} (h : i < 0 ∨ 63 < i) : small i = false := by
  unfold small
  rcases h with h | h
  · have : ¬ 0 ≤ i := by omega
    simp [this]
  · have : ¬ i ≤ 63 := by omega
    simp [this]

theorem c_rWith (s : Nat) (i : Int) (hs : s < M64) : DFun Tryd.prog 40 [S s, .v (.int .i64 i)] (S (withN s i)) := by
  refine DFun.ofRun agree mixed Tryd.func40 rfl rfl ?_
  repeat (first | apply wa | apply wb | apply wc | apply wd | apply we | apply wf | apply wg | apply wh | apply wi | ((first | refine wl rfl rfl ?_ ?_ | refine wn (wp rfl rfl rfl rfl rfl ?_) rfl ?_ | refine wn (wq agree rfl rfl rfl ?_) rfl ?_ | refine wm rfl rfl rfl ?_ ?_ | refine wo rfl (wp rfl rfl rfl rfl rfl ?_) rfl ?_ | refine wo rfl (wq agree rfl rfl rfl ?_) rfl ?_ | refine wt rfl ?_ ?_ | refine wu rfl ?_ ?_ | refine wv rfl rfl ?_ rfl rfl ?_ | refine xa agree rfl rfl ?_ ?_ | refine xb agree rfl rfl rfl ?_ ?_); try (first | exact trivial | (rw [hgd] <;> rfl) | ((repeat' apply And.intro) <;> first | exact trivial | exact rfl | omega | (simp; done) | (simp; omega)))) | refine wn (wr rfl rfl rfl) rfl ?_ | refine wo rfl (wr rfl rfl rfl) rfl ?_ | refine ws rfl rfl ?_ | refine wj rfl ?_ | refine wk rfl ?_ | refine ww rfl rfl rfl ?_)
  refine OpsAt.br rfl rfl rfl (fun h1 => ?_) (fun h1 => ?_)
  · repeat (first | apply wa | apply wb | apply wc | apply wd | apply we | apply wf | apply wg | apply wh | apply wi | ((first | refine wl rfl rfl ?_ ?_ | refine wn (wp rfl rfl rfl rfl rfl ?_) rfl ?_ | refine wn (wq agree rfl rfl rfl ?_) rfl ?_ | refine wm rfl rfl rfl ?_ ?_ | refine wo rfl (wp rfl rfl rfl rfl rfl ?_) rfl ?_ | refine wo rfl (wq agree rfl rfl rfl ?_) rfl ?_ | refine wt rfl ?_ ?_ | refine wu rfl ?_ ?_ | refine wv rfl rfl ?_ rfl rfl ?_ | refine xa agree rfl rfl ?_ ?_ | refine xb agree rfl rfl rfl ?_ ?_); try (first | exact trivial | (rw [hgd] <;> rfl) | ((repeat' apply And.intro) <;> first | exact trivial | exact rfl | omega | (simp; done) | (simp; omega)))) | refine wn (wr rfl rfl rfl) rfl ?_ | refine wo rfl (wr rfl rfl rfl) rfl ?_ | refine ws rfl rfl ?_ | refine wj rfl ?_ | refine wk rfl ?_ | refine ww rfl rfl rfl ?_)
    refine wD (wE rfl rfl ?_)
    rw [withN, bitN, not_small (.inl (of_decide_eq_true h1))]
    simp
  · have h1' := of_decide_eq_false h1
    repeat (first | apply wa | apply wb | apply wc | apply wd | apply we | apply wf | apply wg | apply wh | apply wi | ((first | refine wl rfl rfl ?_ ?_ | refine wn (wp rfl rfl rfl rfl rfl ?_) rfl ?_ | refine wn (wq agree rfl rfl rfl ?_) rfl ?_ | refine wm rfl rfl rfl ?_ ?_ | refine wo rfl (wp rfl rfl rfl rfl rfl ?_) rfl ?_ | refine wo rfl (wq agree rfl rfl rfl ?_) rfl ?_ | refine wt rfl ?_ ?_ | refine wu rfl ?_ ?_ | refine wv rfl rfl ?_ rfl rfl ?_ | refine xa agree rfl rfl ?_ ?_ | refine xb agree rfl rfl rfl ?_ ?_); try (first | exact trivial | (rw [hgd] <;> rfl) | ((repeat' apply And.intro) <;> first | exact trivial | exact rfl | omega | (simp; done) | (simp; omega)))) | refine wn (wr rfl rfl rfl) rfl ?_ | refine wo rfl (wr rfl rfl rfl) rfl ?_ | refine ws rfl rfl ?_ | refine wj rfl ?_ | refine wk rfl ?_ | refine ww rfl rfl rfl ?_)
    refine OpsAt.br rfl rfl rfl (fun h2 => ?_) (fun h2 => ?_)
    · repeat (first | apply wa | apply wb | apply wc | apply wd | apply we | apply wf | apply wg | apply wh | apply wi | ((first | refine wl rfl rfl ?_ ?_ | refine wn (wp rfl rfl rfl rfl rfl ?_) rfl ?_ | refine wn (wq agree rfl rfl rfl ?_) rfl ?_ | refine wm rfl rfl rfl ?_ ?_ | refine wo rfl (wp rfl rfl rfl rfl rfl ?_) rfl ?_ | refine wo rfl (wq agree rfl rfl rfl ?_) rfl ?_ | refine wt rfl ?_ ?_ | refine wu rfl ?_ ?_ | refine wv rfl rfl ?_ rfl rfl ?_ | refine xa agree rfl rfl ?_ ?_ | refine xb agree rfl rfl rfl ?_ ?_); try (first | exact trivial | (rw [hgd] <;> rfl) | ((repeat' apply And.intro) <;> first | exact trivial | exact rfl | omega | (simp; done) | (simp; omega)))) | refine wn (wr rfl rfl rfl) rfl ?_ | refine wo rfl (wr rfl rfl rfl) rfl ?_ | refine ws rfl rfl ?_ | refine wj rfl ?_ | refine wk rfl ?_ | refine ww rfl rfl rfl ?_)
      refine wD (wE rfl rfl ?_)
      rw [withN, bitN, not_small (.inr (of_decide_eq_true h2))]
      simp
    · have h2' := of_decide_eq_false h2
      obtain ⟨n, rfl⟩ := Int.eq_ofNat_of_zero_le (show 0 ≤ i by omega)
      have hn : n < 64 := by omega
      repeat (first | apply wa | apply wb | apply wc | apply wd | apply we | apply wf | apply wg | apply wh | apply wi | ((first | refine wl rfl rfl ?_ ?_ | refine wn (wp rfl rfl rfl rfl rfl ?_) rfl ?_ | refine wn (wq agree rfl rfl rfl ?_) rfl ?_ | refine wm rfl rfl rfl ?_ ?_ | refine wo rfl (wp rfl rfl rfl rfl rfl ?_) rfl ?_ | refine wo rfl (wq agree rfl rfl rfl ?_) rfl ?_ | refine wt rfl ?_ ?_ | refine wu rfl ?_ ?_ | refine wv rfl rfl ?_ rfl rfl ?_ | refine xa agree rfl rfl ?_ ?_ | refine xb agree rfl rfl rfl ?_ ?_); try (first | exact trivial | (rw [hgd] <;> rfl) | ((repeat' apply And.intro) <;> first | exact trivial | exact rfl | omega | (simp; done) | (simp; omega)))) | refine wn (wr rfl rfl rfl) rfl ?_ | refine wo rfl (wr rfl rfl rfl) rfl ?_ | refine ws rfl rfl ?_ | refine wj rfl ?_ | refine wk rfl ?_ | refine ww rfl rfl rfl ?_)
      refine wo rfl (wA rfl rfl rfl (by repeat' (first | exact trivial | exact rfl | assumption | apply And.intro)) (callable (by decide)) (c_refHas s n hs)) rfl ?_
      first | refine OpsAt.say (d := 14) rfl (y := .v (.bool (s.testBit n))) (by rw [has_nat _ _ hn]) ?_ | refine Run.say (d := 14) rfl (y := .v (.bool (s.testBit n))) (by rw [has_nat _ _ hn]) ?_ | refine OpsB.say (d := 14) rfl (y := .v (.bool (s.testBit n))) (by rw [has_nat _ _ hn]) ?_
      repeat (first | apply wa | apply wb | apply wc | apply wd | apply we | apply wf | apply wg | apply wh | apply wi | ((first | refine wl rfl rfl ?_ ?_ | refine wn (wp rfl rfl rfl rfl rfl ?_) rfl ?_ | refine wn (wq agree rfl rfl rfl ?_) rfl ?_ | refine wm rfl rfl rfl ?_ ?_ | refine wo rfl (wp rfl rfl rfl rfl rfl ?_) rfl ?_ | refine wo rfl (wq agree rfl rfl rfl ?_) rfl ?_ | refine wt rfl ?_ ?_ | refine wu rfl ?_ ?_ | refine wv rfl rfl ?_ rfl rfl ?_ | refine xa agree rfl rfl ?_ ?_ | refine xb agree rfl rfl rfl ?_ ?_); try (first | exact trivial | (rw [hgd] <;> rfl) | ((repeat' apply And.intro) <;> first | exact trivial | exact rfl | omega | (simp; done) | (simp; omega)))) | refine wn (wr rfl rfl rfl) rfl ?_ | refine wo rfl (wr rfl rfl rfl) rfl ?_ | refine ws rfl rfl ?_ | refine wj rfl ?_ | refine wk rfl ?_ | refine ww rfl rfl rfl ?_)
      refine Run.condB rfl rfl (fun h3 => ?_) (fun h3 => ?_)
      · repeat (first | apply wa | apply wb | apply wc | apply wd | apply we | apply wf | apply wg | apply wh | apply wi | ((first | refine wl rfl rfl ?_ ?_ | refine wn (wp rfl rfl rfl rfl rfl ?_) rfl ?_ | refine wn (wq agree rfl rfl rfl ?_) rfl ?_ | refine wm rfl rfl rfl ?_ ?_ | refine wo rfl (wp rfl rfl rfl rfl rfl ?_) rfl ?_ | refine wo rfl (wq agree rfl rfl rfl ?_) rfl ?_ | refine wt rfl ?_ ?_ | refine wu rfl ?_ ?_ | refine wv rfl rfl ?_ rfl rfl ?_ | refine xa agree rfl rfl ?_ ?_ | refine xb agree rfl rfl rfl ?_ ?_); try (first | exact trivial | (rw [hgd] <;> rfl) | ((repeat' apply And.intro) <;> first | exact trivial | exact rfl | omega | (simp; done) | (simp; omega)))) | refine wn (wr rfl rfl rfl) rfl ?_ | refine wo rfl (wr rfl rfl rfl) rfl ?_ | refine ws rfl rfl ?_ | refine wj rfl ?_ | refine wk rfl ?_ | refine ww rfl rfl rfl ?_)
        refine wD (wE rfl rfl ?_)
        have : withN s (n : Int) = s := by
          apply Nat.eq_of_testBit_eq
          intro j
          rw [with_bit hn]
          by_cases e : n = j
          · subst e; simp [h3]
          · simp [e]
        rw [this]
      · repeat (first | apply wa | apply wb | apply wc | apply wd | apply we | apply wf | apply wg | apply wh | apply wi | ((first | refine wl rfl rfl ?_ ?_ | refine wn (wp rfl rfl rfl rfl rfl ?_) rfl ?_ | refine wn (wq agree rfl rfl rfl ?_) rfl ?_ | refine wm rfl rfl rfl ?_ ?_ | refine wo rfl (wp rfl rfl rfl rfl rfl ?_) rfl ?_ | refine wo rfl (wq agree rfl rfl rfl ?_) rfl ?_ | refine wt rfl ?_ ?_ | refine wu rfl ?_ ?_ | refine wv rfl rfl ?_ rfl rfl ?_ | refine xa agree rfl rfl ?_ ?_ | refine xb agree rfl rfl rfl ?_ ?_); try (first | exact trivial | (rw [hgd] <;> rfl) | ((repeat' apply And.intro) <;> first | exact trivial | exact rfl | omega | (simp; done) | (simp; omega)))) | refine wn (wr rfl rfl rfl) rfl ?_ | refine wo rfl (wr rfl rfl rfl) rfl ?_ | refine ws rfl rfl ?_ | refine wj rfl ?_ | refine wk rfl ?_ | refine ww rfl rfl rfl ?_)
        refine wn (wA rfl rfl rfl (by repeat' (first | exact trivial | exact rfl | assumption | apply And.intro)) (callable (by decide)) (c_power n hn)) rfl ?_
        repeat (first | apply wa | apply wb | apply wc | apply wd | apply we | apply wf | apply wg | apply wh | apply wi | ((first | refine wl rfl rfl ?_ ?_ | refine wn (wp rfl rfl rfl rfl rfl ?_) rfl ?_ | refine wn (wq agree rfl rfl rfl ?_) rfl ?_ | refine wm rfl rfl rfl ?_ ?_ | refine wo rfl (wp rfl rfl rfl rfl rfl ?_) rfl ?_ | refine wo rfl (wq agree rfl rfl rfl ?_) rfl ?_ | refine wt rfl ?_ ?_ | refine wu rfl ?_ ?_ | refine wv rfl rfl ?_ rfl rfl ?_ | refine xa agree rfl rfl ?_ ?_ | refine xb agree rfl rfl rfl ?_ ?_); try (first | exact trivial | (rw [hgd] <;> rfl) | ((repeat' apply And.intro) <;> first | exact trivial | exact rfl | omega | (simp; done) | (simp; omega)))) | refine wn (wr rfl rfl rfl) rfl ?_ | refine wo rfl (wr rfl rfl rfl) rfl ?_ | refine ws rfl rfl ?_ | refine wj rfl ?_ | refine wk rfl ?_ | refine ww rfl rfl rfl ?_)
        refine wD (wE rfl rfl ?_)
        have hw := with_add hs hn h3
        rw [hw]
        have : s + 2 ^ n < M64 := by rw [← hw]; exact withN_lt _ hs
        show D.v (.int .u64 (IntKind.u64.wrap ((s : Int) + ((2 ^ n : Nat) : Int)))) = _
        rw [show (s : Int) + ((2 ^ n : Nat) : Int) = ((s + 2 ^ n : Nat) : Int) by omega, u64_in this]
        rfl

theorem c_rLess (s : Nat) (i : Int) (hs : s < M64) : DFun Tryd.prog 67 [S s, .v (.int .i64 i)] (S (lessN s i)) := by
  refine DFun.ofRun agree mixed Tryd.func67 rfl rfl ?_
  repeat (first | apply wa | apply wb | apply wc | apply wd | apply we | apply wf | apply wg | apply wh | apply wi | ((first | refine wl rfl rfl ?_ ?_ | refine wn (wp rfl rfl rfl rfl rfl ?_) rfl ?_ | refine wn (wq agree rfl rfl rfl ?_) rfl ?_ | refine wm rfl rfl rfl ?_ ?_ | refine wo rfl (wp rfl rfl rfl rfl rfl ?_) rfl ?_ | refine wo rfl (wq agree rfl rfl rfl ?_) rfl ?_ | refine wt rfl ?_ ?_ | refine wu rfl ?_ ?_ | refine wv rfl rfl ?_ rfl rfl ?_ | refine xa agree rfl rfl ?_ ?_ | refine xb agree rfl rfl rfl ?_ ?_); try (first | exact trivial | (rw [hgd] <;> rfl) | ((repeat' apply And.intro) <;> first | exact trivial | exact rfl | omega | (simp; done) | (simp; omega)))) | refine wn (wr rfl rfl rfl) rfl ?_ | refine wo rfl (wr rfl rfl rfl) rfl ?_ | refine ws rfl rfl ?_ | refine wj rfl ?_ | refine wk rfl ?_ | refine ww rfl rfl rfl ?_)
  refine wn (wA rfl rfl rfl (by repeat' (first | exact trivial | exact rfl | assumption | apply And.intro)) (callable (by decide)) (c_refHas s i hs)) rfl ?_
  repeat (first | apply wa | apply wb | apply wc | apply wd | apply we | apply wf | apply wg | apply wh | apply wi | ((first | refine wl rfl rfl ?_ ?_ | refine wn (wp rfl rfl rfl rfl rfl ?_) rfl ?_ | refine wn (wq agree rfl rfl rfl ?_) rfl ?_ | refine wm rfl rfl rfl ?_ ?_ | refine wo rfl (wp rfl rfl rfl rfl rfl ?_) rfl ?_ | refine wo rfl (wq agree rfl rfl rfl ?_) rfl ?_ | refine wt rfl ?_ ?_ | refine wu rfl ?_ ?_ | refine wv rfl rfl ?_ rfl rfl ?_ | refine xa agree rfl rfl ?_ ?_ | refine xb agree rfl rfl rfl ?_ ?_); try (first | exact trivial | (rw [hgd] <;> rfl) | ((repeat' apply And.intro) <;> first | exact trivial | exact rfl | omega | (simp; done) | (simp; omega)))) | refine wn (wr rfl rfl rfl) rfl ?_ | refine wo rfl (wr rfl rfl rfl) rfl ?_ | refine ws rfl rfl ?_ | refine wj rfl ?_ | refine wk rfl ?_ | refine ww rfl rfl rfl ?_)
  refine Run.condB rfl rfl (fun h1 => ?_) (fun h1 => ?_)
  · have h1' : hasN s i = false := by simpa using h1
    repeat (first | apply wa | apply wb | apply wc | apply wd | apply we | apply wf | apply wg | apply wh | apply wi | ((first | refine wl rfl rfl ?_ ?_ | refine wn (wp rfl rfl rfl rfl rfl ?_) rfl ?_ | refine wn (wq agree rfl rfl rfl ?_) rfl ?_ | refine wm rfl rfl rfl ?_ ?_ | refine wo rfl (wp rfl rfl rfl rfl rfl ?_) rfl ?_ | refine wo rfl (wq agree rfl rfl rfl ?_) rfl ?_ | refine wt rfl ?_ ?_ | refine wu rfl ?_ ?_ | refine wv rfl rfl ?_ rfl rfl ?_ | refine xa agree rfl rfl ?_ ?_ | refine xb agree rfl rfl rfl ?_ ?_); try (first | exact trivial | (rw [hgd] <;> rfl) | ((repeat' apply And.intro) <;> first | exact trivial | exact rfl | omega | (simp; done) | (simp; omega)))) | refine wn (wr rfl rfl rfl) rfl ?_ | refine wo rfl (wr rfl rfl rfl) rfl ?_ | refine ws rfl rfl ?_ | refine wj rfl ?_ | refine wk rfl ?_ | refine ww rfl rfl rfl ?_)
    refine wD (wE rfl rfl ?_)
    have : lessN s i = s := by
      apply Nat.eq_of_testBit_eq
      intro j
      rw [lessN_bit _ hs, bitN_bit]
      by_cases e : small i = true ∧ i.toNat = j
      · have : s.testBit j = false := by rw [hasN, e.1, Bool.true_and, e.2] at h1'; exact h1'
        rw [this]; rfl
      · have : (small i && decide (i.toNat = j)) = false := by
          rw [Bool.and_eq_false_iff, decide_eq_false_iff_not]
          by_cases h : small i = true
          · exact .inr fun h2 => e ⟨h, h2⟩
          · exact .inl (by simpa using h)
        rw [this]; simp
    rw [this]
  · have h1' : hasN s i = true := by simpa using h1
    have hsm : small i = true := by unfold hasN at h1'; rw [Bool.and_eq_true] at h1'; exact h1'.1
    have hsm2 : 0 ≤ i ∧ i ≤ 63 := by simpa [small] using hsm
    obtain ⟨n, rfl⟩ := Int.eq_ofNat_of_zero_le hsm2.1
    have hn : n < 64 := by omega
    repeat (first | apply wa | apply wb | apply wc | apply wd | apply we | apply wf | apply wg | apply wh | apply wi | ((first | refine wl rfl rfl ?_ ?_ | refine wn (wp rfl rfl rfl rfl rfl ?_) rfl ?_ | refine wn (wq agree rfl rfl rfl ?_) rfl ?_ | refine wm rfl rfl rfl ?_ ?_ | refine wo rfl (wp rfl rfl rfl rfl rfl ?_) rfl ?_ | refine wo rfl (wq agree rfl rfl rfl ?_) rfl ?_ | refine wt rfl ?_ ?_ | refine wu rfl ?_ ?_ | refine wv rfl rfl ?_ rfl rfl ?_ | refine xa agree rfl rfl ?_ ?_ | refine xb agree rfl rfl rfl ?_ ?_); try (first | exact trivial | (rw [hgd] <;> rfl) | ((repeat' apply And.intro) <;> first | exact trivial | exact rfl | omega | (simp; done) | (simp; omega)))) | refine wn (wr rfl rfl rfl) rfl ?_ | refine wo rfl (wr rfl rfl rfl) rfl ?_ | refine ws rfl rfl ?_ | refine wj rfl ?_ | refine wk rfl ?_ | refine ww rfl rfl rfl ?_)
    refine wn (wA rfl rfl rfl (by repeat' (first | exact trivial | exact rfl | assumption | apply And.intro)) (callable (by decide)) (c_power n hn)) rfl ?_
    repeat (first | apply wa | apply wb | apply wc | apply wd | apply we | apply wf | apply wg | apply wh | apply wi | ((first | refine wl rfl rfl ?_ ?_ | refine wn (wp rfl rfl rfl rfl rfl ?_) rfl ?_ | refine wn (wq agree rfl rfl rfl ?_) rfl ?_ | refine wm rfl rfl rfl ?_ ?_ | refine wo rfl (wp rfl rfl rfl rfl rfl ?_) rfl ?_ | refine wo rfl (wq agree rfl rfl rfl ?_) rfl ?_ | refine wt rfl ?_ ?_ | refine wu rfl ?_ ?_ | refine wv rfl rfl ?_ rfl rfl ?_ | refine xa agree rfl rfl ?_ ?_ | refine xb agree rfl rfl rfl ?_ ?_); try (first | exact trivial | (rw [hgd] <;> rfl) | ((repeat' apply And.intro) <;> first | exact trivial | exact rfl | omega | (simp; done) | (simp; omega)))) | refine wn (wr rfl rfl rfl) rfl ?_ | refine wo rfl (wr rfl rfl rfl) rfl ?_ | refine ws rfl rfl ?_ | refine wj rfl ?_ | refine wk rfl ?_ | refine ww rfl rfl rfl ?_)
    refine wD (wE rfl rfl ?_)
    have hb : s.testBit n = true := by rw [has_nat _ _ hn] at h1'; exact h1'
    have hl := less_sub hs hn hb
    have hlt := lessN_lt s (n : Int)
    show D.v (.int .u64 (IntKind.u64.wrap ((s : Int) - ((2 ^ n : Nat) : Int)))) = _
    rw [show (s : Int) - ((2 ^ n : Nat) : Int) = ((lessN s (n : Int) : Nat) : Int) by omega, u64_in hlt]
    rfl

/-! ### Rows of truths -/
def bools (l : List Bool) : List D := l.map fun b => .v (.bool b)
def bo (l : List Bool) : D := .arr 1 (bools l)
theorem bools_len (l : List Bool) : (bools l).length = l.length := by simp [bools]
theorem bools_v (l : List Bool) : ∀ x ∈ bools l, ∃ v, x = .v v := fun x hx => by
  obtain ⟨b, _, rfl⟩ := List.mem_map.1 hx
  exact ⟨_, rfl⟩
theorem bo_pl (l : List Bool) : (bo l).pl = true := noOwns_v _ (bools_v l)
theorem bo_fits {T : TypeId} {l : List Bool} {n : Nat} (h : l.length = n) (hT : ((Θ T).known && (Θ T).td.isAgg && ((Θ T).n == n)) = true) : (Θ T).fits (bo l) = true := by
  simp only [TI.fits]
  simp only [Bool.and_eq_true] at hT
  have hs : (bo l).size = n := by show 1 * (bools l).length = n; rw [bools_len, h, Nat.one_mul]
  rw [hs]
  simp only [beq_iff_eq] at hT
  simp [hT.1.1, hT.1.2, hT.2, bo, D.isAgg]
theorem bo_at {l : List Bool} {i : Nat} (hi : i < l.length) : (bo l).get [i] = .v (.bool (l.getD i false)) := by
  simp [bo, bools, D.get, hi]
theorem bo_set (l : List Bool) (i : Nat) (b : Bool) : (bo l).set [i] (.v (.bool b)) = bo (l.set i b) := by
  simp [bo, bools, D.set, List.map_set]
theorem bo_sto {T : TypeId} {l : List Bool} {i : Nat} {b : Bool} (hi : i < l.length) (hf : (Θ T).fits (.v (.bool b)) = true) :
    ((Θ T).fits (.v (.bool b)) && ((D.v (.bool b)).size == ((bo l).get [i]).size) && ((bo l).get [i]).noOwn) = true := by
  rw [hf, bo_at hi]
  rfl
theorem bo_stoAll {T : TypeId} {g z : List Bool} {n : Nat} (h : g.length = n) (hz : z.length = n) (hT : ((Θ T).known && (Θ T).td.isAgg && ((Θ T).n == n)) = true) :
    ((Θ T).fits (bo g) && ((bo g).size == ((bo z).get []).size) && ((bo z).get []).noOwn) = true := by
  rw [bo_fits h hT, show ((bo z).get []).noOwn = true from bo_pl z]
  simp [D.get, bo, D.size, bools_len, h, hz]

def bitsTo (s i : Nat) : List Bool := (List.range 64).map fun j => decide (j < i) && s.testBit j
def bitsL (s : Nat) : List Bool := bitsTo s 64
theorem bitsTo_len (s i : Nat) : (bitsTo s i).length = 64 := by simp [bitsTo]
theorem bitsTo_set (s i : Nat) : (bitsTo s i).set i (s.testBit i) = bitsTo s (i + 1) := by
  apply List.ext_getElem?
  intro j
  rw [List.getElem?_set]
  by_cases h1 : i = j
  · subst h1
    by_cases h2 : i < 64
    · simp [bitsTo, h2]
    · simp [bitsTo, h2]
  · by_cases h2 : j < 64
    · have h3 : j < i ↔ j < i + 1 := by omega
      simp [h1, bitsTo, h2, h3]
    · simp [h1, bitsTo, h2]
theorem bits_at {s i : Nat} (hi : i < 64) : (bitsL s).getD i false = s.testBit i := by simp [bitsL, bitsTo, hi]
end Go.Proofs.YthiicbpoahilcaaDoor

namespace Go.Proofs.YthiicbpoahilcaaDoor
open Go Go.Dat

theorem div2 {s i : Nat} : s / 2 ^ i / 2 = s / 2 ^ (i + 1) := by rw [Nat.div_div_eq_div_mul, Nat.pow_succ]
theorem mod2 {s i : Nat} : decide (s / 2 ^ i % 2 = 1) = s.testBit i := by rw [Nat.testBit_eq_decide_div_mod_eq]
theorem eq_one (k : Nat) : (((k : Nat) : Int) == 1) = decide (k = 1) := by
  by_cases h : k = 1
  · simp [h]
  · have h' : ¬ (k : Int) = 1 := by omega
    simp [h, h']

theorem c_rBits (s : Nat) (hs : s < M64) : DFun Tryd.prog 46 [S s] (bo (bitsL s)) := by
  refine DFun.ofRun agree mixed Tryd.func46 rfl rfl ?_
  repeat (first | apply wa | apply wb | apply wc | apply wd | apply we | apply wf | apply wg | apply wh | apply wi | ((first | refine wl rfl rfl ?_ ?_ | refine wn (wp rfl rfl rfl rfl rfl ?_) rfl ?_ | refine wn (wq agree rfl rfl rfl ?_) rfl ?_ | refine wm rfl rfl rfl ?_ ?_ | refine wo rfl (wp rfl rfl rfl rfl rfl ?_) rfl ?_ | refine wo rfl (wq agree rfl rfl rfl ?_) rfl ?_ | refine wt rfl ?_ ?_ | refine wu rfl ?_ ?_ | refine wv rfl rfl ?_ rfl rfl ?_ | refine xa agree rfl rfl ?_ ?_ | refine xb agree rfl rfl rfl ?_ ?_); try (first | exact trivial | (rw [hgd] <;> rfl) | ((repeat' apply And.intro) <;> first | exact trivial | exact rfl | omega | (simp; done) | (simp; omega)))) | refine wn (wr rfl rfl rfl) rfl ?_ | refine wo rfl (wr rfl rfl rfl) rfl ?_ | refine ws rfl rfl ?_ | refine wj rfl ?_ | refine wk rfl ?_ | refine ww rfl rfl rfl ?_)
  refine Run.keep [0, 2, 3, 4] rfl ?_
  have h0 : bitsTo s 0 = List.replicate 64 false := by
    apply List.ext_getElem?
    intro j
    rw [List.getElem?_replicate]
    by_cases h : j < 64
    · simp [bitsTo, h]
    · simp [bitsTo, h]
  refine Run.at (l' := [(0, .d (S (s / 2 ^ 0))), (2, .box (bo (List.replicate 64 false))), (3, .box (bo (bitsTo s 0))), (4, .d (.v (.int .i64 (0 : Nat))))]) (by rw [h0, Nat.pow_zero, Nat.div_one]; rfl) ?_
  refine Run.loopL (α := Nat) (fun i => i ≤ 64) (fun i => [(0, .d (S (s / 2 ^ i))), (2, .box (bo (List.replicate 64 false))), (3, .box (bo (bitsTo s i))), (4, .d (.v (.int .i64 i)))]) (fun i => 64 - i) 0 (by decide) ?_
  intro i hi ih
  repeat (first | apply wa | apply wb | apply wc | apply wd | apply we | apply wf | apply wg | apply wh | apply wi | ((first | refine wl rfl rfl ?_ ?_ | refine wn (wp rfl rfl rfl rfl rfl ?_) rfl ?_ | refine wn (wq agree rfl rfl rfl ?_) rfl ?_ | refine wm rfl rfl rfl ?_ ?_ | refine wo rfl (wp rfl rfl rfl rfl rfl ?_) rfl ?_ | refine wo rfl (wq agree rfl rfl rfl ?_) rfl ?_ | refine wt rfl ?_ ?_ | refine wu rfl ?_ ?_ | refine wv rfl rfl ?_ rfl rfl ?_ | refine xa agree rfl rfl ?_ ?_ | refine xb agree rfl rfl rfl ?_ ?_); try (first | exact trivial | (rw [hgd] <;> rfl) | ((repeat' apply And.intro) <;> first | exact trivial | exact rfl | omega | (simp; done) | (simp; omega)))) | refine wn (wr rfl rfl rfl) rfl ?_ | refine wo rfl (wr rfl rfl rfl) rfl ?_ | refine ws rfl rfl ?_ | refine wj rfl ?_ | refine wk rfl ?_ | refine ww rfl rfl rfl ?_)
  refine Run.condB rfl rfl (fun hb => ?_) (fun hb => ?_)
  · have hi2 : i < 64 := by simp at hb; omega
    have hle : s / 2 ^ i < M64 := Nat.lt_of_le_of_lt (Nat.div_le_self _ _) hs
    repeat (first | apply wa | apply wb | apply wc | apply wd | apply we | apply wf | apply wg | apply wh | apply wi | ((first | refine wl rfl rfl ?_ ?_ | refine wn (wp rfl rfl rfl rfl rfl ?_) rfl ?_ | refine wn (wq agree rfl rfl rfl ?_) rfl ?_ | refine wm rfl rfl rfl ?_ ?_ | refine wo rfl (wp rfl rfl rfl rfl rfl ?_) rfl ?_ | refine wo rfl (wq agree rfl rfl rfl ?_) rfl ?_ | refine wt rfl ?_ ?_ | refine wu rfl ?_ ?_ | refine wv rfl rfl ?_ rfl rfl ?_ | refine xa agree rfl rfl ?_ ?_ | refine xb agree rfl rfl rfl ?_ ?_); try (first | exact trivial | (rw [hgd] <;> rfl) | ((repeat' apply And.intro) <;> first | exact trivial | exact rfl | omega | (simp; done) | (simp; omega)))) | refine wn (wr rfl rfl rfl) rfl ?_ | refine wo rfl (wr rfl rfl rfl) rfl ?_ | refine ws rfl rfl ?_ | refine wj rfl ?_ | refine wk rfl ?_ | refine ww rfl rfl rfl ?_)
    have hm : ((s / 2 ^ i : Nat) : Int).tmod 2 = ((s / 2 ^ i % 2 : Nat) : Int) := (Int.ofNat_tmod _ _).symm
    first | refine OpsAt.say (d := 12) rfl (y := .v (.bool (s.testBit i))) (by rw [hm, eq_one, mod2]) ?_ | refine Run.say (d := 12) rfl (y := .v (.bool (s.testBit i))) (by rw [hm, eq_one, mod2]) ?_ | refine OpsB.say (d := 12) rfl (y := .v (.bool (s.testBit i))) (by rw [hm, eq_one, mod2]) ?_
    repeat (first | apply wa | apply wb | apply wc | apply wd | apply we | apply wf | apply wg | apply wh | apply wi | ((first | refine wl rfl rfl ?_ ?_ | refine wn (wp rfl rfl rfl rfl rfl ?_) rfl ?_ | refine wn (wq agree rfl rfl rfl ?_) rfl ?_ | refine wm rfl rfl rfl ?_ ?_ | refine wo rfl (wp rfl rfl rfl rfl rfl ?_) rfl ?_ | refine wo rfl (wq agree rfl rfl rfl ?_) rfl ?_ | refine wt rfl ?_ ?_ | refine wu rfl ?_ ?_ | refine wv rfl rfl ?_ rfl rfl ?_ | refine xa agree rfl rfl ?_ ?_ | refine xb agree rfl rfl rfl ?_ ?_); try (first | exact trivial | (rw [hgd] <;> rfl) | ((repeat' apply And.intro) <;> first | exact trivial | exact rfl | omega | (simp; done) | (simp; omega)))) | refine wn (wr rfl rfl rfl) rfl ?_ | refine wo rfl (wr rfl rfl rfl) rfl ?_ | refine ws rfl rfl ?_ | refine wj rfl ?_ | refine wk rfl ?_ | refine ww rfl rfl rfl ?_)
    refine wv rfl rfl rfl (bo_sto (by rw [bitsTo_len]; exact hi2) rfl) rfl ?_
    first | refine OpsAt.sayB (d := 3) rfl (y := bo (bitsTo s (i + 1))) ((bo_set (bitsTo s i) i (s.testBit i)).trans (by rw [bitsTo_set])) ?_ | refine Run.sayB (d := 3) rfl (y := bo (bitsTo s (i + 1))) ((bo_set (bitsTo s i) i (s.testBit i)).trans (by rw [bitsTo_set])) ?_
    repeat (first | apply wa | apply wb | apply wc | apply wd | apply we | apply wf | apply wg | apply wh | apply wi | ((first | refine wl rfl rfl ?_ ?_ | refine wn (wp rfl rfl rfl rfl rfl ?_) rfl ?_ | refine wn (wq agree rfl rfl rfl ?_) rfl ?_ | refine wm rfl rfl rfl ?_ ?_ | refine wo rfl (wp rfl rfl rfl rfl rfl ?_) rfl ?_ | refine wo rfl (wq agree rfl rfl rfl ?_) rfl ?_ | refine wt rfl ?_ ?_ | refine wu rfl ?_ ?_ | refine wv rfl rfl ?_ rfl rfl ?_ | refine xa agree rfl rfl ?_ ?_ | refine xb agree rfl rfl rfl ?_ ?_); try (first | exact trivial | (rw [hgd] <;> rfl) | ((repeat' apply And.intro) <;> first | exact trivial | exact rfl | omega | (simp; done) | (simp; omega)))) | refine wn (wr rfl rfl rfl) rfl ?_ | refine wo rfl (wr rfl rfl rfl) rfl ?_ | refine ws rfl rfl ?_ | refine wj rfl ?_ | refine wk rfl ?_ | refine ww rfl rfl rfl ?_)
    have hd : ((s / 2 ^ i : Nat) : Int).tdiv 2 = ((s / 2 ^ (i + 1) : Nat) : Int) := by rw [← div2]; exact (Int.ofNat_tdiv _ _).symm
    first | refine OpsAt.say (d := 0) rfl (y := S (s / 2 ^ (i + 1))) (by rw [hd]; exact congrArg (fun z => D.v (.int .u64 z)) (u64_in (Nat.lt_of_le_of_lt (Nat.div_le_self _ _) hs))) ?_ | refine Run.say (d := 0) rfl (y := S (s / 2 ^ (i + 1))) (by rw [hd]; exact congrArg (fun z => D.v (.int .u64 z)) (u64_in (Nat.lt_of_le_of_lt (Nat.div_le_self _ _) hs))) ?_ | refine OpsB.say (d := 0) rfl (y := S (s / 2 ^ (i + 1))) (by rw [hd]; exact congrArg (fun z => D.v (.int .u64 z)) (u64_in (Nat.lt_of_le_of_lt (Nat.div_le_self _ _) hs))) ?_
    first | refine OpsAt.say (d := 4) rfl (y := .v (.int .i64 (i + 1 : Nat))) (by rw [wrap64_in ((i : Int) + 1) (by omega)]; simp) ?_ | refine Run.say (d := 4) rfl (y := .v (.int .i64 (i + 1 : Nat))) (by rw [wrap64_in ((i : Int) + 1) (by omega)]; simp) ?_ | refine OpsB.say (d := 4) rfl (y := .v (.int .i64 (i + 1 : Nat))) (by rw [wrap64_in ((i : Int) + 1) (by omega)]; simp) ?_
    refine Run.keep [0, 2, 3, 4] rfl ?_
    exact ih (i + 1) (by omega) (by omega)
  · have hi2 : i = 64 := by simp at hb; omega
    subst hi2
    repeat (first | apply wa | apply wb | apply wc | apply wd | apply we | apply wf | apply wg | apply wh | apply wi | ((first | refine wl rfl rfl ?_ ?_ | refine wn (wp rfl rfl rfl rfl rfl ?_) rfl ?_ | refine wn (wq agree rfl rfl rfl ?_) rfl ?_ | refine wm rfl rfl rfl ?_ ?_ | refine wo rfl (wp rfl rfl rfl rfl rfl ?_) rfl ?_ | refine wo rfl (wq agree rfl rfl rfl ?_) rfl ?_ | refine wt rfl ?_ ?_ | refine wu rfl ?_ ?_ | refine wv rfl rfl ?_ rfl rfl ?_ | refine xa agree rfl rfl ?_ ?_ | refine xb agree rfl rfl rfl ?_ ?_); try (first | exact trivial | (rw [hgd] <;> rfl) | ((repeat' apply And.intro) <;> first | exact trivial | exact rfl | omega | (simp; done) | (simp; omega)))) | refine wn (wr rfl rfl rfl) rfl ?_ | refine wo rfl (wr rfl rfl rfl) rfl ?_ | refine ws rfl rfl ?_ | refine wj rfl ?_ | refine wk rfl ?_ | refine ww rfl rfl rfl ?_)
    exact wD (Ends.cellE agree rfl rfl (by rw [Bool.and_eq_true]; exact ⟨bo_fits (bitsTo_len _ _) rfl, bo_pl _⟩) rfl)

/-- The number of the first k truths from behind. -/
def accN (l : List Bool) : Nat → Nat
  | 0 => 0
  | k + 1 => 2 * accN l k + (if l.getD (63 - k) false then 1 else 0)
theorem accN_lt (l : List Bool) : ∀ k, accN l k < 2 ^ k
  | 0 => by simp [accN]
  | k + 1 => by
    have := accN_lt l k
    rw [Nat.pow_succ]
    simp only [accN]
    split <;> omega
theorem accN_bit (l : List Bool) : ∀ k, k ≤ 64 → ∀ j, j < k → (accN l k).testBit j = l.getD (64 - k + j) false
  | 0, _, _, h => absurd h (by omega)
  | k + 1, hk, 0, _ => by
    simp only [accN]
    rw [Nat.testBit_zero, show 64 - (k + 1) + 0 = 63 - k by omega]
    cases l.getD (63 - k) false <;> simp <;> omega
  | k + 1, hk, j + 1, hj => by
    have ih := accN_bit l k (by omega) j (by omega)
    simp only [accN]
    rw [Nat.testBit_succ]
    have : (2 * accN l k + (if l.getD (63 - k) false then 1 else 0)) / 2 = accN l k := by split <;> omega
    rw [this, ih]
    congr 1
    omega
def sumL (l : List Bool) : Nat := accN l 64
theorem sumL_lt (l : List Bool) : sumL l < M64 := accN_lt l 64
theorem sumL_bit (l : List Bool) {j : Nat} (hj : j < 64) : (sumL l).testBit j = l.getD j false := by
  have := accN_bit l 64 (Nat.le_refl _) j hj
  simpa [sumL] using this

theorem c_rSum (l : List Bool) (hl : l.length = 64) : DFun Tryd.prog 59 [bo l] (S (sumL l)) := by
  refine DFun.ofRun agree mixed Tryd.func59 rfl rfl ?_
  repeat (first | apply wa | apply wb | apply wc | apply wd | apply we | apply wf | apply wg | apply wh | apply wi | ((first | refine wl rfl rfl ?_ ?_ | refine wn (wp rfl rfl rfl rfl rfl ?_) rfl ?_ | refine wn (wq agree rfl rfl rfl ?_) rfl ?_ | refine wm rfl rfl rfl ?_ ?_ | refine wo rfl (wp rfl rfl rfl rfl rfl ?_) rfl ?_ | refine wo rfl (wq agree rfl rfl rfl ?_) rfl ?_ | refine wt rfl ?_ ?_ | refine wu rfl ?_ ?_ | refine wv rfl rfl ?_ rfl rfl ?_ | refine xa agree rfl rfl ?_ ?_ | refine xb agree rfl rfl rfl ?_ ?_); try (first | exact trivial | (rw [hgd] <;> rfl) | ((repeat' apply And.intro) <;> first | exact trivial | exact rfl | omega | (simp; done) | (simp; omega)))) | refine wn (wr rfl rfl rfl) rfl ?_ | refine wo rfl (wr rfl rfl rfl) rfl ?_ | refine ws rfl rfl ?_ | refine wj rfl ?_ | refine wk rfl ?_ | refine ww rfl rfl rfl ?_)
  · exact bo_pl l
  repeat (first | apply wa | apply wb | apply wc | apply wd | apply we | apply wf | apply wg | apply wh | apply wi | ((first | refine wl rfl rfl ?_ ?_ | refine wn (wp rfl rfl rfl rfl rfl ?_) rfl ?_ | refine wn (wq agree rfl rfl rfl ?_) rfl ?_ | refine wm rfl rfl rfl ?_ ?_ | refine wo rfl (wp rfl rfl rfl rfl rfl ?_) rfl ?_ | refine wo rfl (wq agree rfl rfl rfl ?_) rfl ?_ | refine wt rfl ?_ ?_ | refine wu rfl ?_ ?_ | refine wv rfl rfl ?_ rfl rfl ?_ | refine xa agree rfl rfl ?_ ?_ | refine xb agree rfl rfl rfl ?_ ?_); try (first | exact trivial | (rw [hgd] <;> rfl) | ((repeat' apply And.intro) <;> first | exact trivial | exact rfl | omega | (simp; done) | (simp; omega)))) | refine wn (wr rfl rfl rfl) rfl ?_ | refine wo rfl (wr rfl rfl rfl) rfl ?_ | refine ws rfl rfl ?_ | refine wj rfl ?_ | refine wk rfl ?_ | refine ww rfl rfl rfl ?_)
  refine Run.keep [1, 3, 4] rfl ?_
  refine Run.at (l' := [(1, .box (bo l)), (3, .d (S (accN l 0))), (4, .d (.v (.int .i64 (63 - (0 : Nat)))))]) rfl ?_
  refine Run.loopL (α := Nat) (fun k => k ≤ 64) (fun k => [(1, .box (bo l)), (3, .d (S (accN l k))), (4, .d (.v (.int .i64 (63 - (k : Nat)))))]) (fun k => 64 - k) 0 (by decide) ?_
  intro k hk ih
  repeat (first | apply wa | apply wb | apply wc | apply wd | apply we | apply wf | apply wg | apply wh | apply wi | ((first | refine wl rfl rfl ?_ ?_ | refine wn (wp rfl rfl rfl rfl rfl ?_) rfl ?_ | refine wn (wq agree rfl rfl rfl ?_) rfl ?_ | refine wm rfl rfl rfl ?_ ?_ | refine wo rfl (wp rfl rfl rfl rfl rfl ?_) rfl ?_ | refine wo rfl (wq agree rfl rfl rfl ?_) rfl ?_ | refine wt rfl ?_ ?_ | refine wu rfl ?_ ?_ | refine wv rfl rfl ?_ rfl rfl ?_ | refine xa agree rfl rfl ?_ ?_ | refine xb agree rfl rfl rfl ?_ ?_); try (first | exact trivial | (rw [hgd] <;> rfl) | ((repeat' apply And.intro) <;> first | exact trivial | exact rfl | omega | (simp; done) | (simp; omega)))) | refine wn (wr rfl rfl rfl) rfl ?_ | refine wo rfl (wr rfl rfl rfl) rfl ?_ | refine ws rfl rfl ?_ | refine wj rfl ?_ | refine wk rfl ?_ | refine ww rfl rfl rfl ?_)
  refine Run.condB rfl rfl (fun hb => ?_) (fun hb => ?_)
  · have hk2 : k < 64 := by simp at hb; omega
    have ha : accN l k < 2 ^ 63 := Nat.lt_of_lt_of_le (accN_lt l k) (Nat.pow_le_pow_right (by decide) (by omega))
    have hx : (63 : Int) - (k : Nat) = ((63 - k : Nat) : Int) := by omega
    have gx : (bo l).get ([] ++ [((63 : Int) - (k : Nat)).toNat]) = .v (.bool (l.getD (63 - k) false)) := by
      rw [hx, Int.toNat_natCast]
      exact bo_at (by omega)
    repeat (first | apply wa | apply wb | apply wc | apply wd | apply we | apply wf | apply wg | apply wh | apply wi | ((first | refine wl rfl rfl ?_ ?_ | refine wn (wp rfl rfl rfl rfl rfl ?_) rfl ?_ | refine wn (wq agree rfl rfl rfl ?_) rfl ?_ | refine wm rfl rfl rfl ?_ ?_ | refine wo rfl (wp rfl rfl rfl rfl rfl ?_) rfl ?_ | refine wo rfl (wq agree rfl rfl rfl ?_) rfl ?_ | refine wt rfl ?_ ?_ | refine wu rfl ?_ ?_ | refine wv rfl rfl ?_ rfl rfl ?_ | refine xa agree rfl rfl ?_ ?_ | refine xb agree rfl rfl rfl ?_ ?_); try (first | exact trivial | (rw [hgd] <;> rfl) | ((repeat' apply And.intro) <;> first | exact trivial | exact rfl | omega | (simp; done) | (simp; omega)))) | refine wn (wr rfl rfl rfl) rfl ?_ | refine wo rfl (wr rfl rfl rfl) rfl ?_ | refine ws rfl rfl ?_ | refine wj rfl ?_ | refine wk rfl ?_ | refine ww rfl rfl rfl ?_)
    · exact ⟨rfl, rfl, by rw [bools_len, hl], by omega, by omega⟩
    first | refine OpsAt.say (d := 3) rfl (y := S (2 * accN l k)) (by rw [show ((accN l k : Nat) : Int) * 2 = ((2 * accN l k : Nat) : Int) by omega]; exact congrArg (fun z => D.v (.int .u64 z)) (u64_in (by show 2 * accN l k < 18446744073709551616; omega))) ?_ | refine Run.say (d := 3) rfl (y := S (2 * accN l k)) (by rw [show ((accN l k : Nat) : Int) * 2 = ((2 * accN l k : Nat) : Int) by omega]; exact congrArg (fun z => D.v (.int .u64 z)) (u64_in (by show 2 * accN l k < 18446744073709551616; omega))) ?_ | refine OpsB.say (d := 3) rfl (y := S (2 * accN l k)) (by rw [show ((accN l k : Nat) : Int) * 2 = ((2 * accN l k : Nat) : Int) by omega]; exact congrArg (fun z => D.v (.int .u64 z)) (u64_in (by show 2 * accN l k < 18446744073709551616; omega))) ?_
    refine wn (Ev.ldBox rfl (adrOf_sound rfl) (ld_ok (T := 4) gx rfl).1 (ld_ok (T := 4) gx rfl).2) rfl ?_
    first | refine OpsAt.say (d := 13) rfl (y := .v (.bool (l.getD (63 - k) false))) (gx) ?_ | refine Run.say (d := 13) rfl (y := .v (.bool (l.getD (63 - k) false))) (gx) ?_ | refine OpsB.say (d := 13) rfl (y := .v (.bool (l.getD (63 - k) false))) (gx) ?_
    repeat (first | apply wa | apply wb | apply wc | apply wd | apply we | apply wf | apply wg | apply wh | apply wi | ((first | refine wl rfl rfl ?_ ?_ | refine wn (wp rfl rfl rfl rfl rfl ?_) rfl ?_ | refine wn (wq agree rfl rfl rfl ?_) rfl ?_ | refine wm rfl rfl rfl ?_ ?_ | refine wo rfl (wp rfl rfl rfl rfl rfl ?_) rfl ?_ | refine wo rfl (wq agree rfl rfl rfl ?_) rfl ?_ | refine wt rfl ?_ ?_ | refine wu rfl ?_ ?_ | refine wv rfl rfl ?_ rfl rfl ?_ | refine xa agree rfl rfl ?_ ?_ | refine xb agree rfl rfl rfl ?_ ?_); try (first | exact trivial | (rw [hgd] <;> rfl) | ((repeat' apply And.intro) <;> first | exact trivial | exact rfl | omega | (simp; done) | (simp; omega)))) | refine wn (wr rfl rfl rfl) rfl ?_ | refine wo rfl (wr rfl rfl rfl) rfl ?_ | refine ws rfl rfl ?_ | refine wj rfl ?_ | refine wk rfl ?_ | refine ww rfl rfl rfl ?_)
    refine Run.condB rfl rfl (fun h1 => ?_) (fun h1 => ?_)
    · have hacc : accN l (k + 1) = 2 * accN l k + 1 := by simp only [accN]; rw [h1]; rfl
      have hlt : accN l (k + 1) < M64 := Nat.lt_of_lt_of_le (accN_lt l (k + 1)) (Nat.pow_le_pow_right (n := 2) (j := 64) (by decide) (by omega))
      repeat (first | apply wa | apply wb | apply wc | apply wd | apply we | apply wf | apply wg | apply wh | apply wi | ((first | refine wl rfl rfl ?_ ?_ | refine wn (wp rfl rfl rfl rfl rfl ?_) rfl ?_ | refine wn (wq agree rfl rfl rfl ?_) rfl ?_ | refine wm rfl rfl rfl ?_ ?_ | refine wo rfl (wp rfl rfl rfl rfl rfl ?_) rfl ?_ | refine wo rfl (wq agree rfl rfl rfl ?_) rfl ?_ | refine wt rfl ?_ ?_ | refine wu rfl ?_ ?_ | refine wv rfl rfl ?_ rfl rfl ?_ | refine xa agree rfl rfl ?_ ?_ | refine xb agree rfl rfl rfl ?_ ?_); try (first | exact trivial | (rw [hgd] <;> rfl) | ((repeat' apply And.intro) <;> first | exact trivial | exact rfl | omega | (simp; done) | (simp; omega)))) | refine wn (wr rfl rfl rfl) rfl ?_ | refine wo rfl (wr rfl rfl rfl) rfl ?_ | refine ws rfl rfl ?_ | refine wj rfl ?_ | refine wk rfl ?_ | refine ww rfl rfl rfl ?_)
      first | refine OpsAt.say (d := 3) rfl (y := S (accN l (k + 1))) (by rw [show ((2 * accN l k : Nat) : Int) + 1 = ((accN l (k + 1) : Nat) : Int) by omega]; exact congrArg (fun z => D.v (.int .u64 z)) (u64_in hlt)) ?_ | refine Run.say (d := 3) rfl (y := S (accN l (k + 1))) (by rw [show ((2 * accN l k : Nat) : Int) + 1 = ((accN l (k + 1) : Nat) : Int) by omega]; exact congrArg (fun z => D.v (.int .u64 z)) (u64_in hlt)) ?_ | refine OpsB.say (d := 3) rfl (y := S (accN l (k + 1))) (by rw [show ((2 * accN l k : Nat) : Int) + 1 = ((accN l (k + 1) : Nat) : Int) by omega]; exact congrArg (fun z => D.v (.int .u64 z)) (u64_in hlt)) ?_
      first | refine OpsAt.say (d := 4) rfl (y := .v (.int .i64 (63 - (k + 1 : Nat)))) (by rw [wrap64_in ((63 : Int) - (k : Nat) - 1) (by omega)]; congr 2; omega) ?_ | refine Run.say (d := 4) rfl (y := .v (.int .i64 (63 - (k + 1 : Nat)))) (by rw [wrap64_in ((63 : Int) - (k : Nat) - 1) (by omega)]; congr 2; omega) ?_ | refine OpsB.say (d := 4) rfl (y := .v (.int .i64 (63 - (k + 1 : Nat)))) (by rw [wrap64_in ((63 : Int) - (k : Nat) - 1) (by omega)]; congr 2; omega) ?_
      refine Run.keep [1, 3, 4] rfl ?_
      exact ih (k + 1) (by omega) (by omega)
    · have hacc : accN l (k + 1) = 2 * accN l k := by simp only [accN]; rw [h1]; rfl
      repeat (first | apply wa | apply wb | apply wc | apply wd | apply we | apply wf | apply wg | apply wh | apply wi | ((first | refine wl rfl rfl ?_ ?_ | refine wn (wp rfl rfl rfl rfl rfl ?_) rfl ?_ | refine wn (wq agree rfl rfl rfl ?_) rfl ?_ | refine wm rfl rfl rfl ?_ ?_ | refine wo rfl (wp rfl rfl rfl rfl rfl ?_) rfl ?_ | refine wo rfl (wq agree rfl rfl rfl ?_) rfl ?_ | refine wt rfl ?_ ?_ | refine wu rfl ?_ ?_ | refine wv rfl rfl ?_ rfl rfl ?_ | refine xa agree rfl rfl ?_ ?_ | refine xb agree rfl rfl rfl ?_ ?_); try (first | exact trivial | (rw [hgd] <;> rfl) | ((repeat' apply And.intro) <;> first | exact trivial | exact rfl | omega | (simp; done) | (simp; omega)))) | refine wn (wr rfl rfl rfl) rfl ?_ | refine wo rfl (wr rfl rfl rfl) rfl ?_ | refine ws rfl rfl ?_ | refine wj rfl ?_ | refine wk rfl ?_ | refine ww rfl rfl rfl ?_)
      first | refine OpsAt.say (d := 3) rfl (y := S (accN l (k + 1))) (by rw [hacc]) ?_ | refine Run.say (d := 3) rfl (y := S (accN l (k + 1))) (by rw [hacc]) ?_ | refine OpsB.say (d := 3) rfl (y := S (accN l (k + 1))) (by rw [hacc]) ?_
      first | refine OpsAt.say (d := 4) rfl (y := .v (.int .i64 (63 - (k + 1 : Nat)))) (by rw [wrap64_in ((63 : Int) - (k : Nat) - 1) (by omega)]; congr 2; omega) ?_ | refine Run.say (d := 4) rfl (y := .v (.int .i64 (63 - (k + 1 : Nat)))) (by rw [wrap64_in ((63 : Int) - (k : Nat) - 1) (by omega)]; congr 2; omega) ?_ | refine OpsB.say (d := 4) rfl (y := .v (.int .i64 (63 - (k + 1 : Nat)))) (by rw [wrap64_in ((63 : Int) - (k : Nat) - 1) (by omega)]; congr 2; omega) ?_
      refine Run.keep [1, 3, 4] rfl ?_
      exact ih (k + 1) (by omega) (by omega)
  · have hk2 : k = 64 := by simp at hb; omega
    subst hk2
    repeat (first | apply wa | apply wb | apply wc | apply wd | apply we | apply wf | apply wg | apply wh | apply wi | ((first | refine wl rfl rfl ?_ ?_ | refine wn (wp rfl rfl rfl rfl rfl ?_) rfl ?_ | refine wn (wq agree rfl rfl rfl ?_) rfl ?_ | refine wm rfl rfl rfl ?_ ?_ | refine wo rfl (wp rfl rfl rfl rfl rfl ?_) rfl ?_ | refine wo rfl (wq agree rfl rfl rfl ?_) rfl ?_ | refine wt rfl ?_ ?_ | refine wu rfl ?_ ?_ | refine wv rfl rfl ?_ rfl rfl ?_ | refine xa agree rfl rfl ?_ ?_ | refine xb agree rfl rfl rfl ?_ ?_); try (first | exact trivial | (rw [hgd] <;> rfl) | ((repeat' apply And.intro) <;> first | exact trivial | exact rfl | omega | (simp; done) | (simp; omega)))) | refine wn (wr rfl rfl rfl) rfl ?_ | refine wo rfl (wr rfl rfl rfl) rfl ?_ | refine ws rfl rfl ?_ | refine wj rfl ?_ | refine wk rfl ?_ | refine ww rfl rfl rfl ?_)
    exact wD (wE rfl rfl rfl)
end Go.Proofs.YthiicbpoahilcaaDoor

namespace Go.Proofs.YthiicbpoahilcaaDoor
open Go Go.Dat

theorem full_mod (s : Nat) : s &&& full32 = s % 4294967296 := by
  have := Nat.and_two_pow_sub_one_eq_mod s 32
  simpa [full32] using this

theorem c_rOuts (g : List Nat) (i : Int) (hg : gok g) : DFun Tryd.prog 47 [gr g, .v (.int .i64 i)] (S (outsN g i)) := by
  refine DFun.ofRun agree mixed Tryd.func47 rfl rfl ?_
  repeat (first | apply wa | apply wb | apply wc | apply wd | apply we | apply wf | apply wg | apply wh | apply wi | ((first | refine wl rfl rfl ?_ ?_ | refine wn (wp rfl rfl rfl rfl rfl ?_) rfl ?_ | refine wn (wq agree rfl rfl rfl ?_) rfl ?_ | refine wm rfl rfl rfl ?_ ?_ | refine wo rfl (wp rfl rfl rfl rfl rfl ?_) rfl ?_ | refine wo rfl (wq agree rfl rfl rfl ?_) rfl ?_ | refine wt rfl ?_ ?_ | refine wu rfl ?_ ?_ | refine wv rfl rfl ?_ rfl rfl ?_ | refine xa agree rfl rfl ?_ ?_ | refine xb agree rfl rfl rfl ?_ ?_); try (first | exact trivial | (rw [hgd] <;> rfl) | ((repeat' apply And.intro) <;> first | exact trivial | exact rfl | omega | (simp; done) | (simp; omega)))) | refine wn (wr rfl rfl rfl) rfl ?_ | refine wo rfl (wr rfl rfl rfl) rfl ?_ | refine ws rfl rfl ?_ | refine wj rfl ?_ | refine wk rfl ?_ | refine ww rfl rfl rfl ?_)
  · exact gr_pl g
  repeat (first | apply wa | apply wb | apply wc | apply wd | apply we | apply wf | apply wg | apply wh | apply wi | ((first | refine wl rfl rfl ?_ ?_ | refine wn (wp rfl rfl rfl rfl rfl ?_) rfl ?_ | refine wn (wq agree rfl rfl rfl ?_) rfl ?_ | refine wm rfl rfl rfl ?_ ?_ | refine wo rfl (wp rfl rfl rfl rfl rfl ?_) rfl ?_ | refine wo rfl (wq agree rfl rfl rfl ?_) rfl ?_ | refine wt rfl ?_ ?_ | refine wu rfl ?_ ?_ | refine wv rfl rfl ?_ rfl rfl ?_ | refine xa agree rfl rfl ?_ ?_ | refine xb agree rfl rfl rfl ?_ ?_); try (first | exact trivial | (rw [hgd] <;> rfl) | ((repeat' apply And.intro) <;> first | exact trivial | exact rfl | omega | (simp; done) | (simp; omega)))) | refine wn (wr rfl rfl rfl) rfl ?_ | refine wo rfl (wr rfl rfl rfl) rfl ?_ | refine ws rfl rfl ?_ | refine wj rfl ?_ | refine wk rfl ?_ | refine ww rfl rfl rfl ?_)
  refine wn (wA rfl rfl rfl (by repeat' (first | exact trivial | exact rfl | assumption | apply And.intro)) (callable (by decide)) (c_refNode i)) rfl ?_
  repeat (first | apply wa | apply wb | apply wc | apply wd | apply we | apply wf | apply wg | apply wh | apply wi | ((first | refine wl rfl rfl ?_ ?_ | refine wn (wp rfl rfl rfl rfl rfl ?_) rfl ?_ | refine wn (wq agree rfl rfl rfl ?_) rfl ?_ | refine wm rfl rfl rfl ?_ ?_ | refine wo rfl (wp rfl rfl rfl rfl rfl ?_) rfl ?_ | refine wo rfl (wq agree rfl rfl rfl ?_) rfl ?_ | refine wt rfl ?_ ?_ | refine wu rfl ?_ ?_ | refine wv rfl rfl ?_ rfl rfl ?_ | refine xa agree rfl rfl ?_ ?_ | refine xb agree rfl rfl rfl ?_ ?_); try (first | exact trivial | (rw [hgd] <;> rfl) | ((repeat' apply And.intro) <;> first | exact trivial | exact rfl | omega | (simp; done) | (simp; omega)))) | refine wn (wr rfl rfl rfl) rfl ?_ | refine wo rfl (wr rfl rfl rfl) rfl ?_ | refine ws rfl rfl ?_ | refine wj rfl ?_ | refine wk rfl ?_ | refine ww rfl rfl rfl ?_)
  refine Run.condB rfl rfl (fun h0 => ?_) (fun h0 => ?_)
  · have : nodeN i = false := by simpa using h0
    repeat (first | apply wa | apply wb | apply wc | apply wd | apply we | apply wf | apply wg | apply wh | apply wi | ((first | refine wl rfl rfl ?_ ?_ | refine wn (wp rfl rfl rfl rfl rfl ?_) rfl ?_ | refine wn (wq agree rfl rfl rfl ?_) rfl ?_ | refine wm rfl rfl rfl ?_ ?_ | refine wo rfl (wp rfl rfl rfl rfl rfl ?_) rfl ?_ | refine wo rfl (wq agree rfl rfl rfl ?_) rfl ?_ | refine wt rfl ?_ ?_ | refine wu rfl ?_ ?_ | refine wv rfl rfl ?_ rfl rfl ?_ | refine xa agree rfl rfl ?_ ?_ | refine xb agree rfl rfl rfl ?_ ?_); try (first | exact trivial | (rw [hgd] <;> rfl) | ((repeat' apply And.intro) <;> first | exact trivial | exact rfl | omega | (simp; done) | (simp; omega)))) | refine wn (wr rfl rfl rfl) rfl ?_ | refine wo rfl (wr rfl rfl rfl) rfl ?_ | refine ws rfl rfl ?_ | refine wj rfl ?_ | refine wk rfl ?_ | refine ww rfl rfl rfl ?_)
    refine wD (wE rfl rfl ?_)
    simp [outsN, this, S]
  have hn : nodeN i = true := by simpa using h0
  obtain ⟨n, rfl, hlt⟩ := node_nat hn
  have hgd : (gr g).get ([] ++ [((n : Int)).toNat]) = S (g.getD n 0) := gr_at (by rw [hg.1]; exact hlt)
  repeat (first | apply wa | apply wb | apply wc | apply wd | apply we | apply wf | apply wg | apply wh | apply wi | ((first | refine wl rfl rfl ?_ ?_ | refine wn (wp rfl rfl rfl rfl rfl ?_) rfl ?_ | refine wn (wq agree rfl rfl rfl ?_) rfl ?_ | refine wm rfl rfl rfl ?_ ?_ | refine wo rfl (wp rfl rfl rfl rfl rfl ?_) rfl ?_ | refine wo rfl (wq agree rfl rfl rfl ?_) rfl ?_ | refine wt rfl ?_ ?_ | refine wu rfl ?_ ?_ | refine wv rfl rfl ?_ rfl rfl ?_ | refine xa agree rfl rfl ?_ ?_ | refine xb agree rfl rfl rfl ?_ ?_); try (first | exact trivial | (rw [hgd] <;> rfl) | ((repeat' apply And.intro) <;> first | exact trivial | exact rfl | omega | (simp; done) | (simp; omega)))) | refine wn (wr rfl rfl rfl) rfl ?_ | refine wo rfl (wr rfl rfl rfl) rfl ?_ | refine ws rfl rfl ?_ | refine wj rfl ?_ | refine wk rfl ?_ | refine ww rfl rfl rfl ?_)
  · exact ⟨rfl, rfl, by rw [sets_len, hg.1], by omega, by omega⟩
  refine wn (Ev.ldBox rfl (adrOf_sound rfl) (ld_ok (T := 22) hgd rfl).1 (ld_ok (T := 22) hgd rfl).2) rfl ?_
  first | refine OpsAt.say (d := 10) rfl (y := S (g.getD n 0)) (hgd) ?_ | refine Run.say (d := 10) rfl (y := S (g.getD n 0)) (hgd) ?_ | refine OpsB.say (d := 10) rfl (y := S (g.getD n 0)) (hgd) ?_
  repeat (first | apply wa | apply wb | apply wc | apply wd | apply we | apply wf | apply wg | apply wh | apply wi | ((first | refine wl rfl rfl ?_ ?_ | refine wn (wp rfl rfl rfl rfl rfl ?_) rfl ?_ | refine wn (wq agree rfl rfl rfl ?_) rfl ?_ | refine wm rfl rfl rfl ?_ ?_ | refine wo rfl (wp rfl rfl rfl rfl rfl ?_) rfl ?_ | refine wo rfl (wq agree rfl rfl rfl ?_) rfl ?_ | refine wt rfl ?_ ?_ | refine wu rfl ?_ ?_ | refine wv rfl rfl ?_ rfl rfl ?_ | refine xa agree rfl rfl ?_ ?_ | refine xb agree rfl rfl rfl ?_ ?_); try (first | exact trivial | (rw [hgd] <;> rfl) | ((repeat' apply And.intro) <;> first | exact trivial | exact rfl | omega | (simp; done) | (simp; omega)))) | refine wn (wr rfl rfl rfl) rfl ?_ | refine wo rfl (wr rfl rfl rfl) rfl ?_ | refine ws rfl rfl ?_ | refine wj rfl ?_ | refine wk rfl ?_ | refine ww rfl rfl rfl ?_)
  refine wD (wE rfl rfl ?_)
  have hm : ((g.getD n 0 : Nat) : Int).tmod 4294967296 = ((g.getD n 0 % 4294967296 : Nat) : Int) := (Int.ofNat_tmod _ _).symm
  have : outsN g (n : Int) = g.getD n 0 % 4294967296 := by rw [outsN, hn, if_pos rfl, Int.toNat_natCast, full_mod]
  rw [this]
  exact congrArg (fun z => D.v (.int .u64 z)) hm

theorem c_rPut (g : List Nat) (i j : Int) (hg : gok g) : DFun Tryd.prog 38 [gr g, .v (.int .i64 i), .v (.int .i64 j)] (.tup [gr (putG g i j).1, .v (.bool (putG g i j).2)]) := by
  refine DFun.ofRun agree mixed Tryd.func38 rfl rfl ?_
  repeat (first | apply wa | apply wb | apply wc | apply wd | apply we | apply wf | apply wg | apply wh | apply wi | ((first | refine wl rfl rfl ?_ ?_ | refine wn (wp rfl rfl rfl rfl rfl ?_) rfl ?_ | refine wn (wq agree rfl rfl rfl ?_) rfl ?_ | refine wm rfl rfl rfl ?_ ?_ | refine wo rfl (wp rfl rfl rfl rfl rfl ?_) rfl ?_ | refine wo rfl (wq agree rfl rfl rfl ?_) rfl ?_ | refine wt rfl ?_ ?_ | refine wu rfl ?_ ?_ | refine wv rfl rfl ?_ rfl rfl ?_ | refine xa agree rfl rfl ?_ ?_ | refine xb agree rfl rfl rfl ?_ ?_); try (first | exact trivial | (rw [hgd] <;> rfl) | ((repeat' apply And.intro) <;> first | exact trivial | exact rfl | omega | (simp; done) | (simp; omega)))) | refine wn (wr rfl rfl rfl) rfl ?_ | refine wo rfl (wr rfl rfl rfl) rfl ?_ | refine ws rfl rfl ?_ | refine wj rfl ?_ | refine wk rfl ?_ | refine ww rfl rfl rfl ?_)
  · exact gr_pl g
  repeat (first | apply wa | apply wb | apply wc | apply wd | apply we | apply wf | apply wg | apply wh | apply wi | ((first | refine wl rfl rfl ?_ ?_ | refine wn (wp rfl rfl rfl rfl rfl ?_) rfl ?_ | refine wn (wq agree rfl rfl rfl ?_) rfl ?_ | refine wm rfl rfl rfl ?_ ?_ | refine wo rfl (wp rfl rfl rfl rfl rfl ?_) rfl ?_ | refine wo rfl (wq agree rfl rfl rfl ?_) rfl ?_ | refine wt rfl ?_ ?_ | refine wu rfl ?_ ?_ | refine wv rfl rfl ?_ rfl rfl ?_ | refine xa agree rfl rfl ?_ ?_ | refine xb agree rfl rfl rfl ?_ ?_); try (first | exact trivial | (rw [hgd] <;> rfl) | ((repeat' apply And.intro) <;> first | exact trivial | exact rfl | omega | (simp; done) | (simp; omega)))) | refine wn (wr rfl rfl rfl) rfl ?_ | refine wo rfl (wr rfl rfl rfl) rfl ?_ | refine ws rfl rfl ?_ | refine wj rfl ?_ | refine wk rfl ?_ | refine ww rfl rfl rfl ?_)
  refine wn (wA rfl rfl rfl (by repeat' (first | exact trivial | exact rfl | assumption | apply And.intro)) (callable (by decide)) (c_refNode i)) rfl ?_
  repeat (first | apply wa | apply wb | apply wc | apply wd | apply we | apply wf | apply wg | apply wh | apply wi | ((first | refine wl rfl rfl ?_ ?_ | refine wn (wp rfl rfl rfl rfl rfl ?_) rfl ?_ | refine wn (wq agree rfl rfl rfl ?_) rfl ?_ | refine wm rfl rfl rfl ?_ ?_ | refine wo rfl (wp rfl rfl rfl rfl rfl ?_) rfl ?_ | refine wo rfl (wq agree rfl rfl rfl ?_) rfl ?_ | refine wt rfl ?_ ?_ | refine wu rfl ?_ ?_ | refine wv rfl rfl ?_ rfl rfl ?_ | refine xa agree rfl rfl ?_ ?_ | refine xb agree rfl rfl rfl ?_ ?_); try (first | exact trivial | (rw [hgd] <;> rfl) | ((repeat' apply And.intro) <;> first | exact trivial | exact rfl | omega | (simp; done) | (simp; omega)))) | refine wn (wr rfl rfl rfl) rfl ?_ | refine wo rfl (wr rfl rfl rfl) rfl ?_ | refine ws rfl rfl ?_ | refine wj rfl ?_ | refine wk rfl ?_ | refine ww rfl rfl rfl ?_)
  first | refine OpsAt.say (d := 11) rfl (y := .v (.bool (!nodeN i))) (rfl) ?_ | refine Run.say (d := 11) rfl (y := .v (.bool (!nodeN i))) (rfl) ?_ | refine OpsB.say (d := 11) rfl (y := .v (.bool (!nodeN i))) (rfl) ?_
  refine OpsAt.br rfl rfl rfl (fun hi => ?_) (fun hi => ?_)
  · have h0 : nodeN i = false := by simpa using hi
    have hp : putG g i j = (g, false) := by simp [putG, h0]
    repeat (first | apply wa | apply wb | apply wc | apply wd | apply we | apply wf | apply wg | apply wh | apply wi | ((first | refine wl rfl rfl ?_ ?_ | refine wn (wp rfl rfl rfl rfl rfl ?_) rfl ?_ | refine wn (wq agree rfl rfl rfl ?_) rfl ?_ | refine wm rfl rfl rfl ?_ ?_ | refine wo rfl (wp rfl rfl rfl rfl rfl ?_) rfl ?_ | refine wo rfl (wq agree rfl rfl rfl ?_) rfl ?_ | refine wt rfl ?_ ?_ | refine wu rfl ?_ ?_ | refine wv rfl rfl ?_ rfl rfl ?_ | refine xa agree rfl rfl ?_ ?_ | refine xb agree rfl rfl rfl ?_ ?_); try (first | exact trivial | (rw [hgd] <;> rfl) | ((repeat' apply And.intro) <;> first | exact trivial | exact rfl | omega | (simp; done) | (simp; omega)))) | refine wn (wr rfl rfl rfl) rfl ?_ | refine wo rfl (wr rfl rfl rfl) rfl ?_ | refine ws rfl rfl ?_ | refine wj rfl ?_ | refine wk rfl ?_ | refine ww rfl rfl rfl ?_)
    · exact ⟨gr_fits hg.1 rfl, gr_pl g⟩
    refine wv rfl rfl (gr_pl g) (gr_stoAll (z := List.replicate 32 0) hg.1 rfl rfl) rfl ?_
    repeat (first | apply wa | apply wb | apply wc | apply wd | apply we | apply wf | apply wg | apply wh | apply wi | ((first | refine wl rfl rfl ?_ ?_ | refine wn (wp rfl rfl rfl rfl rfl ?_) rfl ?_ | refine wn (wq agree rfl rfl rfl ?_) rfl ?_ | refine wm rfl rfl rfl ?_ ?_ | refine wo rfl (wp rfl rfl rfl rfl rfl ?_) rfl ?_ | refine wo rfl (wq agree rfl rfl rfl ?_) rfl ?_ | refine wt rfl ?_ ?_ | refine wu rfl ?_ ?_ | refine wv rfl rfl ?_ rfl rfl ?_ | refine xa agree rfl rfl ?_ ?_ | refine xb agree rfl rfl rfl ?_ ?_); try (first | exact trivial | (rw [hgd] <;> rfl) | ((repeat' apply And.intro) <;> first | exact trivial | exact rfl | omega | (simp; done) | (simp; omega)))) | refine wn (wr rfl rfl rfl) rfl ?_ | refine wo rfl (wr rfl rfl rfl) rfl ?_ | refine ws rfl rfl ?_ | refine wj rfl ?_ | refine wk rfl ?_ | refine ww rfl rfl rfl ?_)
    refine wD (Ends.tupE agree rfl ⟨⟨gr_fits hg.1 rfl, gr_pl g⟩, rfl, trivial⟩ rfl ?_)
    rw [hp]
    rfl
  have hi' : nodeN i = true := by simpa using hi
  repeat (first | apply wa | apply wb | apply wc | apply wd | apply we | apply wf | apply wg | apply wh | apply wi | ((first | refine wl rfl rfl ?_ ?_ | refine wn (wp rfl rfl rfl rfl rfl ?_) rfl ?_ | refine wn (wq agree rfl rfl rfl ?_) rfl ?_ | refine wm rfl rfl rfl ?_ ?_ | refine wo rfl (wp rfl rfl rfl rfl rfl ?_) rfl ?_ | refine wo rfl (wq agree rfl rfl rfl ?_) rfl ?_ | refine wt rfl ?_ ?_ | refine wu rfl ?_ ?_ | refine wv rfl rfl ?_ rfl rfl ?_ | refine xa agree rfl rfl ?_ ?_ | refine xb agree rfl rfl rfl ?_ ?_); try (first | exact trivial | (rw [hgd] <;> rfl) | ((repeat' apply And.intro) <;> first | exact trivial | exact rfl | omega | (simp; done) | (simp; omega)))) | refine wn (wr rfl rfl rfl) rfl ?_ | refine wo rfl (wr rfl rfl rfl) rfl ?_ | refine ws rfl rfl ?_ | refine wj rfl ?_ | refine wk rfl ?_ | refine ww rfl rfl rfl ?_)
  refine wo rfl (wA rfl rfl rfl (by repeat' (first | exact trivial | exact rfl | assumption | apply And.intro)) (callable (by decide)) (c_refNode j)) rfl ?_
  repeat (first | apply wa | apply wb | apply wc | apply wd | apply we | apply wf | apply wg | apply wh | apply wi | ((first | refine wl rfl rfl ?_ ?_ | refine wn (wp rfl rfl rfl rfl rfl ?_) rfl ?_ | refine wn (wq agree rfl rfl rfl ?_) rfl ?_ | refine wm rfl rfl rfl ?_ ?_ | refine wo rfl (wp rfl rfl rfl rfl rfl ?_) rfl ?_ | refine wo rfl (wq agree rfl rfl rfl ?_) rfl ?_ | refine wt rfl ?_ ?_ | refine wu rfl ?_ ?_ | refine wv rfl rfl ?_ rfl rfl ?_ | refine xa agree rfl rfl ?_ ?_ | refine xb agree rfl rfl rfl ?_ ?_); try (first | exact trivial | (rw [hgd] <;> rfl) | ((repeat' apply And.intro) <;> first | exact trivial | exact rfl | omega | (simp; done) | (simp; omega)))) | refine wn (wr rfl rfl rfl) rfl ?_ | refine wo rfl (wr rfl rfl rfl) rfl ?_ | refine ws rfl rfl ?_ | refine wj rfl ?_ | refine wk rfl ?_ | refine ww rfl rfl rfl ?_)
  first | refine OpsAt.say (d := 16) rfl (y := .v (.bool (!nodeN j))) (rfl) ?_ | refine Run.say (d := 16) rfl (y := .v (.bool (!nodeN j))) (rfl) ?_ | refine OpsB.say (d := 16) rfl (y := .v (.bool (!nodeN j))) (rfl) ?_
  refine OpsAt.br rfl rfl rfl (fun hj => ?_) (fun hj => ?_)
  · have h0 : nodeN j = false := by simpa using hj
    have hp : putG g i j = (g, false) := by simp [putG, h0]
    repeat (first | apply wa | apply wb | apply wc | apply wd | apply we | apply wf | apply wg | apply wh | apply wi | ((first | refine wl rfl rfl ?_ ?_ | refine wn (wp rfl rfl rfl rfl rfl ?_) rfl ?_ | refine wn (wq agree rfl rfl rfl ?_) rfl ?_ | refine wm rfl rfl rfl ?_ ?_ | refine wo rfl (wp rfl rfl rfl rfl rfl ?_) rfl ?_ | refine wo rfl (wq agree rfl rfl rfl ?_) rfl ?_ | refine wt rfl ?_ ?_ | refine wu rfl ?_ ?_ | refine wv rfl rfl ?_ rfl rfl ?_ | refine xa agree rfl rfl ?_ ?_ | refine xb agree rfl rfl rfl ?_ ?_); try (first | exact trivial | (rw [hgd] <;> rfl) | ((repeat' apply And.intro) <;> first | exact trivial | exact rfl | omega | (simp; done) | (simp; omega)))) | refine wn (wr rfl rfl rfl) rfl ?_ | refine wo rfl (wr rfl rfl rfl) rfl ?_ | refine ws rfl rfl ?_ | refine wj rfl ?_ | refine wk rfl ?_ | refine ww rfl rfl rfl ?_)
    · exact ⟨gr_fits hg.1 rfl, gr_pl g⟩
    refine wv rfl rfl (gr_pl g) (gr_stoAll (z := List.replicate 32 0) hg.1 rfl rfl) rfl ?_
    repeat (first | apply wa | apply wb | apply wc | apply wd | apply we | apply wf | apply wg | apply wh | apply wi | ((first | refine wl rfl rfl ?_ ?_ | refine wn (wp rfl rfl rfl rfl rfl ?_) rfl ?_ | refine wn (wq agree rfl rfl rfl ?_) rfl ?_ | refine wm rfl rfl rfl ?_ ?_ | refine wo rfl (wp rfl rfl rfl rfl rfl ?_) rfl ?_ | refine wo rfl (wq agree rfl rfl rfl ?_) rfl ?_ | refine wt rfl ?_ ?_ | refine wu rfl ?_ ?_ | refine wv rfl rfl ?_ rfl rfl ?_ | refine xa agree rfl rfl ?_ ?_ | refine xb agree rfl rfl rfl ?_ ?_); try (first | exact trivial | (rw [hgd] <;> rfl) | ((repeat' apply And.intro) <;> first | exact trivial | exact rfl | omega | (simp; done) | (simp; omega)))) | refine wn (wr rfl rfl rfl) rfl ?_ | refine wo rfl (wr rfl rfl rfl) rfl ?_ | refine ws rfl rfl ?_ | refine wj rfl ?_ | refine wk rfl ?_ | refine ww rfl rfl rfl ?_)
    refine wD (Ends.tupE agree rfl ⟨⟨gr_fits hg.1 rfl, gr_pl g⟩, rfl, trivial⟩ rfl ?_)
    rw [hp]
    rfl
  have hj' : nodeN j = true := by simpa using hj
  repeat (first | apply wa | apply wb | apply wc | apply wd | apply we | apply wf | apply wg | apply wh | apply wi | ((first | refine wl rfl rfl ?_ ?_ | refine wn (wp rfl rfl rfl rfl rfl ?_) rfl ?_ | refine wn (wq agree rfl rfl rfl ?_) rfl ?_ | refine wm rfl rfl rfl ?_ ?_ | refine wo rfl (wp rfl rfl rfl rfl rfl ?_) rfl ?_ | refine wo rfl (wq agree rfl rfl rfl ?_) rfl ?_ | refine wt rfl ?_ ?_ | refine wu rfl ?_ ?_ | refine wv rfl rfl ?_ rfl rfl ?_ | refine xa agree rfl rfl ?_ ?_ | refine xb agree rfl rfl rfl ?_ ?_); try (first | exact trivial | (rw [hgd] <;> rfl) | ((repeat' apply And.intro) <;> first | exact trivial | exact rfl | omega | (simp; done) | (simp; omega)))) | refine wn (wr rfl rfl rfl) rfl ?_ | refine wo rfl (wr rfl rfl rfl) rfl ?_ | refine ws rfl rfl ?_ | refine wj rfl ?_ | refine wk rfl ?_ | refine ww rfl rfl rfl ?_)
  refine Run.condB rfl rfl (fun he => ?_) (fun he => ?_)
  · have he' : i = j := by simpa using he
    have hp : putG g i j = (g, false) := by simp [putG, he']
    repeat (first | apply wa | apply wb | apply wc | apply wd | apply we | apply wf | apply wg | apply wh | apply wi | ((first | refine wl rfl rfl ?_ ?_ | refine wn (wp rfl rfl rfl rfl rfl ?_) rfl ?_ | refine wn (wq agree rfl rfl rfl ?_) rfl ?_ | refine wm rfl rfl rfl ?_ ?_ | refine wo rfl (wp rfl rfl rfl rfl rfl ?_) rfl ?_ | refine wo rfl (wq agree rfl rfl rfl ?_) rfl ?_ | refine wt rfl ?_ ?_ | refine wu rfl ?_ ?_ | refine wv rfl rfl ?_ rfl rfl ?_ | refine xa agree rfl rfl ?_ ?_ | refine xb agree rfl rfl rfl ?_ ?_); try (first | exact trivial | (rw [hgd] <;> rfl) | ((repeat' apply And.intro) <;> first | exact trivial | exact rfl | omega | (simp; done) | (simp; omega)))) | refine wn (wr rfl rfl rfl) rfl ?_ | refine wo rfl (wr rfl rfl rfl) rfl ?_ | refine ws rfl rfl ?_ | refine wj rfl ?_ | refine wk rfl ?_ | refine ww rfl rfl rfl ?_)
    · exact ⟨gr_fits hg.1 rfl, gr_pl g⟩
    refine wv rfl rfl (gr_pl g) (gr_stoAll (z := List.replicate 32 0) hg.1 rfl rfl) rfl ?_
    repeat (first | apply wa | apply wb | apply wc | apply wd | apply we | apply wf | apply wg | apply wh | apply wi | ((first | refine wl rfl rfl ?_ ?_ | refine wn (wp rfl rfl rfl rfl rfl ?_) rfl ?_ | refine wn (wq agree rfl rfl rfl ?_) rfl ?_ | refine wm rfl rfl rfl ?_ ?_ | refine wo rfl (wp rfl rfl rfl rfl rfl ?_) rfl ?_ | refine wo rfl (wq agree rfl rfl rfl ?_) rfl ?_ | refine wt rfl ?_ ?_ | refine wu rfl ?_ ?_ | refine wv rfl rfl ?_ rfl rfl ?_ | refine xa agree rfl rfl ?_ ?_ | refine xb agree rfl rfl rfl ?_ ?_); try (first | exact trivial | (rw [hgd] <;> rfl) | ((repeat' apply And.intro) <;> first | exact trivial | exact rfl | omega | (simp; done) | (simp; omega)))) | refine wn (wr rfl rfl rfl) rfl ?_ | refine wo rfl (wr rfl rfl rfl) rfl ?_ | refine ws rfl rfl ?_ | refine wj rfl ?_ | refine wk rfl ?_ | refine ww rfl rfl rfl ?_)
    refine wD (Ends.tupE agree rfl ⟨⟨gr_fits hg.1 rfl, gr_pl g⟩, rfl, trivial⟩ rfl ?_)
    rw [hp]
    rfl
  have he' : i ≠ j := by simpa using he
  have hc : (nodeN i && nodeN j && i != j) = true := by rw [hi', hj']; simpa using he'
  have hp : putG g i j = (g.set i.toNat (withN (g.getD i.toNat 0) j), true) := by unfold putG; rw [if_pos hc]
  obtain ⟨n, rfl, hlt⟩ := node_nat hi'
  rw [Int.toNat_natCast] at hp
  have hgd : (gr g).get ([] ++ [((n : Int)).toNat]) = S (g.getD n 0) := gr_at (by rw [hg.1]; exact hlt)
  repeat (first | apply wa | apply wb | apply wc | apply wd | apply we | apply wf | apply wg | apply wh | apply wi | ((first | refine wl rfl rfl ?_ ?_ | refine wn (wp rfl rfl rfl rfl rfl ?_) rfl ?_ | refine wn (wq agree rfl rfl rfl ?_) rfl ?_ | refine wm rfl rfl rfl ?_ ?_ | refine wo rfl (wp rfl rfl rfl rfl rfl ?_) rfl ?_ | refine wo rfl (wq agree rfl rfl rfl ?_) rfl ?_ | refine wt rfl ?_ ?_ | refine wu rfl ?_ ?_ | refine wv rfl rfl ?_ rfl rfl ?_ | refine xa agree rfl rfl ?_ ?_ | refine xb agree rfl rfl rfl ?_ ?_); try (first | exact trivial | (rw [hgd] <;> rfl) | ((repeat' apply And.intro) <;> first | exact trivial | exact rfl | omega | (simp; done) | (simp; omega)))) | refine wn (wr rfl rfl rfl) rfl ?_ | refine wo rfl (wr rfl rfl rfl) rfl ?_ | refine ws rfl rfl ?_ | refine wj rfl ?_ | refine wk rfl ?_ | refine ww rfl rfl rfl ?_)
  · exact ⟨rfl, rfl, by rw [sets_len, hg.1], by omega, by omega⟩
  refine wn (Ev.ldBox rfl (adrOf_sound rfl) (ld_ok (T := 22) hgd rfl).1 (ld_ok (T := 22) hgd rfl).2) rfl ?_
  first | refine OpsAt.say (d := 25) rfl (y := S (g.getD n 0)) (hgd) ?_ | refine Run.say (d := 25) rfl (y := S (g.getD n 0)) (hgd) ?_ | refine OpsB.say (d := 25) rfl (y := S (g.getD n 0)) (hgd) ?_
  repeat (first | apply wa | apply wb | apply wc | apply wd | apply we | apply wf | apply wg | apply wh | apply wi | ((first | refine wl rfl rfl ?_ ?_ | refine wn (wp rfl rfl rfl rfl rfl ?_) rfl ?_ | refine wn (wq agree rfl rfl rfl ?_) rfl ?_ | refine wm rfl rfl rfl ?_ ?_ | refine wo rfl (wp rfl rfl rfl rfl rfl ?_) rfl ?_ | refine wo rfl (wq agree rfl rfl rfl ?_) rfl ?_ | refine wt rfl ?_ ?_ | refine wu rfl ?_ ?_ | refine wv rfl rfl ?_ rfl rfl ?_ | refine xa agree rfl rfl ?_ ?_ | refine xb agree rfl rfl rfl ?_ ?_); try (first | exact trivial | (rw [hgd] <;> rfl) | ((repeat' apply And.intro) <;> first | exact trivial | exact rfl | omega | (simp; done) | (simp; omega)))) | refine wn (wr rfl rfl rfl) rfl ?_ | refine wo rfl (wr rfl rfl rfl) rfl ?_ | refine ws rfl rfl ?_ | refine wj rfl ?_ | refine wk rfl ?_ | refine ww rfl rfl rfl ?_)
  refine wn (wA rfl rfl rfl (by repeat' (first | exact trivial | exact rfl | assumption | apply And.intro)) (callable (by decide)) (c_rWith (g.getD n 0) j (hg.at n))) rfl ?_
  repeat (first | apply wa | apply wb | apply wc | apply wd | apply we | apply wf | apply wg | apply wh | apply wi | ((first | refine wl rfl rfl ?_ ?_ | refine wn (wp rfl rfl rfl rfl rfl ?_) rfl ?_ | refine wn (wq agree rfl rfl rfl ?_) rfl ?_ | refine wm rfl rfl rfl ?_ ?_ | refine wo rfl (wp rfl rfl rfl rfl rfl ?_) rfl ?_ | refine wo rfl (wq agree rfl rfl rfl ?_) rfl ?_ | refine wt rfl ?_ ?_ | refine wu rfl ?_ ?_ | refine wv rfl rfl ?_ rfl rfl ?_ | refine xa agree rfl rfl ?_ ?_ | refine xb agree rfl rfl rfl ?_ ?_); try (first | exact trivial | (rw [hgd] <;> rfl) | ((repeat' apply And.intro) <;> first | exact trivial | exact rfl | omega | (simp; done) | (simp; omega)))) | refine wn (wr rfl rfl rfl) rfl ?_ | refine wo rfl (wr rfl rfl rfl) rfl ?_ | refine ws rfl rfl ?_ | refine wj rfl ?_ | refine wk rfl ?_ | refine ww rfl rfl rfl ?_)
  · exact ⟨rfl, rfl, by rw [sets_len, hg.1], by omega, by omega⟩
  have hg2 : gok (g.set n (withN (g.getD n 0) j)) := hg.set n (withN_lt j (hg.at n))
  refine wv rfl rfl rfl (gr_sto (by rw [hg.1]; exact hlt) rfl) rfl ?_
  first | refine OpsAt.sayB (d := 3) rfl (y := gr (g.set n (withN (g.getD n 0) j))) (gr_set g n _) ?_ | refine Run.sayB (d := 3) rfl (y := gr (g.set n (withN (g.getD n 0) j))) (gr_set g n _) ?_
  repeat (first | apply wa | apply wb | apply wc | apply wd | apply we | apply wf | apply wg | apply wh | apply wi | ((first | refine wl rfl rfl ?_ ?_ | refine wn (wp rfl rfl rfl rfl rfl ?_) rfl ?_ | refine wn (wq agree rfl rfl rfl ?_) rfl ?_ | refine wm rfl rfl rfl ?_ ?_ | refine wo rfl (wp rfl rfl rfl rfl rfl ?_) rfl ?_ | refine wo rfl (wq agree rfl rfl rfl ?_) rfl ?_ | refine wt rfl ?_ ?_ | refine wu rfl ?_ ?_ | refine wv rfl rfl ?_ rfl rfl ?_ | refine xa agree rfl rfl ?_ ?_ | refine xb agree rfl rfl rfl ?_ ?_); try (first | exact trivial | (rw [hgd] <;> rfl) | ((repeat' apply And.intro) <;> first | exact trivial | exact rfl | omega | (simp; done) | (simp; omega)))) | refine wn (wr rfl rfl rfl) rfl ?_ | refine wo rfl (wr rfl rfl rfl) rfl ?_ | refine ws rfl rfl ?_ | refine wj rfl ?_ | refine wk rfl ?_ | refine ww rfl rfl rfl ?_)
  · exact ⟨gr_fits hg2.1 rfl, gr_pl _⟩
  refine wv rfl rfl (gr_pl _) (gr_stoAll (z := List.replicate 32 0) hg2.1 rfl rfl) rfl ?_
  repeat (first | apply wa | apply wb | apply wc | apply wd | apply we | apply wf | apply wg | apply wh | apply wi | ((first | refine wl rfl rfl ?_ ?_ | refine wn (wp rfl rfl rfl rfl rfl ?_) rfl ?_ | refine wn (wq agree rfl rfl rfl ?_) rfl ?_ | refine wm rfl rfl rfl ?_ ?_ | refine wo rfl (wp rfl rfl rfl rfl rfl ?_) rfl ?_ | refine wo rfl (wq agree rfl rfl rfl ?_) rfl ?_ | refine wt rfl ?_ ?_ | refine wu rfl ?_ ?_ | refine wv rfl rfl ?_ rfl rfl ?_ | refine xa agree rfl rfl ?_ ?_ | refine xb agree rfl rfl rfl ?_ ?_); try (first | exact trivial | (rw [hgd] <;> rfl) | ((repeat' apply And.intro) <;> first | exact trivial | exact rfl | omega | (simp; done) | (simp; omega)))) | refine wn (wr rfl rfl rfl) rfl ?_ | refine wo rfl (wr rfl rfl rfl) rfl ?_ | refine ws rfl rfl ?_ | refine wj rfl ?_ | refine wk rfl ?_ | refine ww rfl rfl rfl ?_)
  refine wD (Ends.tupE agree rfl ⟨⟨gr_fits hg2.1 rfl, gr_pl _⟩, rfl, trivial⟩ rfl ?_)
  rw [hp]
  rfl
end Go.Proofs.YthiicbpoahilcaaDoor

namespace Go.Proofs.YthiicbpoahilcaaDoor
open Go Go.Dat

/-- The first node from i on, of n, whose place is p; -1: there is none. -/
def atFrom (l : List Int) (p : Int) : Nat → Nat → Int
  | 0, _ => -1
  | n + 1, i => if l.getD i 0 = p then (i : Int) else atFrom l p n (i + 1)
def atR (l : List Int) (p : Int) : Int := atFrom l p 32 0
theorem atFrom_spec (l : List Int) (p : Int) : ∀ n i, (∃ k : Nat, i ≤ k ∧ k < i + n ∧ atFrom l p n i = k ∧ l.getD k 0 = p) ∨ (atFrom l p n i = -1 ∧ ∀ k, i ≤ k → k < i + n → l.getD k 0 ≠ p)
  | 0, i => .inr ⟨rfl, fun k h1 h2 => absurd h2 (by omega)⟩
  | n + 1, i => by
    by_cases h : l.getD i 0 = p
    · exact .inl ⟨i, Nat.le_refl _, by omega, by simp only [atFrom, h, if_true], h⟩
    · simp only [atFrom, h, if_false]
      rcases atFrom_spec l p n (i + 1) with ⟨k, h1, h2, h3, h4⟩ | ⟨h1, h2⟩
      · exact .inl ⟨k, by omega, by omega, h3, h4⟩
      · refine .inr ⟨h1, fun k h3 h4 => ?_⟩
        by_cases e : k = i
        · rw [e]; exact h
        · exact h2 k (by omega) (by omega)
theorem atR_perm {l : List Int} (hp : Perm32 l) {p : Nat} (hpp : p < 32) : atR l (p : Int) = (at' l p : Int) := by
  have hat := hp.pl_at hpp
  have hl := (hp.pl_eq hat.2).1
  rw [hat.1] at hl
  rcases atFrom_spec l (p : Int) 32 0 with ⟨k, _, h2, h3, h4⟩ | ⟨_, h2⟩
  · have : k = at' l p := hp.inj (by omega) hat.2 (by unfold pl; rw [h4, hl])
    rw [atR, h3, this]
  · exact absurd hl (h2 _ (by omega) (by omega))
theorem atR_right {l : List Int} (hl : l.length = 32) : rightO l = true ↔ ∀ p : Nat, p < 32 → ¬ atR l (p : Int) < 0 := by
  constructor
  · intro h p hp
    rw [atR_perm (rightO_p hl h) hp]
    omega
  · intro h
    rw [rightO_iff hl]
    refine perm_of_all 32 l (by omega) fun p hp => ?_
    rcases atFrom_spec l (p : Int) 32 0 with ⟨k, _, h2, h3, h4⟩ | ⟨h1, _⟩
    · rw [← h4]; exact getD_mem (by omega)
    · exact absurd (by rw [atR, h1]; decide) (h p hp)

theorem c_rAt (l : List Int) (p : Int) (hl : l.length = 32) : DFun Tryd.prog 44 [ord l, .v (.int .i64 p)] (.v (.int .i64 (atR l p))) := by
  refine DFun.ofRun agree mixed Tryd.func44 rfl rfl ?_
  repeat (first | apply wa | apply wb | apply wc | apply wd | apply we | apply wf | apply wg | apply wh | apply wi | ((first | refine wl rfl rfl ?_ ?_ | refine wn (wp rfl rfl rfl rfl rfl ?_) rfl ?_ | refine wn (wq agree rfl rfl rfl ?_) rfl ?_ | refine wm rfl rfl rfl ?_ ?_ | refine wo rfl (wp rfl rfl rfl rfl rfl ?_) rfl ?_ | refine wo rfl (wq agree rfl rfl rfl ?_) rfl ?_ | refine wt rfl ?_ ?_ | refine wu rfl ?_ ?_ | refine wv rfl rfl ?_ rfl rfl ?_ | refine xa agree rfl rfl ?_ ?_ | refine xb agree rfl rfl rfl ?_ ?_); try (first | exact trivial | (rw [hgd] <;> rfl) | ((repeat' apply And.intro) <;> first | exact trivial | exact rfl | omega | (simp; done) | (simp; omega)))) | refine wn (wr rfl rfl rfl) rfl ?_ | refine wo rfl (wr rfl rfl rfl) rfl ?_ | refine ws rfl rfl ?_ | refine wj rfl ?_ | refine wk rfl ?_ | refine ww rfl rfl rfl ?_)
  · exact ord_pl l
  repeat (first | apply wa | apply wb | apply wc | apply wd | apply we | apply wf | apply wg | apply wh | apply wi | ((first | refine wl rfl rfl ?_ ?_ | refine wn (wp rfl rfl rfl rfl rfl ?_) rfl ?_ | refine wn (wq agree rfl rfl rfl ?_) rfl ?_ | refine wm rfl rfl rfl ?_ ?_ | refine wo rfl (wp rfl rfl rfl rfl rfl ?_) rfl ?_ | refine wo rfl (wq agree rfl rfl rfl ?_) rfl ?_ | refine wt rfl ?_ ?_ | refine wu rfl ?_ ?_ | refine wv rfl rfl ?_ rfl rfl ?_ | refine xa agree rfl rfl ?_ ?_ | refine xb agree rfl rfl rfl ?_ ?_); try (first | exact trivial | (rw [hgd] <;> rfl) | ((repeat' apply And.intro) <;> first | exact trivial | exact rfl | omega | (simp; done) | (simp; omega)))) | refine wn (wr rfl rfl rfl) rfl ?_ | refine wo rfl (wr rfl rfl rfl) rfl ?_ | refine ws rfl rfl ?_ | refine wj rfl ?_ | refine wk rfl ?_ | refine ww rfl rfl rfl ?_)
  refine Run.keep [1, 2, 4, 5] rfl ?_
  refine Run.at (l' := [(1, .d (.v (.int .i64 p))), (2, .box (ord l)), (4, .d (.v (.int .i64 0))), (5, .d (.v (.int .i64 (0 : Nat))))]) rfl ?_
  refine Run.loopL (α := Nat) (fun i => i ≤ 32 ∧ atR l p = atFrom l p (32 - i) i) (fun i => [(1, .d (.v (.int .i64 p))), (2, .box (ord l)), (4, .d (.v (.int .i64 0))), (5, .d (.v (.int .i64 i)))]) (fun i => 32 - i) 0 ⟨by decide, rfl⟩ ?_
  rintro i ⟨hi, hr⟩ ih
  repeat (first | apply wa | apply wb | apply wc | apply wd | apply we | apply wf | apply wg | apply wh | apply wi | ((first | refine wl rfl rfl ?_ ?_ | refine wn (wp rfl rfl rfl rfl rfl ?_) rfl ?_ | refine wn (wq agree rfl rfl rfl ?_) rfl ?_ | refine wm rfl rfl rfl ?_ ?_ | refine wo rfl (wp rfl rfl rfl rfl rfl ?_) rfl ?_ | refine wo rfl (wq agree rfl rfl rfl ?_) rfl ?_ | refine wt rfl ?_ ?_ | refine wu rfl ?_ ?_ | refine wv rfl rfl ?_ rfl rfl ?_ | refine xa agree rfl rfl ?_ ?_ | refine xb agree rfl rfl rfl ?_ ?_); try (first | exact trivial | (rw [hgd] <;> rfl) | ((repeat' apply And.intro) <;> first | exact trivial | exact rfl | omega | (simp; done) | (simp; omega)))) | refine wn (wr rfl rfl rfl) rfl ?_ | refine wo rfl (wr rfl rfl rfl) rfl ?_ | refine ws rfl rfl ?_ | refine wj rfl ?_ | refine wk rfl ?_ | refine ww rfl rfl rfl ?_)
  refine Run.condB rfl rfl (fun hb => ?_) (fun hb => ?_)
  · have hi2 : i < 32 := by simp at hb; omega
    have gi : (ord l).get ([] ++ [((i : Int)).toNat]) = .v (.int .i64 (l.getD i 0)) := ord_at (by omega)
    have hst : atFrom l p (32 - i) i = if l.getD i 0 = p then (i : Int) else atFrom l p (32 - (i + 1)) (i + 1) := by
      rw [show 32 - i = (32 - (i + 1)) + 1 by omega]; rfl
    repeat (first | apply wa | apply wb | apply wc | apply wd | apply we | apply wf | apply wg | apply wh | apply wi | ((first | refine wl rfl rfl ?_ ?_ | refine wn (wp rfl rfl rfl rfl rfl ?_) rfl ?_ | refine wn (wq agree rfl rfl rfl ?_) rfl ?_ | refine wm rfl rfl rfl ?_ ?_ | refine wo rfl (wp rfl rfl rfl rfl rfl ?_) rfl ?_ | refine wo rfl (wq agree rfl rfl rfl ?_) rfl ?_ | refine wt rfl ?_ ?_ | refine wu rfl ?_ ?_ | refine wv rfl rfl ?_ rfl rfl ?_ | refine xa agree rfl rfl ?_ ?_ | refine xb agree rfl rfl rfl ?_ ?_); try (first | exact trivial | (rw [hgd] <;> rfl) | ((repeat' apply And.intro) <;> first | exact trivial | exact rfl | omega | (simp; done) | (simp; omega)))) | refine wn (wr rfl rfl rfl) rfl ?_ | refine wo rfl (wr rfl rfl rfl) rfl ?_ | refine ws rfl rfl ?_ | refine wj rfl ?_ | refine wk rfl ?_ | refine ww rfl rfl rfl ?_)
    · exact ⟨rfl, rfl, by rw [ints_len, hl], by omega, by omega⟩
    refine wn (Ev.ldBox rfl (adrOf_sound rfl) (ld_ok (T := 3) gi rfl).1 (ld_ok (T := 3) gi rfl).2) rfl ?_
    first | refine OpsAt.say (d := 12) rfl (y := .v (.int .i64 (l.getD i 0))) (gi) ?_ | refine Run.say (d := 12) rfl (y := .v (.int .i64 (l.getD i 0))) (gi) ?_ | refine OpsB.say (d := 12) rfl (y := .v (.int .i64 (l.getD i 0))) (gi) ?_
    repeat (first | apply wa | apply wb | apply wc | apply wd | apply we | apply wf | apply wg | apply wh | apply wi | ((first | refine wl rfl rfl ?_ ?_ | refine wn (wp rfl rfl rfl rfl rfl ?_) rfl ?_ | refine wn (wq agree rfl rfl rfl ?_) rfl ?_ | refine wm rfl rfl rfl ?_ ?_ | refine wo rfl (wp rfl rfl rfl rfl rfl ?_) rfl ?_ | refine wo rfl (wq agree rfl rfl rfl ?_) rfl ?_ | refine wt rfl ?_ ?_ | refine wu rfl ?_ ?_ | refine wv rfl rfl ?_ rfl rfl ?_ | refine xa agree rfl rfl ?_ ?_ | refine xb agree rfl rfl rfl ?_ ?_); try (first | exact trivial | (rw [hgd] <;> rfl) | ((repeat' apply And.intro) <;> first | exact trivial | exact rfl | omega | (simp; done) | (simp; omega)))) | refine wn (wr rfl rfl rfl) rfl ?_ | refine wo rfl (wr rfl rfl rfl) rfl ?_ | refine ws rfl rfl ?_ | refine wj rfl ?_ | refine wk rfl ?_ | refine ww rfl rfl rfl ?_)
    refine Run.condB rfl rfl (fun h1 => ?_) (fun h1 => ?_)
    · have h1' : l.getD i 0 = p := by simpa using h1
      repeat (first | apply wa | apply wb | apply wc | apply wd | apply we | apply wf | apply wg | apply wh | apply wi | ((first | refine wl rfl rfl ?_ ?_ | refine wn (wp rfl rfl rfl rfl rfl ?_) rfl ?_ | refine wn (wq agree rfl rfl rfl ?_) rfl ?_ | refine wm rfl rfl rfl ?_ ?_ | refine wo rfl (wp rfl rfl rfl rfl rfl ?_) rfl ?_ | refine wo rfl (wq agree rfl rfl rfl ?_) rfl ?_ | refine wt rfl ?_ ?_ | refine wu rfl ?_ ?_ | refine wv rfl rfl ?_ rfl rfl ?_ | refine xa agree rfl rfl ?_ ?_ | refine xb agree rfl rfl rfl ?_ ?_); try (first | exact trivial | (rw [hgd] <;> rfl) | ((repeat' apply And.intro) <;> first | exact trivial | exact rfl | omega | (simp; done) | (simp; omega)))) | refine wn (wr rfl rfl rfl) rfl ?_ | refine wo rfl (wr rfl rfl rfl) rfl ?_ | refine ws rfl rfl ?_ | refine wj rfl ?_ | refine wk rfl ?_ | refine ww rfl rfl rfl ?_)
      refine wD (wE rfl rfl ?_)
      rw [hr, hst, if_pos h1']
    · have h1' : ¬ l.getD i 0 = p := by simpa using h1
      repeat (first | apply wa | apply wb | apply wc | apply wd | apply we | apply wf | apply wg | apply wh | apply wi | ((first | refine wl rfl rfl ?_ ?_ | refine wn (wp rfl rfl rfl rfl rfl ?_) rfl ?_ | refine wn (wq agree rfl rfl rfl ?_) rfl ?_ | refine wm rfl rfl rfl ?_ ?_ | refine wo rfl (wp rfl rfl rfl rfl rfl ?_) rfl ?_ | refine wo rfl (wq agree rfl rfl rfl ?_) rfl ?_ | refine wt rfl ?_ ?_ | refine wu rfl ?_ ?_ | refine wv rfl rfl ?_ rfl rfl ?_ | refine xa agree rfl rfl ?_ ?_ | refine xb agree rfl rfl rfl ?_ ?_); try (first | exact trivial | (rw [hgd] <;> rfl) | ((repeat' apply And.intro) <;> first | exact trivial | exact rfl | omega | (simp; done) | (simp; omega)))) | refine wn (wr rfl rfl rfl) rfl ?_ | refine wo rfl (wr rfl rfl rfl) rfl ?_ | refine ws rfl rfl ?_ | refine wj rfl ?_ | refine wk rfl ?_ | refine ww rfl rfl rfl ?_)
      first | refine OpsAt.say (d := 5) rfl (y := .v (.int .i64 (i + 1 : Nat))) (by rw [wrap64_in ((i : Int) + 1) (by omega)]; simp) ?_ | refine Run.say (d := 5) rfl (y := .v (.int .i64 (i + 1 : Nat))) (by rw [wrap64_in ((i : Int) + 1) (by omega)]; simp) ?_ | refine OpsB.say (d := 5) rfl (y := .v (.int .i64 (i + 1 : Nat))) (by rw [wrap64_in ((i : Int) + 1) (by omega)]; simp) ?_
      refine Run.keep [1, 2, 4, 5] rfl ?_
      exact ih (i + 1) ⟨by omega, by rw [hr, hst, if_neg h1']⟩ (by omega)
  · have hi2 : i = 32 := by simp at hb; omega
    subst hi2
    repeat (first | apply wa | apply wb | apply wc | apply wd | apply we | apply wf | apply wg | apply wh | apply wi | ((first | refine wl rfl rfl ?_ ?_ | refine wn (wp rfl rfl rfl rfl rfl ?_) rfl ?_ | refine wn (wq agree rfl rfl rfl ?_) rfl ?_ | refine wm rfl rfl rfl ?_ ?_ | refine wo rfl (wp rfl rfl rfl rfl rfl ?_) rfl ?_ | refine wo rfl (wq agree rfl rfl rfl ?_) rfl ?_ | refine wt rfl ?_ ?_ | refine wu rfl ?_ ?_ | refine wv rfl rfl ?_ rfl rfl ?_ | refine xa agree rfl rfl ?_ ?_ | refine xb agree rfl rfl rfl ?_ ?_); try (first | exact trivial | (rw [hgd] <;> rfl) | ((repeat' apply And.intro) <;> first | exact trivial | exact rfl | omega | (simp; done) | (simp; omega)))) | refine wn (wr rfl rfl rfl) rfl ?_ | refine wo rfl (wr rfl rfl rfl) rfl ?_ | refine ws rfl rfl ?_ | refine wj rfl ?_ | refine wk rfl ?_ | refine ww rfl rfl rfl ?_)
    refine wD (wE rfl rfl ?_)
    rw [hr]
    rfl

theorem c_rRight (l : List Int) (hl : l.length = 32) : DFun Tryd.prog 16 [ord l] (.v (.bool (rightO l))) := by
  refine DFun.ofRun agree mixed Tryd.func16 rfl rfl ?_
  repeat (first | apply wa | apply wb | apply wc | apply wd | apply we | apply wf | apply wg | apply wh | apply wi | ((first | refine wl rfl rfl ?_ ?_ | refine wn (wp rfl rfl rfl rfl rfl ?_) rfl ?_ | refine wn (wq agree rfl rfl rfl ?_) rfl ?_ | refine wm rfl rfl rfl ?_ ?_ | refine wo rfl (wp rfl rfl rfl rfl rfl ?_) rfl ?_ | refine wo rfl (wq agree rfl rfl rfl ?_) rfl ?_ | refine wt rfl ?_ ?_ | refine wu rfl ?_ ?_ | refine wv rfl rfl ?_ rfl rfl ?_ | refine xa agree rfl rfl ?_ ?_ | refine xb agree rfl rfl rfl ?_ ?_); try (first | exact trivial | (rw [hgd] <;> rfl) | ((repeat' apply And.intro) <;> first | exact trivial | exact rfl | omega | (simp; done) | (simp; omega)))) | refine wn (wr rfl rfl rfl) rfl ?_ | refine wo rfl (wr rfl rfl rfl) rfl ?_ | refine ws rfl rfl ?_ | refine wj rfl ?_ | refine wk rfl ?_ | refine ww rfl rfl rfl ?_)
  · exact ord_pl l
  repeat (first | apply wa | apply wb | apply wc | apply wd | apply we | apply wf | apply wg | apply wh | apply wi | ((first | refine wl rfl rfl ?_ ?_ | refine wn (wp rfl rfl rfl rfl rfl ?_) rfl ?_ | refine wn (wq agree rfl rfl rfl ?_) rfl ?_ | refine wm rfl rfl rfl ?_ ?_ | refine wo rfl (wp rfl rfl rfl rfl rfl ?_) rfl ?_ | refine wo rfl (wq agree rfl rfl rfl ?_) rfl ?_ | refine wt rfl ?_ ?_ | refine wu rfl ?_ ?_ | refine wv rfl rfl ?_ rfl rfl ?_ | refine xa agree rfl rfl ?_ ?_ | refine xb agree rfl rfl rfl ?_ ?_); try (first | exact trivial | (rw [hgd] <;> rfl) | ((repeat' apply And.intro) <;> first | exact trivial | exact rfl | omega | (simp; done) | (simp; omega)))) | refine wn (wr rfl rfl rfl) rfl ?_ | refine wo rfl (wr rfl rfl rfl) rfl ?_ | refine ws rfl rfl ?_ | refine wj rfl ?_ | refine wk rfl ?_ | refine ww rfl rfl rfl ?_)
  refine Run.keep [1, 2, 3] rfl ?_
  refine Run.at (l' := [(1, .box (ord l)), (2, .d (.v (.bool false))), (3, .d (.v (.int .i64 (0 : Nat))))]) rfl ?_
  refine Run.loopL (α := Nat) (fun i => i ≤ 32 ∧ ∀ j : Nat, j < i → ¬ atR l (j : Int) < 0) (fun i => [(1, .box (ord l)), (2, .d (.v (.bool false))), (3, .d (.v (.int .i64 i)))]) (fun i => 32 - i) 0 ⟨by decide, fun j hj => absurd hj (by omega)⟩ ?_
  rintro i ⟨hi, hall⟩ ih
  repeat (first | apply wa | apply wb | apply wc | apply wd | apply we | apply wf | apply wg | apply wh | apply wi | ((first | refine wl rfl rfl ?_ ?_ | refine wn (wp rfl rfl rfl rfl rfl ?_) rfl ?_ | refine wn (wq agree rfl rfl rfl ?_) rfl ?_ | refine wm rfl rfl rfl ?_ ?_ | refine wo rfl (wp rfl rfl rfl rfl rfl ?_) rfl ?_ | refine wo rfl (wq agree rfl rfl rfl ?_) rfl ?_ | refine wt rfl ?_ ?_ | refine wu rfl ?_ ?_ | refine wv rfl rfl ?_ rfl rfl ?_ | refine xa agree rfl rfl ?_ ?_ | refine xb agree rfl rfl rfl ?_ ?_); try (first | exact trivial | (rw [hgd] <;> rfl) | ((repeat' apply And.intro) <;> first | exact trivial | exact rfl | omega | (simp; done) | (simp; omega)))) | refine wn (wr rfl rfl rfl) rfl ?_ | refine wo rfl (wr rfl rfl rfl) rfl ?_ | refine ws rfl rfl ?_ | refine wj rfl ?_ | refine wk rfl ?_ | refine ww rfl rfl rfl ?_)
  refine Run.condB rfl rfl (fun hb => ?_) (fun hb => ?_)
  · have hi2 : i < 32 := by simp at hb; omega
    repeat (first | apply wa | apply wb | apply wc | apply wd | apply we | apply wf | apply wg | apply wh | apply wi | ((first | refine wl rfl rfl ?_ ?_ | refine wn (wp rfl rfl rfl rfl rfl ?_) rfl ?_ | refine wn (wq agree rfl rfl rfl ?_) rfl ?_ | refine wm rfl rfl rfl ?_ ?_ | refine wo rfl (wp rfl rfl rfl rfl rfl ?_) rfl ?_ | refine wo rfl (wq agree rfl rfl rfl ?_) rfl ?_ | refine wt rfl ?_ ?_ | refine wu rfl ?_ ?_ | refine wv rfl rfl ?_ rfl rfl ?_ | refine xa agree rfl rfl ?_ ?_ | refine xb agree rfl rfl rfl ?_ ?_); try (first | exact trivial | (rw [hgd] <;> rfl) | ((repeat' apply And.intro) <;> first | exact trivial | exact rfl | omega | (simp; done) | (simp; omega)))) | refine wn (wr rfl rfl rfl) rfl ?_ | refine wo rfl (wr rfl rfl rfl) rfl ?_ | refine ws rfl rfl ?_ | refine wj rfl ?_ | refine wk rfl ?_ | refine ww rfl rfl rfl ?_)
    · exact ⟨ord_fits hl rfl, ord_pl l⟩
    repeat (first | apply wa | apply wb | apply wc | apply wd | apply we | apply wf | apply wg | apply wh | apply wi | ((first | refine wl rfl rfl ?_ ?_ | refine wn (wp rfl rfl rfl rfl rfl ?_) rfl ?_ | refine wn (wq agree rfl rfl rfl ?_) rfl ?_ | refine wm rfl rfl rfl ?_ ?_ | refine wo rfl (wp rfl rfl rfl rfl rfl ?_) rfl ?_ | refine wo rfl (wq agree rfl rfl rfl ?_) rfl ?_ | refine wt rfl ?_ ?_ | refine wu rfl ?_ ?_ | refine wv rfl rfl ?_ rfl rfl ?_ | refine xa agree rfl rfl ?_ ?_ | refine xb agree rfl rfl rfl ?_ ?_); try (first | exact trivial | (rw [hgd] <;> rfl) | ((repeat' apply And.intro) <;> first | exact trivial | exact rfl | omega | (simp; done) | (simp; omega)))) | refine wn (wr rfl rfl rfl) rfl ?_ | refine wo rfl (wr rfl rfl rfl) rfl ?_ | refine ws rfl rfl ?_ | refine wj rfl ?_ | refine wk rfl ?_ | refine ww rfl rfl rfl ?_)
    have hpl : ((ord l).get []).pl = true := ord_pl l
    refine wn (wA rfl rfl rfl (by repeat' (first | exact trivial | exact rfl | assumption | apply And.intro)) (callable (by decide)) (c_rAt l i hl)) rfl ?_
    repeat (first | apply wa | apply wb | apply wc | apply wd | apply we | apply wf | apply wg | apply wh | apply wi | ((first | refine wl rfl rfl ?_ ?_ | refine wn (wp rfl rfl rfl rfl rfl ?_) rfl ?_ | refine wn (wq agree rfl rfl rfl ?_) rfl ?_ | refine wm rfl rfl rfl ?_ ?_ | refine wo rfl (wp rfl rfl rfl rfl rfl ?_) rfl ?_ | refine wo rfl (wq agree rfl rfl rfl ?_) rfl ?_ | refine wt rfl ?_ ?_ | refine wu rfl ?_ ?_ | refine wv rfl rfl ?_ rfl rfl ?_ | refine xa agree rfl rfl ?_ ?_ | refine xb agree rfl rfl rfl ?_ ?_); try (first | exact trivial | (rw [hgd] <;> rfl) | ((repeat' apply And.intro) <;> first | exact trivial | exact rfl | omega | (simp; done) | (simp; omega)))) | refine wn (wr rfl rfl rfl) rfl ?_ | refine wo rfl (wr rfl rfl rfl) rfl ?_ | refine ws rfl rfl ?_ | refine wj rfl ?_ | refine wk rfl ?_ | refine ww rfl rfl rfl ?_)
    refine Run.condB rfl rfl (fun h1 => ?_) (fun h1 => ?_)
    · have h1' := of_decide_eq_true h1
      repeat (first | apply wa | apply wb | apply wc | apply wd | apply we | apply wf | apply wg | apply wh | apply wi | ((first | refine wl rfl rfl ?_ ?_ | refine wn (wp rfl rfl rfl rfl rfl ?_) rfl ?_ | refine wn (wq agree rfl rfl rfl ?_) rfl ?_ | refine wm rfl rfl rfl ?_ ?_ | refine wo rfl (wp rfl rfl rfl rfl rfl ?_) rfl ?_ | refine wo rfl (wq agree rfl rfl rfl ?_) rfl ?_ | refine wt rfl ?_ ?_ | refine wu rfl ?_ ?_ | refine wv rfl rfl ?_ rfl rfl ?_ | refine xa agree rfl rfl ?_ ?_ | refine xb agree rfl rfl rfl ?_ ?_); try (first | exact trivial | (rw [hgd] <;> rfl) | ((repeat' apply And.intro) <;> first | exact trivial | exact rfl | omega | (simp; done) | (simp; omega)))) | refine wn (wr rfl rfl rfl) rfl ?_ | refine wo rfl (wr rfl rfl rfl) rfl ?_ | refine ws rfl rfl ?_ | refine wj rfl ?_ | refine wk rfl ?_ | refine ww rfl rfl rfl ?_)
      refine wD (wE rfl rfl ?_)
      have : rightO l = false := Bool.eq_false_iff.2 fun h => (atR_right hl).1 h i hi2 h1'
      rw [this]
    · have h1' := of_decide_eq_false h1
      repeat (first | apply wa | apply wb | apply wc | apply wd | apply we | apply wf | apply wg | apply wh | apply wi | ((first | refine wl rfl rfl ?_ ?_ | refine wn (wp rfl rfl rfl rfl rfl ?_) rfl ?_ | refine wn (wq agree rfl rfl rfl ?_) rfl ?_ | refine wm rfl rfl rfl ?_ ?_ | refine wo rfl (wp rfl rfl rfl rfl rfl ?_) rfl ?_ | refine wo rfl (wq agree rfl rfl rfl ?_) rfl ?_ | refine wt rfl ?_ ?_ | refine wu rfl ?_ ?_ | refine wv rfl rfl ?_ rfl rfl ?_ | refine xa agree rfl rfl ?_ ?_ | refine xb agree rfl rfl rfl ?_ ?_); try (first | exact trivial | (rw [hgd] <;> rfl) | ((repeat' apply And.intro) <;> first | exact trivial | exact rfl | omega | (simp; done) | (simp; omega)))) | refine wn (wr rfl rfl rfl) rfl ?_ | refine wo rfl (wr rfl rfl rfl) rfl ?_ | refine ws rfl rfl ?_ | refine wj rfl ?_ | refine wk rfl ?_ | refine ww rfl rfl rfl ?_)
      first | refine OpsAt.say (d := 3) rfl (y := .v (.int .i64 (i + 1 : Nat))) (by rw [wrap64_in ((i : Int) + 1) (by omega)]; simp) ?_ | refine Run.say (d := 3) rfl (y := .v (.int .i64 (i + 1 : Nat))) (by rw [wrap64_in ((i : Int) + 1) (by omega)]; simp) ?_ | refine OpsB.say (d := 3) rfl (y := .v (.int .i64 (i + 1 : Nat))) (by rw [wrap64_in ((i : Int) + 1) (by omega)]; simp) ?_
      refine Run.keep [1, 2, 3] rfl ?_
      refine ih (i + 1) ⟨by omega, fun j hj => ?_⟩ (by omega)
      by_cases e : j = i
      · rw [e]; exact h1'
      · exact hall j (by omega)
  · have hi2 : i = 32 := by simp at hb; omega
    subst hi2
    repeat (first | apply wa | apply wb | apply wc | apply wd | apply we | apply wf | apply wg | apply wh | apply wi | ((first | refine wl rfl rfl ?_ ?_ | refine wn (wp rfl rfl rfl rfl rfl ?_) rfl ?_ | refine wn (wq agree rfl rfl rfl ?_) rfl ?_ | refine wm rfl rfl rfl ?_ ?_ | refine wo rfl (wp rfl rfl rfl rfl rfl ?_) rfl ?_ | refine wo rfl (wq agree rfl rfl rfl ?_) rfl ?_ | refine wt rfl ?_ ?_ | refine wu rfl ?_ ?_ | refine wv rfl rfl ?_ rfl rfl ?_ | refine xa agree rfl rfl ?_ ?_ | refine xb agree rfl rfl rfl ?_ ?_); try (first | exact trivial | (rw [hgd] <;> rfl) | ((repeat' apply And.intro) <;> first | exact trivial | exact rfl | omega | (simp; done) | (simp; omega)))) | refine wn (wr rfl rfl rfl) rfl ?_ | refine wo rfl (wr rfl rfl rfl) rfl ?_ | refine ws rfl rfl ?_ | refine wj rfl ?_ | refine wk rfl ?_ | refine ww rfl rfl rfl ?_)
    refine wD (wE rfl rfl ?_)
    have : rightO l = true := (atR_right hl).2 hall
    rw [this]

theorem c_rRow (l : List Int) (hl : l.length = 32) : DFun Tryd.prog 21 [ord l] (.lst .any 1 (ints (if rightO l then rowOf l 32 else []))) := by
  refine DFun.ofRun agree mixed Tryd.func21 rfl rfl ?_
  repeat (first | apply wa | apply wb | apply wc | apply wd | apply we | apply wf | apply wg | apply wh | apply wi | ((first | refine wl rfl rfl ?_ ?_ | refine wn (wp rfl rfl rfl rfl rfl ?_) rfl ?_ | refine wn (wq agree rfl rfl rfl ?_) rfl ?_ | refine wm rfl rfl rfl ?_ ?_ | refine wo rfl (wp rfl rfl rfl rfl rfl ?_) rfl ?_ | refine wo rfl (wq agree rfl rfl rfl ?_) rfl ?_ | refine wt rfl ?_ ?_ | refine wu rfl ?_ ?_ | refine wv rfl rfl ?_ rfl rfl ?_ | refine xa agree rfl rfl ?_ ?_ | refine xb agree rfl rfl rfl ?_ ?_); try (first | exact trivial | (rw [hgd] <;> rfl) | ((repeat' apply And.intro) <;> first | exact trivial | exact rfl | omega | (simp; done) | (simp; omega)))) | refine wn (wr rfl rfl rfl) rfl ?_ | refine wo rfl (wr rfl rfl rfl) rfl ?_ | refine ws rfl rfl ?_ | refine wj rfl ?_ | refine wk rfl ?_ | refine ww rfl rfl rfl ?_)
  · exact ord_pl l
  repeat (first | apply wa | apply wb | apply wc | apply wd | apply we | apply wf | apply wg | apply wh | apply wi | ((first | refine wl rfl rfl ?_ ?_ | refine wn (wp rfl rfl rfl rfl rfl ?_) rfl ?_ | refine wn (wq agree rfl rfl rfl ?_) rfl ?_ | refine wm rfl rfl rfl ?_ ?_ | refine wo rfl (wp rfl rfl rfl rfl rfl ?_) rfl ?_ | refine wo rfl (wq agree rfl rfl rfl ?_) rfl ?_ | refine wt rfl ?_ ?_ | refine wu rfl ?_ ?_ | refine wv rfl rfl ?_ rfl rfl ?_ | refine xa agree rfl rfl ?_ ?_ | refine xb agree rfl rfl rfl ?_ ?_); try (first | exact trivial | (rw [hgd] <;> rfl) | ((repeat' apply And.intro) <;> first | exact trivial | exact rfl | omega | (simp; done) | (simp; omega)))) | refine wn (wr rfl rfl rfl) rfl ?_ | refine wo rfl (wr rfl rfl rfl) rfl ?_ | refine ws rfl rfl ?_ | refine wj rfl ?_ | refine wk rfl ?_ | refine ww rfl rfl rfl ?_)
  · exact ⟨ord_fits hl rfl, ord_pl l⟩
  repeat (first | apply wa | apply wb | apply wc | apply wd | apply we | apply wf | apply wg | apply wh | apply wi | ((first | refine wl rfl rfl ?_ ?_ | refine wn (wp rfl rfl rfl rfl rfl ?_) rfl ?_ | refine wn (wq agree rfl rfl rfl ?_) rfl ?_ | refine wm rfl rfl rfl ?_ ?_ | refine wo rfl (wp rfl rfl rfl rfl rfl ?_) rfl ?_ | refine wo rfl (wq agree rfl rfl rfl ?_) rfl ?_ | refine wt rfl ?_ ?_ | refine wu rfl ?_ ?_ | refine wv rfl rfl ?_ rfl rfl ?_ | refine xa agree rfl rfl ?_ ?_ | refine xb agree rfl rfl rfl ?_ ?_); try (first | exact trivial | (rw [hgd] <;> rfl) | ((repeat' apply And.intro) <;> first | exact trivial | exact rfl | omega | (simp; done) | (simp; omega)))) | refine wn (wr rfl rfl rfl) rfl ?_ | refine wo rfl (wr rfl rfl rfl) rfl ?_ | refine ws rfl rfl ?_ | refine wj rfl ?_ | refine wk rfl ?_ | refine ww rfl rfl rfl ?_)
  have hpl : ((ord l).get []).pl = true := ord_pl l
  refine wn (wA rfl rfl rfl (by repeat' (first | exact trivial | exact rfl | assumption | apply And.intro)) (callable (by decide)) (c_rRight l hl)) rfl ?_
  repeat (first | apply wa | apply wb | apply wc | apply wd | apply we | apply wf | apply wg | apply wh | apply wi | ((first | refine wl rfl rfl ?_ ?_ | refine wn (wp rfl rfl rfl rfl rfl ?_) rfl ?_ | refine wn (wq agree rfl rfl rfl ?_) rfl ?_ | refine wm rfl rfl rfl ?_ ?_ | refine wo rfl (wp rfl rfl rfl rfl rfl ?_) rfl ?_ | refine wo rfl (wq agree rfl rfl rfl ?_) rfl ?_ | refine wt rfl ?_ ?_ | refine wu rfl ?_ ?_ | refine wv rfl rfl ?_ rfl rfl ?_ | refine xa agree rfl rfl ?_ ?_ | refine xb agree rfl rfl rfl ?_ ?_); try (first | exact trivial | (rw [hgd] <;> rfl) | ((repeat' apply And.intro) <;> first | exact trivial | exact rfl | omega | (simp; done) | (simp; omega)))) | refine wn (wr rfl rfl rfl) rfl ?_ | refine wo rfl (wr rfl rfl rfl) rfl ?_ | refine ws rfl rfl ?_ | refine wj rfl ?_ | refine wk rfl ?_ | refine ww rfl rfl rfl ?_)
  refine Run.condB rfl rfl (fun h0 => ?_) (fun h0 => ?_)
  · have : rightO l = false := by simpa using h0
    repeat (first | apply wa | apply wb | apply wc | apply wd | apply we | apply wf | apply wg | apply wh | apply wi | ((first | refine wl rfl rfl ?_ ?_ | refine wn (wp rfl rfl rfl rfl rfl ?_) rfl ?_ | refine wn (wq agree rfl rfl rfl ?_) rfl ?_ | refine wm rfl rfl rfl ?_ ?_ | refine wo rfl (wp rfl rfl rfl rfl rfl ?_) rfl ?_ | refine wo rfl (wq agree rfl rfl rfl ?_) rfl ?_ | refine wt rfl ?_ ?_ | refine wu rfl ?_ ?_ | refine wv rfl rfl ?_ rfl rfl ?_ | refine xa agree rfl rfl ?_ ?_ | refine xb agree rfl rfl rfl ?_ ?_); try (first | exact trivial | (rw [hgd] <;> rfl) | ((repeat' apply And.intro) <;> first | exact trivial | exact rfl | omega | (simp; done) | (simp; omega)))) | refine wn (wr rfl rfl rfl) rfl ?_ | refine wo rfl (wr rfl rfl rfl) rfl ?_ | refine ws rfl rfl ?_ | refine wj rfl ?_ | refine wk rfl ?_ | refine ww rfl rfl rfl ?_)
    refine Run.ownNil 2 3 1 rfl ?_
    refine Run.freeze 2 .any rfl (okK_any _) ?_
    refine wD (wE rfl rfl ?_)
    rw [this]
    rfl
  have hr : rightO l = true := by simpa using h0
  have hp := rightO_p hl hr
  obtain ⟨r, hr0⟩ : ∃ r, r = rowOf l 32 := ⟨_, rfl⟩
  have hrl : r.length = 32 := by rw [hr0, rowOf_len]
  rw [if_pos hr, ← hr0]
  repeat (first | apply wa | apply wb | apply wc | apply wd | apply we | apply wf | apply wg | apply wh | apply wi | ((first | refine wl rfl rfl ?_ ?_ | refine wn (wp rfl rfl rfl rfl rfl ?_) rfl ?_ | refine wn (wq agree rfl rfl rfl ?_) rfl ?_ | refine wm rfl rfl rfl ?_ ?_ | refine wo rfl (wp rfl rfl rfl rfl rfl ?_) rfl ?_ | refine wo rfl (wq agree rfl rfl rfl ?_) rfl ?_ | refine wt rfl ?_ ?_ | refine wu rfl ?_ ?_ | refine wv rfl rfl ?_ rfl rfl ?_ | refine xa agree rfl rfl ?_ ?_ | refine xb agree rfl rfl rfl ?_ ?_); try (first | exact trivial | (rw [hgd] <;> rfl) | ((repeat' apply And.intro) <;> first | exact trivial | exact rfl | omega | (simp; done) | (simp; omega)))) | refine wn (wr rfl rfl rfl) rfl ?_ | refine wo rfl (wr rfl rfl rfl) rfl ?_ | refine ws rfl rfl ?_ | refine wj rfl ?_ | refine wk rfl ?_ | refine ww rfl rfl rfl ?_)
  refine Run.ownNil 3 3 1 rfl ?_
  refine Run.keep [1, 3, 4] rfl ?_
  refine Run.at (l' := [(1, .box (ord l)), (3, .d (.own (decide (0 = 0)) 3 1 (ints (r.take 0)))), (4, .d (.v (.int .i64 (0 : Nat))))]) rfl ?_
  refine Run.loopL (α := Nat) (fun i => i ≤ 32) (fun i => [(1, .box (ord l)), (3, .d (.own (decide (i = 0)) 3 1 (ints (r.take i)))), (4, .d (.v (.int .i64 i)))]) (fun i => 32 - i) 0 (by decide) ?_
  intro i hi ih
  have htl : (r.take i).length = i := by simp; omega
  repeat (first | apply wa | apply wb | apply wc | apply wd | apply we | apply wf | apply wg | apply wh | apply wi | ((first | refine wl rfl rfl ?_ ?_ | refine wn (wp rfl rfl rfl rfl rfl ?_) rfl ?_ | refine wn (wq agree rfl rfl rfl ?_) rfl ?_ | refine wm rfl rfl rfl ?_ ?_ | refine wo rfl (wp rfl rfl rfl rfl rfl ?_) rfl ?_ | refine wo rfl (wq agree rfl rfl rfl ?_) rfl ?_ | refine wt rfl ?_ ?_ | refine wu rfl ?_ ?_ | refine wv rfl rfl ?_ rfl rfl ?_ | refine xa agree rfl rfl ?_ ?_ | refine xb agree rfl rfl rfl ?_ ?_); try (first | exact trivial | (rw [hgd] <;> rfl) | ((repeat' apply And.intro) <;> first | exact trivial | exact rfl | omega | (simp; done) | (simp; omega)))) | refine wn (wr rfl rfl rfl) rfl ?_ | refine wo rfl (wr rfl rfl rfl) rfl ?_ | refine ws rfl rfl ?_ | refine wj rfl ?_ | refine wk rfl ?_ | refine ww rfl rfl rfl ?_)
  refine Run.condB rfl rfl (fun hb => ?_) (fun hb => ?_)
  · have hi2 : i < 32 := by simp at hb; omega
    repeat (first | apply wa | apply wb | apply wc | apply wd | apply we | apply wf | apply wg | apply wh | apply wi | ((first | refine wl rfl rfl ?_ ?_ | refine wn (wp rfl rfl rfl rfl rfl ?_) rfl ?_ | refine wn (wq agree rfl rfl rfl ?_) rfl ?_ | refine wm rfl rfl rfl ?_ ?_ | refine wo rfl (wp rfl rfl rfl rfl rfl ?_) rfl ?_ | refine wo rfl (wq agree rfl rfl rfl ?_) rfl ?_ | refine wt rfl ?_ ?_ | refine wu rfl ?_ ?_ | refine wv rfl rfl ?_ rfl rfl ?_ | refine xa agree rfl rfl ?_ ?_ | refine xb agree rfl rfl rfl ?_ ?_); try (first | exact trivial | (rw [hgd] <;> rfl) | ((repeat' apply And.intro) <;> first | exact trivial | exact rfl | omega | (simp; done) | (simp; omega)))) | refine wn (wr rfl rfl rfl) rfl ?_ | refine wo rfl (wr rfl rfl rfl) rfl ?_ | refine ws rfl rfl ?_ | refine wj rfl ?_ | refine wk rfl ?_ | refine ww rfl rfl rfl ?_)
    · exact ⟨ord_fits hl rfl, ord_pl l⟩
    repeat (first | apply wa | apply wb | apply wc | apply wd | apply we | apply wf | apply wg | apply wh | apply wi | ((first | refine wl rfl rfl ?_ ?_ | refine wn (wp rfl rfl rfl rfl rfl ?_) rfl ?_ | refine wn (wq agree rfl rfl rfl ?_) rfl ?_ | refine wm rfl rfl rfl ?_ ?_ | refine wo rfl (wp rfl rfl rfl rfl rfl ?_) rfl ?_ | refine wo rfl (wq agree rfl rfl rfl ?_) rfl ?_ | refine wt rfl ?_ ?_ | refine wu rfl ?_ ?_ | refine wv rfl rfl ?_ rfl rfl ?_ | refine xa agree rfl rfl ?_ ?_ | refine xb agree rfl rfl rfl ?_ ?_); try (first | exact trivial | (rw [hgd] <;> rfl) | ((repeat' apply And.intro) <;> first | exact trivial | exact rfl | omega | (simp; done) | (simp; omega)))) | refine wn (wr rfl rfl rfl) rfl ?_ | refine wo rfl (wr rfl rfl rfl) rfl ?_ | refine ws rfl rfl ?_ | refine wj rfl ?_ | refine wk rfl ?_ | refine ww rfl rfl rfl ?_)
    refine wn (wA rfl rfl rfl (by repeat' (first | exact trivial | exact rfl | assumption | apply And.intro)) (callable (by decide)) (c_rAt l i hl)) rfl ?_
    first | refine OpsAt.say (d := 15) rfl (y := .v (.int .i64 (r.getD i 0))) (by rw [atR_perm hp hi2, hr0, hp.row hi2]) ?_ | refine Run.say (d := 15) rfl (y := .v (.int .i64 (r.getD i 0))) (by rw [atR_perm hp hi2, hr0, hp.row hi2]) ?_ | refine OpsB.say (d := 15) rfl (y := .v (.int .i64 (r.getD i 0))) (by rw [atR_perm hp hi2, hr0, hp.row hi2]) ?_
    repeat (first | refine wa ?_ | refine wb ?_ | refine wc ?_ | refine wd ?_ | refine we ?_ | refine wf ?_ | refine wg ?_ | refine wh ?_ | refine wi ?_ | ((first | refine wl rfl rfl ?_ ?_ | refine wn (wp rfl rfl rfl rfl rfl ?_) rfl ?_ | refine wn (wq agree rfl rfl rfl ?_) rfl ?_ | refine wm rfl rfl rfl ?_ ?_ | refine wo rfl (wp rfl rfl rfl rfl rfl ?_) rfl ?_ | refine wo rfl (wq agree rfl rfl rfl ?_) rfl ?_ | refine wt rfl ?_ ?_ | refine wu rfl ?_ ?_ | refine wv rfl rfl ?_ rfl rfl ?_ | refine xa agree rfl rfl ?_ ?_ | refine xb agree rfl rfl rfl ?_ ?_); try (first | exact trivial | (rw [hgd] <;> rfl) | (rw [hgd2] <;> rfl) | ((repeat' apply And.intro) <;> first | exact trivial | exact rfl | omega | (simp; done) | (simp; omega)))) | refine wn (wr rfl rfl rfl) rfl ?_ | refine wo rfl (wr rfl rfl rfl) rfl ?_ | refine ws rfl rfl ?_ | refine wj rfl ?_ | refine wk rfl ?_ | refine ww rfl rfl rfl ?_ | refine wz rfl (by decide) rfl rfl rfl ?_ | (refine wx rfl rfl (.vw (vwOf_sound rfl)) rfl rfl ?_ ?_ rfl ?_; (try (simp <;> omega)); (try (first | (simp <;> omega) | (simp [maxLen] <;> omega)))) | (refine wy rfl rfl rfl rfl rfl rfl ?_ ?_ ?_ ?_; (try (first | trivial | rfl)); (try (simp <;> omega)); (try (first | (simp <;> omega) | (simp [maxLen] <;> omega)))))
    · simp only [ints_len, htl, List.length_singleton]; omega
    · simp only [ints_len, htl, List.length_singleton, maxLen]; omega
    repeat (first | apply wa | apply wb | apply wc | apply wd | apply we | apply wf | apply wg | apply wh | apply wi | ((first | refine wl rfl rfl ?_ ?_ | refine wn (wp rfl rfl rfl rfl rfl ?_) rfl ?_ | refine wn (wq agree rfl rfl rfl ?_) rfl ?_ | refine wm rfl rfl rfl ?_ ?_ | refine wo rfl (wp rfl rfl rfl rfl rfl ?_) rfl ?_ | refine wo rfl (wq agree rfl rfl rfl ?_) rfl ?_ | refine wt rfl ?_ ?_ | refine wu rfl ?_ ?_ | refine wv rfl rfl ?_ rfl rfl ?_ | refine xa agree rfl rfl ?_ ?_ | refine xb agree rfl rfl rfl ?_ ?_); try (first | exact trivial | (rw [hgd] <;> rfl) | ((repeat' apply And.intro) <;> first | exact trivial | exact rfl | omega | (simp; done) | (simp; omega)))) | refine wn (wr rfl rfl rfl) rfl ?_ | refine wo rfl (wr rfl rfl rfl) rfl ?_ | refine ws rfl rfl ?_ | refine wj rfl ?_ | refine wk rfl ?_ | refine ww rfl rfl rfl ?_)
    have htk : r.take (i + 1) = r.take i ++ [r.getD i 0] := by rw [List.take_add_one, getD_eq (by omega : i < r.length), List.getElem?_eq_getElem (by omega)]; rfl
    first | refine OpsAt.say (d := 3) rfl (y := .own (decide (i + 1 = 0)) 3 1 (ints (r.take (i + 1)))) (by rw [htk]; simp [ints]) ?_ | refine Run.say (d := 3) rfl (y := .own (decide (i + 1 = 0)) 3 1 (ints (r.take (i + 1)))) (by rw [htk]; simp [ints]) ?_ | refine OpsB.say (d := 3) rfl (y := .own (decide (i + 1 = 0)) 3 1 (ints (r.take (i + 1)))) (by rw [htk]; simp [ints]) ?_
    first | refine OpsAt.say (d := 4) rfl (y := .v (.int .i64 (i + 1 : Nat))) (by rw [wrap64_in ((i : Int) + 1) (by omega)]; simp) ?_ | refine Run.say (d := 4) rfl (y := .v (.int .i64 (i + 1 : Nat))) (by rw [wrap64_in ((i : Int) + 1) (by omega)]; simp) ?_ | refine OpsB.say (d := 4) rfl (y := .v (.int .i64 (i + 1 : Nat))) (by rw [wrap64_in ((i : Int) + 1) (by omega)]; simp) ?_
    refine Run.keep [1, 3, 4] rfl ?_
    exact ih (i + 1) (by omega) (by omega)
  · have hi2 : i = 32 := by simp at hb; omega
    subst hi2
    refine Run.freeze 3 .any rfl (okK_any _) ?_
    repeat (first | apply wa | apply wb | apply wc | apply wd | apply we | apply wf | apply wg | apply wh | apply wi | ((first | refine wl rfl rfl ?_ ?_ | refine wn (wp rfl rfl rfl rfl rfl ?_) rfl ?_ | refine wn (wq agree rfl rfl rfl ?_) rfl ?_ | refine wm rfl rfl rfl ?_ ?_ | refine wo rfl (wp rfl rfl rfl rfl rfl ?_) rfl ?_ | refine wo rfl (wq agree rfl rfl rfl ?_) rfl ?_ | refine wt rfl ?_ ?_ | refine wu rfl ?_ ?_ | refine wv rfl rfl ?_ rfl rfl ?_ | refine xa agree rfl rfl ?_ ?_ | refine xb agree rfl rfl rfl ?_ ?_); try (first | exact trivial | (rw [hgd] <;> rfl) | ((repeat' apply And.intro) <;> first | exact trivial | exact rfl | omega | (simp; done) | (simp; omega)))) | refine wn (wr rfl rfl rfl) rfl ?_ | refine wo rfl (wr rfl rfl rfl) rfl ?_ | refine ws rfl rfl ?_ | refine wj rfl ?_ | refine wk rfl ?_ | refine ww rfl rfl rfl ?_)
    refine wD (wE rfl rfl ?_)
    rw [List.take_of_length_le (by omega)]
end Go.Proofs.YthiicbpoahilcaaDoor

namespace Go.Proofs.YthiicbpoahilcaaDoor
open Go Go.Dat

theorem pI : Opens Tryd.prog 3 (fun n : Int => D.v (.int .i64 n)) := Opens.int Tryd.underlying3
set_option maxRecDepth 100000 in
theorem pEdge : Opens Tryd.prog 28 (fun q : Int × Int => ed q) := by
  refine Opens.as (Opens.struct (F := (Tryd.prog.fieldsOf 28).toList) (tot := 2) (by kernel_rfl) (by kernel_rfl) (OpFs.cons (c := 1) pI ⟨by kernel_rfl, by kernel_rfl⟩ (OpFs.cons (c := 1) pI ⟨by kernel_rfl, by kernel_rfl⟩ OpFs.nil))) fun x => ⟨(x.1, x.2.1), rfl⟩
theorem okU8 {n : Int} (h : IntKind.u8.min ≤ n ∧ n ≤ IntKind.u8.max) : 0 ≤ n ∧ n ≤ 255 := by
  have h1 : IntKind.u8.min = 0 := by decide
  have h2 : IntKind.u8.max = 255 := by decide
  rw [h1, h2] at h
  exact h
theorem pEdges : Opens Tryd.prog 51 (fun l : List (Int × Int) => D.lst .any 2 (eds l)) := Opens.slice Tryd.underlying51 pEdge (by kernel_rfl) (by decide)
end Go.Proofs.YthiicbpoahilcaaDoor
