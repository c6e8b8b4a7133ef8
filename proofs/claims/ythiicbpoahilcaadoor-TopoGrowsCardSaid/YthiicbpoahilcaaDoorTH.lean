/- Texts S37, S38, S39, S40 in one file. No conditions. -/
import Derived.Test.YthiicbpoahilcaaDoorTG

namespace Go.Proofs.YthiicbpoahilcaaDoor
open Go Go.Dat

theorem goes_edge (g : List Nat) (l : List Int) (i : Nat) : (itemsN (outsN g (i : Int))).all (goes l i) = true ↔ ∀ k, k < 32 → edge g i k = true → l.getD i 0 < l.getD k 0 := by
  rw [List.all_eq_true, itemsN_eq]
  constructor
  · intro h k hk he
    have := h (k : Int) (List.mem_map.2 ⟨k, itemsL_mem.2 ⟨by omega, by rw [outs_bit]; exact he⟩, rfl⟩)
    exact of_decide_eq_true this
  · intro h x hx
    obtain ⟨k, hk, rfl⟩ := List.mem_map.1 hx
    rw [itemsL_mem, outs_bit] at hk
    have hk32 : k < 32 := by have := hk.2; simp only [edge, Bool.and_eq_true, decide_eq_true_eq] at this; exact this.1.2
    exact decide_eq_true (h k hk32 hk.2)

theorem c_rSorted (g : List Nat) (l : List Int) (hg : gok g) (hl : l.length = 32) : DFun Tryd.prog 18 [gr g, ord l] (.v (.bool (sortedN g l))) := by
  refine DFun.ofRun agree mixed Tryd.func18 rfl rfl ?_
  repeat (first | apply wa | apply wb | apply wc | apply wd | apply we | apply wf | apply wg | apply wh | apply wi | ((first | refine wl rfl rfl ?_ ?_ | refine wn (wp rfl rfl rfl rfl rfl ?_) rfl ?_ | refine wn (wq agree rfl rfl rfl ?_) rfl ?_ | refine wm rfl rfl rfl ?_ ?_ | refine wo rfl (wp rfl rfl rfl rfl rfl ?_) rfl ?_ | refine wo rfl (wq agree rfl rfl rfl ?_) rfl ?_ | refine wt rfl ?_ ?_ | refine wu rfl ?_ ?_ | refine wv rfl rfl ?_ rfl rfl ?_ | refine xa agree rfl rfl ?_ ?_ | refine xb agree rfl rfl rfl ?_ ?_); try (first | exact trivial | (rw [hgd] <;> rfl) | ((repeat' apply And.intro) <;> first | exact trivial | exact rfl | omega | (simp; done) | (simp; omega)))) | refine wn (wr rfl rfl rfl) rfl ?_ | refine wo rfl (wr rfl rfl rfl) rfl ?_ | refine ws rfl rfl ?_ | refine wj rfl ?_ | refine wk rfl ?_ | refine ww rfl rfl rfl ?_)
  · exact gr_pl g
  repeat (first | apply wa | apply wb | apply wc | apply wd | apply we | apply wf | apply wg | apply wh | apply wi | ((first | refine wl rfl rfl ?_ ?_ | refine wn (wp rfl rfl rfl rfl rfl ?_) rfl ?_ | refine wn (wq agree rfl rfl rfl ?_) rfl ?_ | refine wm rfl rfl rfl ?_ ?_ | refine wo rfl (wp rfl rfl rfl rfl rfl ?_) rfl ?_ | refine wo rfl (wq agree rfl rfl rfl ?_) rfl ?_ | refine wt rfl ?_ ?_ | refine wu rfl ?_ ?_ | refine wv rfl rfl ?_ rfl rfl ?_ | refine xa agree rfl rfl ?_ ?_ | refine xb agree rfl rfl rfl ?_ ?_); try (first | exact trivial | (rw [hgd] <;> rfl) | ((repeat' apply And.intro) <;> first | exact trivial | exact rfl | omega | (simp; done) | (simp; omega)))) | refine wn (wr rfl rfl rfl) rfl ?_ | refine wo rfl (wr rfl rfl rfl) rfl ?_ | refine ws rfl rfl ?_ | refine wj rfl ?_ | refine wk rfl ?_ | refine ww rfl rfl rfl ?_)
  · exact ord_pl l
  repeat (first | apply wa | apply wb | apply wc | apply wd | apply we | apply wf | apply wg | apply wh | apply wi | ((first | refine wl rfl rfl ?_ ?_ | refine wn (wp rfl rfl rfl rfl rfl ?_) rfl ?_ | refine wn (wq agree rfl rfl rfl ?_) rfl ?_ | refine wm rfl rfl rfl ?_ ?_ | refine wo rfl (wp rfl rfl rfl rfl rfl ?_) rfl ?_ | refine wo rfl (wq agree rfl rfl rfl ?_) rfl ?_ | refine wt rfl ?_ ?_ | refine wu rfl ?_ ?_ | refine wv rfl rfl ?_ rfl rfl ?_ | refine xa agree rfl rfl ?_ ?_ | refine xb agree rfl rfl rfl ?_ ?_); try (first | exact trivial | (rw [hgd] <;> rfl) | ((repeat' apply And.intro) <;> first | exact trivial | exact rfl | omega | (simp; done) | (simp; omega)))) | refine wn (wr rfl rfl rfl) rfl ?_ | refine wo rfl (wr rfl rfl rfl) rfl ?_ | refine ws rfl rfl ?_ | refine wj rfl ?_ | refine wk rfl ?_ | refine ww rfl rfl rfl ?_)
  refine Run.keep [2, 3, 4, 5] rfl ?_
  refine Run.at (l' := [(2, .box (gr g)), (3, .box (ord l)), (4, .d (.v (.bool false))), (5, .d (.v (.int .i64 (0 : Nat))))]) rfl ?_
  refine Run.loopL (α := Nat) (fun i => i ≤ 32 ∧ ∀ j, j < i → (itemsN (outsN g (j : Int))).all (goes l j) = true) (fun i => [(2, .box (gr g)), (3, .box (ord l)), (4, .d (.v (.bool false))), (5, .d (.v (.int .i64 i)))]) (fun i => 32 - i) 0 ⟨by decide, fun j hj => absurd hj (by omega)⟩ ?_
  rintro i ⟨hi, hall⟩ ih
  repeat (first | apply wa | apply wb | apply wc | apply wd | apply we | apply wf | apply wg | apply wh | apply wi | ((first | refine wl rfl rfl ?_ ?_ | refine wn (wp rfl rfl rfl rfl rfl ?_) rfl ?_ | refine wn (wq agree rfl rfl rfl ?_) rfl ?_ | refine wm rfl rfl rfl ?_ ?_ | refine wo rfl (wp rfl rfl rfl rfl rfl ?_) rfl ?_ | refine wo rfl (wq agree rfl rfl rfl ?_) rfl ?_ | refine wt rfl ?_ ?_ | refine wu rfl ?_ ?_ | refine wv rfl rfl ?_ rfl rfl ?_ | refine xa agree rfl rfl ?_ ?_ | refine xb agree rfl rfl rfl ?_ ?_); try (first | exact trivial | (rw [hgd] <;> rfl) | ((repeat' apply And.intro) <;> first | exact trivial | exact rfl | omega | (simp; done) | (simp; omega)))) | refine wn (wr rfl rfl rfl) rfl ?_ | refine wo rfl (wr rfl rfl rfl) rfl ?_ | refine ws rfl rfl ?_ | refine wj rfl ?_ | refine wk rfl ?_ | refine ww rfl rfl rfl ?_)
  refine Run.condB rfl rfl (fun hb => ?_) (fun hb => ?_)
  · have hi2 : i < 32 := by simp at hb; omega
    repeat (first | apply wa | apply wb | apply wc | apply wd | apply we | apply wf | apply wg | apply wh | apply wi | ((first | refine wl rfl rfl ?_ ?_ | refine wn (wp rfl rfl rfl rfl rfl ?_) rfl ?_ | refine wn (wq agree rfl rfl rfl ?_) rfl ?_ | refine wm rfl rfl rfl ?_ ?_ | refine wo rfl (wp rfl rfl rfl rfl rfl ?_) rfl ?_ | refine wo rfl (wq agree rfl rfl rfl ?_) rfl ?_ | refine wt rfl ?_ ?_ | refine wu rfl ?_ ?_ | refine wv rfl rfl ?_ rfl rfl ?_ | refine xa agree rfl rfl ?_ ?_ | refine xb agree rfl rfl rfl ?_ ?_); try (first | exact trivial | (rw [hgd] <;> rfl) | ((repeat' apply And.intro) <;> first | exact trivial | exact rfl | omega | (simp; done) | (simp; omega)))) | refine wn (wr rfl rfl rfl) rfl ?_ | refine wo rfl (wr rfl rfl rfl) rfl ?_ | refine ws rfl rfl ?_ | refine wj rfl ?_ | refine wk rfl ?_ | refine ww rfl rfl rfl ?_)
    · exact ⟨gr_fits hg.1 rfl, gr_pl g⟩
    repeat (first | apply wa | apply wb | apply wc | apply wd | apply we | apply wf | apply wg | apply wh | apply wi | ((first | refine wl rfl rfl ?_ ?_ | refine wn (wp rfl rfl rfl rfl rfl ?_) rfl ?_ | refine wn (wq agree rfl rfl rfl ?_) rfl ?_ | refine wm rfl rfl rfl ?_ ?_ | refine wo rfl (wp rfl rfl rfl rfl rfl ?_) rfl ?_ | refine wo rfl (wq agree rfl rfl rfl ?_) rfl ?_ | refine wt rfl ?_ ?_ | refine wu rfl ?_ ?_ | refine wv rfl rfl ?_ rfl rfl ?_ | refine xa agree rfl rfl ?_ ?_ | refine xb agree rfl rfl rfl ?_ ?_); try (first | exact trivial | (rw [hgd] <;> rfl) | ((repeat' apply And.intro) <;> first | exact trivial | exact rfl | omega | (simp; done) | (simp; omega)))) | refine wn (wr rfl rfl rfl) rfl ?_ | refine wo rfl (wr rfl rfl rfl) rfl ?_ | refine ws rfl rfl ?_ | refine wj rfl ?_ | refine wk rfl ?_ | refine ww rfl rfl rfl ?_)
    have hpl : ((gr g).get []).pl = true := gr_pl g
    refine wn (wA rfl rfl rfl (by repeat' (first | exact trivial | exact rfl | assumption | apply And.intro)) (callable (by decide)) (c_rOuts g i hg)) rfl ?_
    repeat (first | apply wa | apply wb | apply wc | apply wd | apply we | apply wf | apply wg | apply wh | apply wi | ((first | refine wl rfl rfl ?_ ?_ | refine wn (wp rfl rfl rfl rfl rfl ?_) rfl ?_ | refine wn (wq agree rfl rfl rfl ?_) rfl ?_ | refine wm rfl rfl rfl ?_ ?_ | refine wo rfl (wp rfl rfl rfl rfl rfl ?_) rfl ?_ | refine wo rfl (wq agree rfl rfl rfl ?_) rfl ?_ | refine wt rfl ?_ ?_ | refine wu rfl ?_ ?_ | refine wv rfl rfl ?_ rfl rfl ?_ | refine xa agree rfl rfl ?_ ?_ | refine xb agree rfl rfl rfl ?_ ?_); try (first | exact trivial | (rw [hgd] <;> rfl) | ((repeat' apply And.intro) <;> first | exact trivial | exact rfl | omega | (simp; done) | (simp; omega)))) | refine wn (wr rfl rfl rfl) rfl ?_ | refine wo rfl (wr rfl rfl rfl) rfl ?_ | refine ws rfl rfl ?_ | refine wj rfl ?_ | refine wk rfl ?_ | refine ww rfl rfl rfl ?_)
    refine wn (wA rfl rfl rfl (by repeat' (first | exact trivial | exact rfl | assumption | apply And.intro)) (callable (by decide)) (c_rBits (outsN g (i : Int)) (outs_lt g i))) rfl ?_
    obtain ⟨bs, hbs⟩ : ∃ bs, bs = bitsL (outsN g (i : Int)) := ⟨_, rfl⟩
    have hbl : bs.length = 64 := by rw [hbs]; exact bitsTo_len _ _
    have hba : ∀ k, k < 64 → bs.getD k false = edge g i k := fun k hk => by rw [hbs, bits_at hk, outs_bit]
    rw [← hbs]
    repeat (first | apply wa | apply wb | apply wc | apply wd | apply we | apply wf | apply wg | apply wh | apply wi | ((first | refine wl rfl rfl ?_ ?_ | refine wn (wp rfl rfl rfl rfl rfl ?_) rfl ?_ | refine wn (wq agree rfl rfl rfl ?_) rfl ?_ | refine wm rfl rfl rfl ?_ ?_ | refine wo rfl (wp rfl rfl rfl rfl rfl ?_) rfl ?_ | refine wo rfl (wq agree rfl rfl rfl ?_) rfl ?_ | refine wt rfl ?_ ?_ | refine wu rfl ?_ ?_ | refine wv rfl rfl ?_ rfl rfl ?_ | refine xa agree rfl rfl ?_ ?_ | refine xb agree rfl rfl rfl ?_ ?_); try (first | exact trivial | (rw [hgd] <;> rfl) | ((repeat' apply And.intro) <;> first | exact trivial | exact rfl | omega | (simp; done) | (simp; omega)))) | refine wn (wr rfl rfl rfl) rfl ?_ | refine wo rfl (wr rfl rfl rfl) rfl ?_ | refine ws rfl rfl ?_ | refine wj rfl ?_ | refine wk rfl ?_ | refine ww rfl rfl rfl ?_)
    refine wv rfl rfl (bo_pl _) (bo_stoAll (z := List.replicate 64 false) (n := 64) hbl rfl rfl) rfl ?_
    first | refine OpsAt.sayB (d := 6) rfl (y := bo bs) (rfl) ?_ | refine Run.sayB (d := 6) rfl (y := bo bs) (rfl) ?_
    repeat (first | apply wa | apply wb | apply wc | apply wd | apply we | apply wf | apply wg | apply wh | apply wi | ((first | refine wl rfl rfl ?_ ?_ | refine wn (wp rfl rfl rfl rfl rfl ?_) rfl ?_ | refine wn (wq agree rfl rfl rfl ?_) rfl ?_ | refine wm rfl rfl rfl ?_ ?_ | refine wo rfl (wp rfl rfl rfl rfl rfl ?_) rfl ?_ | refine wo rfl (wq agree rfl rfl rfl ?_) rfl ?_ | refine wt rfl ?_ ?_ | refine wu rfl ?_ ?_ | refine wv rfl rfl ?_ rfl rfl ?_ | refine xa agree rfl rfl ?_ ?_ | refine xb agree rfl rfl rfl ?_ ?_); try (first | exact trivial | (rw [hgd] <;> rfl) | ((repeat' apply And.intro) <;> first | exact trivial | exact rfl | omega | (simp; done) | (simp; omega)))) | refine wn (wr rfl rfl rfl) rfl ?_ | refine wo rfl (wr rfl rfl rfl) rfl ?_ | refine ws rfl rfl ?_ | refine wj rfl ?_ | refine wk rfl ?_ | refine ww rfl rfl rfl ?_)
    refine Run.keep [2, 3, 4, 5, 6, 7] rfl ?_
    refine Run.at (l' := [(2, .box (gr g)), (3, .box (ord l)), (4, .d (.v (.bool false))), (5, .d (.v (.int .i64 i))), (6, .box (bo bs)), (7, .d (.v (.int .i64 (0 : Nat))))]) rfl ?_
    refine Run.loopL (α := Nat) (fun j => j ≤ 32 ∧ ∀ k, k < j → edge g i k = true → l.getD i 0 < l.getD k 0) (fun j => [(2, .box (gr g)), (3, .box (ord l)), (4, .d (.v (.bool false))), (5, .d (.v (.int .i64 i))), (6, .box (bo bs)), (7, .d (.v (.int .i64 j)))]) (fun j => 32 - j) 0 ⟨by decide, fun j hj => absurd hj (by omega)⟩ ?_
    rintro j ⟨hj, hall2⟩ ih2
    repeat (first | apply wa | apply wb | apply wc | apply wd | apply we | apply wf | apply wg | apply wh | apply wi | ((first | refine wl rfl rfl ?_ ?_ | refine wn (wp rfl rfl rfl rfl rfl ?_) rfl ?_ | refine wn (wq agree rfl rfl rfl ?_) rfl ?_ | refine wm rfl rfl rfl ?_ ?_ | refine wo rfl (wp rfl rfl rfl rfl rfl ?_) rfl ?_ | refine wo rfl (wq agree rfl rfl rfl ?_) rfl ?_ | refine wt rfl ?_ ?_ | refine wu rfl ?_ ?_ | refine wv rfl rfl ?_ rfl rfl ?_ | refine xa agree rfl rfl ?_ ?_ | refine xb agree rfl rfl rfl ?_ ?_); try (first | exact trivial | (rw [hgd] <;> rfl) | ((repeat' apply And.intro) <;> first | exact trivial | exact rfl | omega | (simp; done) | (simp; omega)))) | refine wn (wr rfl rfl rfl) rfl ?_ | refine wo rfl (wr rfl rfl rfl) rfl ?_ | refine ws rfl rfl ?_ | refine wj rfl ?_ | refine wk rfl ?_ | refine ww rfl rfl rfl ?_)
    refine Run.condB rfl rfl (fun hb2 => ?_) (fun hb2 => ?_)
    · have hj2 : j < 32 := by simp at hb2; omega
      have gb : (bo bs).get ([] ++ [((j : Int)).toNat]) = .v (.bool (edge g i j)) := by rw [← hba j (by omega)]; exact bo_at (by omega)
      have gi : (ord l).get ([] ++ [((i : Int)).toNat]) = .v (.int .i64 (l.getD i 0)) := ord_at (by omega)
      have gj : (ord l).get ([] ++ [((j : Int)).toNat]) = .v (.int .i64 (l.getD j 0)) := ord_at (by omega)
      repeat (first | apply wa | apply wb | apply wc | apply wd | apply we | apply wf | apply wg | apply wh | apply wi | ((first | refine wl rfl rfl ?_ ?_ | refine wn (wp rfl rfl rfl rfl rfl ?_) rfl ?_ | refine wn (wq agree rfl rfl rfl ?_) rfl ?_ | refine wm rfl rfl rfl ?_ ?_ | refine wo rfl (wp rfl rfl rfl rfl rfl ?_) rfl ?_ | refine wo rfl (wq agree rfl rfl rfl ?_) rfl ?_ | refine wt rfl ?_ ?_ | refine wu rfl ?_ ?_ | refine wv rfl rfl ?_ rfl rfl ?_ | refine xa agree rfl rfl ?_ ?_ | refine xb agree rfl rfl rfl ?_ ?_); try (first | exact trivial | (rw [hgd] <;> rfl) | ((repeat' apply And.intro) <;> first | exact trivial | exact rfl | omega | (simp; done) | (simp; omega)))) | refine wn (wr rfl rfl rfl) rfl ?_ | refine wo rfl (wr rfl rfl rfl) rfl ?_ | refine ws rfl rfl ?_ | refine wj rfl ?_ | refine wk rfl ?_ | refine ww rfl rfl rfl ?_)
      refine Run.ops1 (ld := []) rfl ?_
      repeat (first | apply wa | apply wb | apply wc | apply wd | apply we | apply wf | apply wg | apply wh | apply wi | ((first | refine wl rfl rfl ?_ ?_ | refine wn (wp rfl rfl rfl rfl rfl ?_) rfl ?_ | refine wn (wq agree rfl rfl rfl ?_) rfl ?_ | refine wm rfl rfl rfl ?_ ?_ | refine wo rfl (wp rfl rfl rfl rfl rfl ?_) rfl ?_ | refine wo rfl (wq agree rfl rfl rfl ?_) rfl ?_ | refine wt rfl ?_ ?_ | refine wu rfl ?_ ?_ | refine wv rfl rfl ?_ rfl rfl ?_ | refine xa agree rfl rfl ?_ ?_ | refine xb agree rfl rfl rfl ?_ ?_); try (first | exact trivial | (rw [hgd] <;> rfl) | ((repeat' apply And.intro) <;> first | exact trivial | exact rfl | omega | (simp; done) | (simp; omega)))) | refine wn (wr rfl rfl rfl) rfl ?_ | refine wo rfl (wr rfl rfl rfl) rfl ?_ | refine ws rfl rfl ?_ | refine wj rfl ?_ | refine wk rfl ?_ | refine ww rfl rfl rfl ?_)
      · exact ⟨rfl, rfl, by rw [bools_len, hbl], by omega, by omega⟩
      refine wn (Ev.ldBox rfl (adrOf_sound rfl) (ld_ok (T := 4) gb rfl).1 (ld_ok (T := 4) gb rfl).2) rfl ?_
      first | refine OpsAt.say (d := 22) rfl (y := .v (.bool (edge g i j))) (gb) ?_ | refine Run.say (d := 22) rfl (y := .v (.bool (edge g i j))) (gb) ?_ | refine OpsB.say (d := 22) rfl (y := .v (.bool (edge g i j))) (gb) ?_
      repeat (first | apply wa | apply wb | apply wc | apply wd | apply we | apply wf | apply wg | apply wh | apply wi | ((first | refine wl rfl rfl ?_ ?_ | refine wn (wp rfl rfl rfl rfl rfl ?_) rfl ?_ | refine wn (wq agree rfl rfl rfl ?_) rfl ?_ | refine wm rfl rfl rfl ?_ ?_ | refine wo rfl (wp rfl rfl rfl rfl rfl ?_) rfl ?_ | refine wo rfl (wq agree rfl rfl rfl ?_) rfl ?_ | refine wt rfl ?_ ?_ | refine wu rfl ?_ ?_ | refine wv rfl rfl ?_ rfl rfl ?_ | refine xa agree rfl rfl ?_ ?_ | refine xb agree rfl rfl rfl ?_ ?_); try (first | exact trivial | (rw [hgd] <;> rfl) | ((repeat' apply And.intro) <;> first | exact trivial | exact rfl | omega | (simp; done) | (simp; omega)))) | refine wn (wr rfl rfl rfl) rfl ?_ | refine wo rfl (wr rfl rfl rfl) rfl ?_ | refine ws rfl rfl ?_ | refine wj rfl ?_ | refine wk rfl ?_ | refine ww rfl rfl rfl ?_)
      refine OpsAt.br rfl rfl rfl (fun he => ?_) (fun he => ?_)
      · repeat (first | apply wa | apply wb | apply wc | apply wd | apply we | apply wf | apply wg | apply wh | apply wi | ((first | refine wl rfl rfl ?_ ?_ | refine wn (wp rfl rfl rfl rfl rfl ?_) rfl ?_ | refine wn (wq agree rfl rfl rfl ?_) rfl ?_ | refine wm rfl rfl rfl ?_ ?_ | refine wo rfl (wp rfl rfl rfl rfl rfl ?_) rfl ?_ | refine wo rfl (wq agree rfl rfl rfl ?_) rfl ?_ | refine wt rfl ?_ ?_ | refine wu rfl ?_ ?_ | refine wv rfl rfl ?_ rfl rfl ?_ | refine xa agree rfl rfl ?_ ?_ | refine xb agree rfl rfl rfl ?_ ?_); try (first | exact trivial | (rw [hgd] <;> rfl) | ((repeat' apply And.intro) <;> first | exact trivial | exact rfl | omega | (simp; done) | (simp; omega)))) | refine wn (wr rfl rfl rfl) rfl ?_ | refine wo rfl (wr rfl rfl rfl) rfl ?_ | refine ws rfl rfl ?_ | refine wj rfl ?_ | refine wk rfl ?_ | refine ww rfl rfl rfl ?_)
        · exact ⟨rfl, rfl, by rw [ints_len, hl], by omega, by omega⟩
        refine wo rfl (Ev.ldBox rfl (adrOf_sound rfl) (ld_ok (T := 3) gi rfl).1 (ld_ok (T := 3) gi rfl).2) rfl ?_
        first | refine OpsAt.say (d := 26) rfl (y := .v (.int .i64 (l.getD i 0))) (gi) ?_ | refine Run.say (d := 26) rfl (y := .v (.int .i64 (l.getD i 0))) (gi) ?_ | refine OpsB.say (d := 26) rfl (y := .v (.int .i64 (l.getD i 0))) (gi) ?_
        repeat (first | apply wa | apply wb | apply wc | apply wd | apply we | apply wf | apply wg | apply wh | apply wi | ((first | refine wl rfl rfl ?_ ?_ | refine wn (wp rfl rfl rfl rfl rfl ?_) rfl ?_ | refine wn (wq agree rfl rfl rfl ?_) rfl ?_ | refine wm rfl rfl rfl ?_ ?_ | refine wo rfl (wp rfl rfl rfl rfl rfl ?_) rfl ?_ | refine wo rfl (wq agree rfl rfl rfl ?_) rfl ?_ | refine wt rfl ?_ ?_ | refine wu rfl ?_ ?_ | refine wv rfl rfl ?_ rfl rfl ?_ | refine xa agree rfl rfl ?_ ?_ | refine xb agree rfl rfl rfl ?_ ?_); try (first | exact trivial | (rw [hgd] <;> rfl) | ((repeat' apply And.intro) <;> first | exact trivial | exact rfl | omega | (simp; done) | (simp; omega)))) | refine wn (wr rfl rfl rfl) rfl ?_ | refine wo rfl (wr rfl rfl rfl) rfl ?_ | refine ws rfl rfl ?_ | refine wj rfl ?_ | refine wk rfl ?_ | refine ww rfl rfl rfl ?_)
        · exact ⟨rfl, rfl, by rw [ints_len, hl], by omega, by omega⟩
        refine wo rfl (Ev.ldBox rfl (adrOf_sound rfl) (ld_ok (T := 3) gj rfl).1 (ld_ok (T := 3) gj rfl).2) rfl ?_
        first | refine OpsAt.say (d := 29) rfl (y := .v (.int .i64 (l.getD j 0))) (gj) ?_ | refine Run.say (d := 29) rfl (y := .v (.int .i64 (l.getD j 0))) (gj) ?_ | refine OpsB.say (d := 29) rfl (y := .v (.int .i64 (l.getD j 0))) (gj) ?_
        repeat (first | apply wa | apply wb | apply wc | apply wd | apply we | apply wf | apply wg | apply wh | apply wi | ((first | refine wl rfl rfl ?_ ?_ | refine wn (wp rfl rfl rfl rfl rfl ?_) rfl ?_ | refine wn (wq agree rfl rfl rfl ?_) rfl ?_ | refine wm rfl rfl rfl ?_ ?_ | refine wo rfl (wp rfl rfl rfl rfl rfl ?_) rfl ?_ | refine wo rfl (wq agree rfl rfl rfl ?_) rfl ?_ | refine wt rfl ?_ ?_ | refine wu rfl ?_ ?_ | refine wv rfl rfl ?_ rfl rfl ?_ | refine xa agree rfl rfl ?_ ?_ | refine xb agree rfl rfl rfl ?_ ?_); try (first | exact trivial | (rw [hgd] <;> rfl) | ((repeat' apply And.intro) <;> first | exact trivial | exact rfl | omega | (simp; done) | (simp; omega)))) | refine wn (wr rfl rfl rfl) rfl ?_ | refine wo rfl (wr rfl rfl rfl) rfl ?_ | refine ws rfl rfl ?_ | refine wj rfl ?_ | refine wk rfl ?_ | refine ww rfl rfl rfl ?_)
        refine Run.condB rfl rfl (fun hd => ?_) (fun hd => ?_)
        · have hd' := of_decide_eq_true hd
          repeat (first | apply wa | apply wb | apply wc | apply wd | apply we | apply wf | apply wg | apply wh | apply wi | ((first | refine wl rfl rfl ?_ ?_ | refine wn (wp rfl rfl rfl rfl rfl ?_) rfl ?_ | refine wn (wq agree rfl rfl rfl ?_) rfl ?_ | refine wm rfl rfl rfl ?_ ?_ | refine wo rfl (wp rfl rfl rfl rfl rfl ?_) rfl ?_ | refine wo rfl (wq agree rfl rfl rfl ?_) rfl ?_ | refine wt rfl ?_ ?_ | refine wu rfl ?_ ?_ | refine wv rfl rfl ?_ rfl rfl ?_ | refine xa agree rfl rfl ?_ ?_ | refine xb agree rfl rfl rfl ?_ ?_); try (first | exact trivial | (rw [hgd] <;> rfl) | ((repeat' apply And.intro) <;> first | exact trivial | exact rfl | omega | (simp; done) | (simp; omega)))) | refine wn (wr rfl rfl rfl) rfl ?_ | refine wo rfl (wr rfl rfl rfl) rfl ?_ | refine ws rfl rfl ?_ | refine wj rfl ?_ | refine wk rfl ?_ | refine ww rfl rfl rfl ?_)
          refine wD (wE rfl rfl ?_)
          have : sortedN g l = false := by
            refine Bool.eq_false_iff.2 fun hs => ?_
            unfold sortedN at hs
            rw [Bool.and_eq_true] at hs
            have := (goes_edge g l i).1 (List.all_eq_true.1 hs.1 i (List.mem_range.2 hi2)) j hj2 he
            omega
          rw [this]
        · have hd' := of_decide_eq_false hd
          repeat (first | apply wa | apply wb | apply wc | apply wd | apply we | apply wf | apply wg | apply wh | apply wi | ((first | refine wl rfl rfl ?_ ?_ | refine wn (wp rfl rfl rfl rfl rfl ?_) rfl ?_ | refine wn (wq agree rfl rfl rfl ?_) rfl ?_ | refine wm rfl rfl rfl ?_ ?_ | refine wo rfl (wp rfl rfl rfl rfl rfl ?_) rfl ?_ | refine wo rfl (wq agree rfl rfl rfl ?_) rfl ?_ | refine wt rfl ?_ ?_ | refine wu rfl ?_ ?_ | refine wv rfl rfl ?_ rfl rfl ?_ | refine xa agree rfl rfl ?_ ?_ | refine xb agree rfl rfl rfl ?_ ?_); try (first | exact trivial | (rw [hgd] <;> rfl) | ((repeat' apply And.intro) <;> first | exact trivial | exact rfl | omega | (simp; done) | (simp; omega)))) | refine wn (wr rfl rfl rfl) rfl ?_ | refine wo rfl (wr rfl rfl rfl) rfl ?_ | refine ws rfl rfl ?_ | refine wj rfl ?_ | refine wk rfl ?_ | refine ww rfl rfl rfl ?_)
          first | refine OpsAt.say (d := 7) rfl (y := .v (.int .i64 (j + 1 : Nat))) (by rw [wrap64_in ((j : Int) + 1) (by omega)]; simp) ?_ | refine Run.say (d := 7) rfl (y := .v (.int .i64 (j + 1 : Nat))) (by rw [wrap64_in ((j : Int) + 1) (by omega)]; simp) ?_ | refine OpsB.say (d := 7) rfl (y := .v (.int .i64 (j + 1 : Nat))) (by rw [wrap64_in ((j : Int) + 1) (by omega)]; simp) ?_
          refine Run.keep [2, 3, 4, 5, 6, 7] rfl ?_
          refine ih2 (j + 1) ⟨by omega, fun k hk hke => ?_⟩ (by omega)
          by_cases e : k = j
          · rw [e]; omega
          · exact hall2 k (by omega) hke
      · repeat (first | apply wa | apply wb | apply wc | apply wd | apply we | apply wf | apply wg | apply wh | apply wi | ((first | refine wl rfl rfl ?_ ?_ | refine wn (wp rfl rfl rfl rfl rfl ?_) rfl ?_ | refine wn (wq agree rfl rfl rfl ?_) rfl ?_ | refine wm rfl rfl rfl ?_ ?_ | refine wo rfl (wp rfl rfl rfl rfl rfl ?_) rfl ?_ | refine wo rfl (wq agree rfl rfl rfl ?_) rfl ?_ | refine wt rfl ?_ ?_ | refine wu rfl ?_ ?_ | refine wv rfl rfl ?_ rfl rfl ?_ | refine xa agree rfl rfl ?_ ?_ | refine xb agree rfl rfl rfl ?_ ?_); try (first | exact trivial | (rw [hgd] <;> rfl) | ((repeat' apply And.intro) <;> first | exact trivial | exact rfl | omega | (simp; done) | (simp; omega)))) | refine wn (wr rfl rfl rfl) rfl ?_ | refine wo rfl (wr rfl rfl rfl) rfl ?_ | refine ws rfl rfl ?_ | refine wj rfl ?_ | refine wk rfl ?_ | refine ww rfl rfl rfl ?_)
        first | refine OpsAt.say (d := 7) rfl (y := .v (.int .i64 (j + 1 : Nat))) (by rw [wrap64_in ((j : Int) + 1) (by omega)]; simp) ?_ | refine Run.say (d := 7) rfl (y := .v (.int .i64 (j + 1 : Nat))) (by rw [wrap64_in ((j : Int) + 1) (by omega)]; simp) ?_ | refine OpsB.say (d := 7) rfl (y := .v (.int .i64 (j + 1 : Nat))) (by rw [wrap64_in ((j : Int) + 1) (by omega)]; simp) ?_
        refine Run.keep [2, 3, 4, 5, 6, 7] rfl ?_
        refine ih2 (j + 1) ⟨by omega, fun k hk hke => ?_⟩ (by omega)
        by_cases e : k = j
        · rw [e, he] at hke; cases hke
        · exact hall2 k (by omega) hke
    · have hj2 : j = 32 := by simp at hb2; omega
      subst hj2
      repeat (first | apply wa | apply wb | apply wc | apply wd | apply we | apply wf | apply wg | apply wh | apply wi | ((first | refine wl rfl rfl ?_ ?_ | refine wn (wp rfl rfl rfl rfl rfl ?_) rfl ?_ | refine wn (wq agree rfl rfl rfl ?_) rfl ?_ | refine wm rfl rfl rfl ?_ ?_ | refine wo rfl (wp rfl rfl rfl rfl rfl ?_) rfl ?_ | refine wo rfl (wq agree rfl rfl rfl ?_) rfl ?_ | refine wt rfl ?_ ?_ | refine wu rfl ?_ ?_ | refine wv rfl rfl ?_ rfl rfl ?_ | refine xa agree rfl rfl ?_ ?_ | refine xb agree rfl rfl rfl ?_ ?_); try (first | exact trivial | (rw [hgd] <;> rfl) | ((repeat' apply And.intro) <;> first | exact trivial | exact rfl | omega | (simp; done) | (simp; omega)))) | refine wn (wr rfl rfl rfl) rfl ?_ | refine wo rfl (wr rfl rfl rfl) rfl ?_ | refine ws rfl rfl ?_ | refine wj rfl ?_ | refine wk rfl ?_ | refine ww rfl rfl rfl ?_)
      first | refine OpsAt.say (d := 5) rfl (y := .v (.int .i64 (i + 1 : Nat))) (by rw [wrap64_in ((i : Int) + 1) (by omega)]; simp) ?_ | refine Run.say (d := 5) rfl (y := .v (.int .i64 (i + 1 : Nat))) (by rw [wrap64_in ((i : Int) + 1) (by omega)]; simp) ?_ | refine OpsB.say (d := 5) rfl (y := .v (.int .i64 (i + 1 : Nat))) (by rw [wrap64_in ((i : Int) + 1) (by omega)]; simp) ?_
      refine Run.keep [2, 3, 4, 5] rfl ?_
      refine ih (i + 1) ⟨by omega, fun j hj => ?_⟩ (by omega)
      by_cases e : j = i
      · rw [e]; exact (goes_edge g l i).2 hall2
      · exact hall j (by omega)
  · have hi2 : i = 32 := by simp at hb; omega
    subst hi2
    repeat (first | apply wa | apply wb | apply wc | apply wd | apply we | apply wf | apply wg | apply wh | apply wi | ((first | refine wl rfl rfl ?_ ?_ | refine wn (wp rfl rfl rfl rfl rfl ?_) rfl ?_ | refine wn (wq agree rfl rfl rfl ?_) rfl ?_ | refine wm rfl rfl rfl ?_ ?_ | refine wo rfl (wp rfl rfl rfl rfl rfl ?_) rfl ?_ | refine wo rfl (wq agree rfl rfl rfl ?_) rfl ?_ | refine wt rfl ?_ ?_ | refine wu rfl ?_ ?_ | refine wv rfl rfl ?_ rfl rfl ?_ | refine xa agree rfl rfl ?_ ?_ | refine xb agree rfl rfl rfl ?_ ?_); try (first | exact trivial | (rw [hgd] <;> rfl) | ((repeat' apply And.intro) <;> first | exact trivial | exact rfl | omega | (simp; done) | (simp; omega)))) | refine wn (wr rfl rfl rfl) rfl ?_ | refine wo rfl (wr rfl rfl rfl) rfl ?_ | refine ws rfl rfl ?_ | refine wj rfl ?_ | refine wk rfl ?_ | refine ww rfl rfl rfl ?_)
    · exact ⟨ord_fits hl rfl, ord_pl l⟩
    repeat (first | apply wa | apply wb | apply wc | apply wd | apply we | apply wf | apply wg | apply wh | apply wi | ((first | refine wl rfl rfl ?_ ?_ | refine wn (wp rfl rfl rfl rfl rfl ?_) rfl ?_ | refine wn (wq agree rfl rfl rfl ?_) rfl ?_ | refine wm rfl rfl rfl ?_ ?_ | refine wo rfl (wp rfl rfl rfl rfl rfl ?_) rfl ?_ | refine wo rfl (wq agree rfl rfl rfl ?_) rfl ?_ | refine wt rfl ?_ ?_ | refine wu rfl ?_ ?_ | refine wv rfl rfl ?_ rfl rfl ?_ | refine xa agree rfl rfl ?_ ?_ | refine xb agree rfl rfl rfl ?_ ?_); try (first | exact trivial | (rw [hgd] <;> rfl) | ((repeat' apply And.intro) <;> first | exact trivial | exact rfl | omega | (simp; done) | (simp; omega)))) | refine wn (wr rfl rfl rfl) rfl ?_ | refine wo rfl (wr rfl rfl rfl) rfl ?_ | refine ws rfl rfl ?_ | refine wj rfl ?_ | refine wk rfl ?_ | refine ww rfl rfl rfl ?_)
    have hpl : ((ord l).get []).pl = true := ord_pl l
    refine wn (wA rfl rfl rfl (by repeat' (first | exact trivial | exact rfl | assumption | apply And.intro)) (callable (by decide)) (c_rRight l hl)) rfl ?_
    repeat (first | apply wa | apply wb | apply wc | apply wd | apply we | apply wf | apply wg | apply wh | apply wi | ((first | refine wl rfl rfl ?_ ?_ | refine wn (wp rfl rfl rfl rfl rfl ?_) rfl ?_ | refine wn (wq agree rfl rfl rfl ?_) rfl ?_ | refine wm rfl rfl rfl ?_ ?_ | refine wo rfl (wp rfl rfl rfl rfl rfl ?_) rfl ?_ | refine wo rfl (wq agree rfl rfl rfl ?_) rfl ?_ | refine wt rfl ?_ ?_ | refine wu rfl ?_ ?_ | refine wv rfl rfl ?_ rfl rfl ?_ | refine xa agree rfl rfl ?_ ?_ | refine xb agree rfl rfl rfl ?_ ?_); try (first | exact trivial | (rw [hgd] <;> rfl) | ((repeat' apply And.intro) <;> first | exact trivial | exact rfl | omega | (simp; done) | (simp; omega)))) | refine wn (wr rfl rfl rfl) rfl ?_ | refine wo rfl (wr rfl rfl rfl) rfl ?_ | refine ws rfl rfl ?_ | refine wj rfl ?_ | refine wk rfl ?_ | refine ww rfl rfl rfl ?_)
    refine wD (wE rfl rfl ?_)
    have : (List.range 32).all (fun i => (itemsN (outsN g (i : Int))).all (goes l i)) = true := List.all_eq_true.2 fun j hj => hall j (List.mem_range.1 hj)
    rw [sortedN, this, Bool.true_and]

/-- Who is cut has no edges any more. -/
def cutTo (g : List Nat) (a n : Nat) : List Nat := (List.range 32).map fun j => if j < n then lessN ((g.set a (g.getD a 0 - g.getD a 0 % 4294967296)).getD j 0) (a : Int) else (g.set a (g.getD a 0 - g.getD a 0 % 4294967296)).getD j 0
def cutG (g : List Nat) (a : Nat) : List Nat := cutTo g a 32
theorem cutTo_len (g : List Nat) (a n : Nat) : (cutTo g a n).length = 32 := by simp [cutTo]
theorem low0_lt {s : Nat} (hs : s < M64) : s - s % 4294967296 < M64 := by omega
theorem low0_bit (s k : Nat) (hk : k < 32) : (s - s % 4294967296).testBit k = false := by
  have : s - s % 4294967296 = 2 ^ 32 * (s / 2 ^ 32) := by omega
  rw [this, Nat.testBit_two_pow_mul]
  have : ¬ 32 ≤ k := by omega
  simp [this]
theorem cutTo_gok {g : List Nat} (hg : gok g) (a n : Nat) : gok (cutTo g a n) := by
  have h0 : gok (g.set a (g.getD a 0 - g.getD a 0 % 4294967296)) := hg.set _ (low0_lt (hg.at a))
  refine ⟨cutTo_len _ _ _, fun s hs => ?_⟩
  obtain ⟨j, _, rfl⟩ := List.mem_map.1 hs
  split
  · exact lessN_lt _ _
  · exact h0.at j
theorem cut_edge {g : List Nat} (hg : gok g) {a : Nat} (ha : a < 32) (i k : Nat) : edge (cutG g a) i k = true ↔ edge g i k = true ∧ i ≠ a ∧ k ≠ a := by
  have h0 : gok (g.set a (g.getD a 0 - g.getD a 0 % 4294967296)) := hg.set _ (low0_lt (hg.at a))
  unfold edge
  by_cases hi : i < 32
  · have e1 : (cutG g a).getD i 0 = lessN ((g.set a (g.getD a 0 - g.getD a 0 % 4294967296)).getD i 0) (a : Int) := by simp [cutG, cutTo, hi]
    rw [e1, lessN_bit _ (h0.at i), bit_at (by omega)]
    by_cases e : i = a
    · subst e
      have e2 : (g.set i (g.getD i 0 - g.getD i 0 % 4294967296)).getD i 0 = g.getD i 0 - g.getD i 0 % 4294967296 := by
        rw [List.getD_eq_getElem?_getD]
        simp [hg.1, hi]
      rw [e2]
      by_cases hk : k < 32
      · rw [low0_bit _ _ hk]; simp
      · simp [hk]
    · have e2 : (g.set a (g.getD a 0 - g.getD a 0 % 4294967296)).getD i 0 = g.getD i 0 := by
        rw [List.getD_eq_getElem?_getD, List.getElem?_set_ne (fun h => e h.symm), ← List.getD_eq_getElem?_getD]
      rw [e2]
      by_cases ek : a = k
      · subst ek; simp
      · have ek' : ¬ k = a := fun h => ek h.symm
        simp [e, ek, ek']
  · simp [hi]

theorem c_rCut (g : List Nat) (a : Nat) (ha : a < 32) (hg : gok g) : DFun Tryd.prog 57 [gr g, .v (.int .i64 a)] (gr (cutG g a)) := by
  refine DFun.ofRun agree mixed Tryd.func57 rfl rfl ?_
  repeat (first | apply wa | apply wb | apply wc | apply wd | apply we | apply wf | apply wg | apply wh | apply wi | ((first | refine wl rfl rfl ?_ ?_ | refine wn (wp rfl rfl rfl rfl rfl ?_) rfl ?_ | refine wn (wq agree rfl rfl rfl ?_) rfl ?_ | refine wm rfl rfl rfl ?_ ?_ | refine wo rfl (wp rfl rfl rfl rfl rfl ?_) rfl ?_ | refine wo rfl (wq agree rfl rfl rfl ?_) rfl ?_ | refine wt rfl ?_ ?_ | refine wu rfl ?_ ?_ | refine wv rfl rfl ?_ rfl rfl ?_ | refine xa agree rfl rfl ?_ ?_ | refine xb agree rfl rfl rfl ?_ ?_); try (first | exact trivial | (rw [hgd] <;> rfl) | ((repeat' apply And.intro) <;> first | exact trivial | exact rfl | omega | (simp; done) | (simp; omega)))) | refine wn (wr rfl rfl rfl) rfl ?_ | refine wo rfl (wr rfl rfl rfl) rfl ?_ | refine ws rfl rfl ?_ | refine wj rfl ?_ | refine wk rfl ?_ | refine ww rfl rfl rfl ?_)
  · exact gr_pl g
  repeat (first | apply wa | apply wb | apply wc | apply wd | apply we | apply wf | apply wg | apply wh | apply wi | ((first | refine wl rfl rfl ?_ ?_ | refine wn (wp rfl rfl rfl rfl rfl ?_) rfl ?_ | refine wn (wq agree rfl rfl rfl ?_) rfl ?_ | refine wm rfl rfl rfl ?_ ?_ | refine wo rfl (wp rfl rfl rfl rfl rfl ?_) rfl ?_ | refine wo rfl (wq agree rfl rfl rfl ?_) rfl ?_ | refine wt rfl ?_ ?_ | refine wu rfl ?_ ?_ | refine wv rfl rfl ?_ rfl rfl ?_ | refine xa agree rfl rfl ?_ ?_ | refine xb agree rfl rfl rfl ?_ ?_); try (first | exact trivial | (rw [hgd] <;> rfl) | ((repeat' apply And.intro) <;> first | exact trivial | exact rfl | omega | (simp; done) | (simp; omega)))) | refine wn (wr rfl rfl rfl) rfl ?_ | refine wo rfl (wr rfl rfl rfl) rfl ?_ | refine ws rfl rfl ?_ | refine wj rfl ?_ | refine wk rfl ?_ | refine ww rfl rfl rfl ?_)
  refine wn (wA rfl rfl rfl (by repeat' (first | exact trivial | exact rfl | assumption | apply And.intro)) (callable (by decide)) (c_refNode a)) rfl ?_
  first | refine OpsAt.say (d := 7) rfl (y := .v (.bool true)) (by rw [node_cast]; simp [ha]) ?_ | refine Run.say (d := 7) rfl (y := .v (.bool true)) (by rw [node_cast]; simp [ha]) ?_ | refine OpsB.say (d := 7) rfl (y := .v (.bool true)) (by rw [node_cast]; simp [ha]) ?_
  repeat (first | apply wa | apply wb | apply wc | apply wd | apply we | apply wf | apply wg | apply wh | apply wi | ((first | refine wl rfl rfl ?_ ?_ | refine wn (wp rfl rfl rfl rfl rfl ?_) rfl ?_ | refine wn (wq agree rfl rfl rfl ?_) rfl ?_ | refine wm rfl rfl rfl ?_ ?_ | refine wo rfl (wp rfl rfl rfl rfl rfl ?_) rfl ?_ | refine wo rfl (wq agree rfl rfl rfl ?_) rfl ?_ | refine wt rfl ?_ ?_ | refine wu rfl ?_ ?_ | refine wv rfl rfl ?_ rfl rfl ?_ | refine xa agree rfl rfl ?_ ?_ | refine xb agree rfl rfl rfl ?_ ?_); try (first | exact trivial | (rw [hgd] <;> rfl) | ((repeat' apply And.intro) <;> first | exact trivial | exact rfl | omega | (simp; done) | (simp; omega)))) | refine wn (wr rfl rfl rfl) rfl ?_ | refine wo rfl (wr rfl rfl rfl) rfl ?_ | refine ws rfl rfl ?_ | refine wj rfl ?_ | refine wk rfl ?_ | refine ww rfl rfl rfl ?_)
  have hgd : (gr g).get ([] ++ [((a : Int)).toNat]) = S (g.getD a 0) := gr_at (by rw [hg.1]; exact ha)
  obtain ⟨s, hs0⟩ : ∃ s, s = g.getD a 0 := ⟨_, rfl⟩
  have hs : s < M64 := by rw [hs0]; exact hg.at a
  have h0 : gok (g.set a (g.getD a 0 - g.getD a 0 % 4294967296)) := hg.set _ (low0_lt (hg.at a))
  refine Run.ops1 (ld := [10]) rfl ?_
  repeat (first | apply wa | apply wb | apply wc | apply wd | apply we | apply wf | apply wg | apply wh | apply wi | ((first | refine wl rfl rfl ?_ ?_ | refine wn (wp rfl rfl rfl rfl rfl ?_) rfl ?_ | refine wn (wq agree rfl rfl rfl ?_) rfl ?_ | refine wm rfl rfl rfl ?_ ?_ | refine wo rfl (wp rfl rfl rfl rfl rfl ?_) rfl ?_ | refine wo rfl (wq agree rfl rfl rfl ?_) rfl ?_ | refine wt rfl ?_ ?_ | refine wu rfl ?_ ?_ | refine wv rfl rfl ?_ rfl rfl ?_ | refine xa agree rfl rfl ?_ ?_ | refine xb agree rfl rfl rfl ?_ ?_); try (first | exact trivial | (rw [hgd] <;> rfl) | ((repeat' apply And.intro) <;> first | exact trivial | exact rfl | omega | (simp; done) | (simp; omega)))) | refine wn (wr rfl rfl rfl) rfl ?_ | refine wo rfl (wr rfl rfl rfl) rfl ?_ | refine ws rfl rfl ?_ | refine wj rfl ?_ | refine wk rfl ?_ | refine ww rfl rfl rfl ?_)
  · exact ⟨rfl, rfl, by rw [sets_len, hg.1], by omega, by omega⟩
  refine wn (Ev.ldBox rfl (adrOf_sound rfl) (ld_ok (T := 22) hgd rfl).1 (ld_ok (T := 22) hgd rfl).2) rfl ?_
  first | refine OpsAt.say (d := 13) rfl (y := S s) (by rw [hs0]; exact hgd) ?_ | refine Run.say (d := 13) rfl (y := S s) (by rw [hs0]; exact hgd) ?_ | refine OpsB.say (d := 13) rfl (y := S s) (by rw [hs0]; exact hgd) ?_
  repeat (first | apply wa | apply wb | apply wc | apply wd | apply we | apply wf | apply wg | apply wh | apply wi | ((first | refine wl rfl rfl ?_ ?_ | refine wn (wp rfl rfl rfl rfl rfl ?_) rfl ?_ | refine wn (wq agree rfl rfl rfl ?_) rfl ?_ | refine wm rfl rfl rfl ?_ ?_ | refine wo rfl (wp rfl rfl rfl rfl rfl ?_) rfl ?_ | refine wo rfl (wq agree rfl rfl rfl ?_) rfl ?_ | refine wt rfl ?_ ?_ | refine wu rfl ?_ ?_ | refine wv rfl rfl ?_ rfl rfl ?_ | refine xa agree rfl rfl ?_ ?_ | refine xb agree rfl rfl rfl ?_ ?_); try (first | exact trivial | (rw [hgd] <;> rfl) | ((repeat' apply And.intro) <;> first | exact trivial | exact rfl | omega | (simp; done) | (simp; omega)))) | refine wn (wr rfl rfl rfl) rfl ?_ | refine wo rfl (wr rfl rfl rfl) rfl ?_ | refine ws rfl rfl ?_ | refine wj rfl ?_ | refine wk rfl ?_ | refine ww rfl rfl rfl ?_)
  · exact ⟨rfl, rfl, by rw [sets_len, hg.1], by omega, by omega⟩
  refine wn (Ev.ldBox rfl (adrOf_sound rfl) (ld_ok (T := 22) hgd rfl).1 (ld_ok (T := 22) hgd rfl).2) rfl ?_
  first | refine OpsAt.say (d := 16) rfl (y := S s) (by rw [hs0]; exact hgd) ?_ | refine Run.say (d := 16) rfl (y := S s) (by rw [hs0]; exact hgd) ?_ | refine OpsB.say (d := 16) rfl (y := S s) (by rw [hs0]; exact hgd) ?_
  repeat (first | apply wa | apply wb | apply wc | apply wd | apply we | apply wf | apply wg | apply wh | apply wi | ((first | refine wl rfl rfl ?_ ?_ | refine wn (wp rfl rfl rfl rfl rfl ?_) rfl ?_ | refine wn (wq agree rfl rfl rfl ?_) rfl ?_ | refine wm rfl rfl rfl ?_ ?_ | refine wo rfl (wp rfl rfl rfl rfl rfl ?_) rfl ?_ | refine wo rfl (wq agree rfl rfl rfl ?_) rfl ?_ | refine wt rfl ?_ ?_ | refine wu rfl ?_ ?_ | refine wv rfl rfl ?_ rfl rfl ?_ | refine xa agree rfl rfl ?_ ?_ | refine xb agree rfl rfl rfl ?_ ?_); try (first | exact trivial | (rw [hgd] <;> rfl) | ((repeat' apply And.intro) <;> first | exact trivial | exact rfl | omega | (simp; done) | (simp; omega)))) | refine wn (wr rfl rfl rfl) rfl ?_ | refine wo rfl (wr rfl rfl rfl) rfl ?_ | refine ws rfl rfl ?_ | refine wj rfl ?_ | refine wk rfl ?_ | refine ww rfl rfl rfl ?_)
  · exact ⟨rfl, rfl, by rw [sets_len, hg.1], by omega, by omega⟩
  first | refine OpsAt.say (d := 18) rfl (y := S (s - s % 4294967296)) (by rw [show ((s : Nat) : Int).tmod 4294967296 = ((s % 4294967296 : Nat) : Int) from (Int.ofNat_tmod _ _).symm, show ((s : Nat) : Int) - ((s % 4294967296 : Nat) : Int) = ((s - s % 4294967296 : Nat) : Int) by omega]; exact congrArg (fun z => D.v (.int .u64 z)) (u64_in (low0_lt hs))) ?_ | refine Run.say (d := 18) rfl (y := S (s - s % 4294967296)) (by rw [show ((s : Nat) : Int).tmod 4294967296 = ((s % 4294967296 : Nat) : Int) from (Int.ofNat_tmod _ _).symm, show ((s : Nat) : Int) - ((s % 4294967296 : Nat) : Int) = ((s - s % 4294967296 : Nat) : Int) by omega]; exact congrArg (fun z => D.v (.int .u64 z)) (u64_in (low0_lt hs))) ?_ | refine OpsB.say (d := 18) rfl (y := S (s - s % 4294967296)) (by rw [show ((s : Nat) : Int).tmod 4294967296 = ((s % 4294967296 : Nat) : Int) from (Int.ofNat_tmod _ _).symm, show ((s : Nat) : Int) - ((s % 4294967296 : Nat) : Int) = ((s - s % 4294967296 : Nat) : Int) by omega]; exact congrArg (fun z => D.v (.int .u64 z)) (u64_in (low0_lt hs))) ?_
  refine wv rfl rfl rfl (gr_sto (by rw [hg.1]; exact ha) rfl) rfl ?_
  first | refine OpsAt.sayB (d := 2) rfl (y := gr (g.set a (s - s % 4294967296))) (gr_set g a _) ?_ | refine Run.sayB (d := 2) rfl (y := gr (g.set a (s - s % 4294967296))) (gr_set g a _) ?_
  repeat (first | apply wa | apply wb | apply wc | apply wd | apply we | apply wf | apply wg | apply wh | apply wi | ((first | refine wl rfl rfl ?_ ?_ | refine wn (wp rfl rfl rfl rfl rfl ?_) rfl ?_ | refine wn (wq agree rfl rfl rfl ?_) rfl ?_ | refine wm rfl rfl rfl ?_ ?_ | refine wo rfl (wp rfl rfl rfl rfl rfl ?_) rfl ?_ | refine wo rfl (wq agree rfl rfl rfl ?_) rfl ?_ | refine wt rfl ?_ ?_ | refine wu rfl ?_ ?_ | refine wv rfl rfl ?_ rfl rfl ?_ | refine xa agree rfl rfl ?_ ?_ | refine xb agree rfl rfl rfl ?_ ?_); try (first | exact trivial | (rw [hgd] <;> rfl) | ((repeat' apply And.intro) <;> first | exact trivial | exact rfl | omega | (simp; done) | (simp; omega)))) | refine wn (wr rfl rfl rfl) rfl ?_ | refine wo rfl (wr rfl rfl rfl) rfl ?_ | refine ws rfl rfl ?_ | refine wj rfl ?_ | refine wk rfl ?_ | refine ww rfl rfl rfl ?_)
  refine Run.keep [1, 2, 4, 5] rfl ?_
  have hc0 : cutTo g a 0 = g.set a (s - s % 4294967296) := by
    apply List.ext_getElem?
    intro j
    by_cases hj : j < 32
    · have : j < (g.set a (s - s % 4294967296)).length := by rw [List.length_set, hg.1]; exact hj
      have e : (g.set a (s - s % 4294967296))[j]? = some ((g.set a (s - s % 4294967296)).getD j 0) := by rw [getD_eq this]; exact List.getElem?_eq_getElem this
      rw [e, hs0]
      simp [cutTo, hj]
    · rw [List.getElem?_eq_none (by rw [cutTo_len]; omega), List.getElem?_eq_none (by rw [List.length_set, hg.1]; omega)]
  have hset : ∀ i, i < 32 → (cutTo g a i).set i (lessN ((cutTo g a i).getD i 0) (a : Int)) = cutTo g a (i + 1) := by
    intro i hi
    have hgi : (cutTo g a i).getD i 0 = (g.set a (g.getD a 0 - g.getD a 0 % 4294967296)).getD i 0 := by simp [cutTo, hi]
    rw [hgi]
    apply List.ext_getElem?
    intro j
    rw [List.getElem?_set]
    by_cases h1 : i = j
    · subst h1
      simp [cutTo, hi]
    · by_cases h2 : j < 32
      · have h3 : j < i ↔ j < i + 1 := by omega
        simp [h1, cutTo, h2, h3]
      · simp [h1, cutTo, h2]
  refine Run.at (l' := [(1, .d (.v (.int .i64 (a : Nat)))), (2, .box (gr (cutTo g a 0))), (4, .box (gr (List.replicate 32 0))), (5, .d (.v (.int .i64 (0 : Nat))))]) (by rw [hc0]; rfl) ?_
  refine Run.loopL (α := Nat) (fun i => i ≤ 32) (fun i => [(1, .d (.v (.int .i64 (a : Nat)))), (2, .box (gr (cutTo g a i))), (4, .box (gr (List.replicate 32 0))), (5, .d (.v (.int .i64 i)))]) (fun i => 32 - i) 0 (by decide) ?_
  intro i hi ih
  have hcg := cutTo_gok hg a i
  obtain ⟨c, hc⟩ : ∃ c, c = cutTo g a i := ⟨_, rfl⟩
  rw [← hc] at hcg
  refine Run.at (l' := [(1, .d (.v (.int .i64 (a : Nat)))), (2, .box (gr c)), (4, .box (gr (List.replicate 32 0))), (5, .d (.v (.int .i64 i)))]) (by rw [hc]) ?_
  repeat (first | apply wa | apply wb | apply wc | apply wd | apply we | apply wf | apply wg | apply wh | apply wi | ((first | refine wl rfl rfl ?_ ?_ | refine wn (wp rfl rfl rfl rfl rfl ?_) rfl ?_ | refine wn (wq agree rfl rfl rfl ?_) rfl ?_ | refine wm rfl rfl rfl ?_ ?_ | refine wo rfl (wp rfl rfl rfl rfl rfl ?_) rfl ?_ | refine wo rfl (wq agree rfl rfl rfl ?_) rfl ?_ | refine wt rfl ?_ ?_ | refine wu rfl ?_ ?_ | refine wv rfl rfl ?_ rfl rfl ?_ | refine xa agree rfl rfl ?_ ?_ | refine xb agree rfl rfl rfl ?_ ?_); try (first | exact trivial | (rw [hgd] <;> rfl) | ((repeat' apply And.intro) <;> first | exact trivial | exact rfl | omega | (simp; done) | (simp; omega)))) | refine wn (wr rfl rfl rfl) rfl ?_ | refine wo rfl (wr rfl rfl rfl) rfl ?_ | refine ws rfl rfl ?_ | refine wj rfl ?_ | refine wk rfl ?_ | refine ww rfl rfl rfl ?_)
  refine Run.condB rfl rfl (fun hb => ?_) (fun hb => ?_)
  · have hi2 : i < 32 := by simp at hb; omega
    have gi : (gr c).get ([] ++ [((i : Int)).toNat]) = S (c.getD i 0) := gr_at (by rw [hcg.1]; exact hi2)
    repeat (first | apply wa | apply wb | apply wc | apply wd | apply we | apply wf | apply wg | apply wh | apply wi | ((first | refine wl rfl rfl ?_ ?_ | refine wn (wp rfl rfl rfl rfl rfl ?_) rfl ?_ | refine wn (wq agree rfl rfl rfl ?_) rfl ?_ | refine wm rfl rfl rfl ?_ ?_ | refine wo rfl (wp rfl rfl rfl rfl rfl ?_) rfl ?_ | refine wo rfl (wq agree rfl rfl rfl ?_) rfl ?_ | refine wt rfl ?_ ?_ | refine wu rfl ?_ ?_ | refine wv rfl rfl ?_ rfl rfl ?_ | refine xa agree rfl rfl ?_ ?_ | refine xb agree rfl rfl rfl ?_ ?_); try (first | exact trivial | (rw [hgd] <;> rfl) | ((repeat' apply And.intro) <;> first | exact trivial | exact rfl | omega | (simp; done) | (simp; omega)))) | refine wn (wr rfl rfl rfl) rfl ?_ | refine wo rfl (wr rfl rfl rfl) rfl ?_ | refine ws rfl rfl ?_ | refine wj rfl ?_ | refine wk rfl ?_ | refine ww rfl rfl rfl ?_)
    · exact ⟨rfl, rfl, by rw [sets_len, hcg.1], by omega, by omega⟩
    refine wn (Ev.ldBox rfl (adrOf_sound rfl) (ld_ok (T := 22) gi rfl).1 (ld_ok (T := 22) gi rfl).2) rfl ?_
    first | refine OpsAt.say (d := 27) rfl (y := S (c.getD i 0)) (gi) ?_ | refine Run.say (d := 27) rfl (y := S (c.getD i 0)) (gi) ?_ | refine OpsB.say (d := 27) rfl (y := S (c.getD i 0)) (gi) ?_
    repeat (first | apply wa | apply wb | apply wc | apply wd | apply we | apply wf | apply wg | apply wh | apply wi | ((first | refine wl rfl rfl ?_ ?_ | refine wn (wp rfl rfl rfl rfl rfl ?_) rfl ?_ | refine wn (wq agree rfl rfl rfl ?_) rfl ?_ | refine wm rfl rfl rfl ?_ ?_ | refine wo rfl (wp rfl rfl rfl rfl rfl ?_) rfl ?_ | refine wo rfl (wq agree rfl rfl rfl ?_) rfl ?_ | refine wt rfl ?_ ?_ | refine wu rfl ?_ ?_ | refine wv rfl rfl ?_ rfl rfl ?_ | refine xa agree rfl rfl ?_ ?_ | refine xb agree rfl rfl rfl ?_ ?_); try (first | exact trivial | (rw [hgd] <;> rfl) | ((repeat' apply And.intro) <;> first | exact trivial | exact rfl | omega | (simp; done) | (simp; omega)))) | refine wn (wr rfl rfl rfl) rfl ?_ | refine wo rfl (wr rfl rfl rfl) rfl ?_ | refine ws rfl rfl ?_ | refine wj rfl ?_ | refine wk rfl ?_ | refine ww rfl rfl rfl ?_)
    refine wn (wA rfl rfl rfl (by repeat' (first | exact trivial | exact rfl | assumption | apply And.intro)) (callable (by decide)) (c_rLess (c.getD i 0) a (hcg.at i))) rfl ?_
    repeat (first | apply wa | apply wb | apply wc | apply wd | apply we | apply wf | apply wg | apply wh | apply wi | ((first | refine wl rfl rfl ?_ ?_ | refine wn (wp rfl rfl rfl rfl rfl ?_) rfl ?_ | refine wn (wq agree rfl rfl rfl ?_) rfl ?_ | refine wm rfl rfl rfl ?_ ?_ | refine wo rfl (wp rfl rfl rfl rfl rfl ?_) rfl ?_ | refine wo rfl (wq agree rfl rfl rfl ?_) rfl ?_ | refine wt rfl ?_ ?_ | refine wu rfl ?_ ?_ | refine wv rfl rfl ?_ rfl rfl ?_ | refine xa agree rfl rfl ?_ ?_ | refine xb agree rfl rfl rfl ?_ ?_); try (first | exact trivial | (rw [hgd] <;> rfl) | ((repeat' apply And.intro) <;> first | exact trivial | exact rfl | omega | (simp; done) | (simp; omega)))) | refine wn (wr rfl rfl rfl) rfl ?_ | refine wo rfl (wr rfl rfl rfl) rfl ?_ | refine ws rfl rfl ?_ | refine wj rfl ?_ | refine wk rfl ?_ | refine ww rfl rfl rfl ?_)
    · exact ⟨rfl, rfl, by rw [sets_len, hcg.1], by omega, by omega⟩
    refine wv rfl rfl rfl (gr_sto (by rw [hcg.1]; exact hi2) rfl) rfl ?_
    first | refine OpsAt.sayB (d := 2) rfl (y := gr (cutTo g a (i + 1))) ((gr_set c i _).trans (by rw [hc, hset i hi2])) ?_ | refine Run.sayB (d := 2) rfl (y := gr (cutTo g a (i + 1))) ((gr_set c i _).trans (by rw [hc, hset i hi2])) ?_
    repeat (first | apply wa | apply wb | apply wc | apply wd | apply we | apply wf | apply wg | apply wh | apply wi | ((first | refine wl rfl rfl ?_ ?_ | refine wn (wp rfl rfl rfl rfl rfl ?_) rfl ?_ | refine wn (wq agree rfl rfl rfl ?_) rfl ?_ | refine wm rfl rfl rfl ?_ ?_ | refine wo rfl (wp rfl rfl rfl rfl rfl ?_) rfl ?_ | refine wo rfl (wq agree rfl rfl rfl ?_) rfl ?_ | refine wt rfl ?_ ?_ | refine wu rfl ?_ ?_ | refine wv rfl rfl ?_ rfl rfl ?_ | refine xa agree rfl rfl ?_ ?_ | refine xb agree rfl rfl rfl ?_ ?_); try (first | exact trivial | (rw [hgd] <;> rfl) | ((repeat' apply And.intro) <;> first | exact trivial | exact rfl | omega | (simp; done) | (simp; omega)))) | refine wn (wr rfl rfl rfl) rfl ?_ | refine wo rfl (wr rfl rfl rfl) rfl ?_ | refine ws rfl rfl ?_ | refine wj rfl ?_ | refine wk rfl ?_ | refine ww rfl rfl rfl ?_)
    first | refine OpsAt.say (d := 5) rfl (y := .v (.int .i64 (i + 1 : Nat))) (by rw [wrap64_in ((i : Int) + 1) (by omega)]; simp) ?_ | refine Run.say (d := 5) rfl (y := .v (.int .i64 (i + 1 : Nat))) (by rw [wrap64_in ((i : Int) + 1) (by omega)]; simp) ?_ | refine OpsB.say (d := 5) rfl (y := .v (.int .i64 (i + 1 : Nat))) (by rw [wrap64_in ((i : Int) + 1) (by omega)]; simp) ?_
    refine Run.keep [1, 2, 4, 5] rfl ?_
    exact ih (i + 1) (by omega) (by omega)
  · have hi2 : i = 32 := by simp at hb; omega
    subst hi2
    repeat (first | apply wa | apply wb | apply wc | apply wd | apply we | apply wf | apply wg | apply wh | apply wi | ((first | refine wl rfl rfl ?_ ?_ | refine wn (wp rfl rfl rfl rfl rfl ?_) rfl ?_ | refine wn (wq agree rfl rfl rfl ?_) rfl ?_ | refine wm rfl rfl rfl ?_ ?_ | refine wo rfl (wp rfl rfl rfl rfl rfl ?_) rfl ?_ | refine wo rfl (wq agree rfl rfl rfl ?_) rfl ?_ | refine wt rfl ?_ ?_ | refine wu rfl ?_ ?_ | refine wv rfl rfl ?_ rfl rfl ?_ | refine xa agree rfl rfl ?_ ?_ | refine xb agree rfl rfl rfl ?_ ?_); try (first | exact trivial | (rw [hgd] <;> rfl) | ((repeat' apply And.intro) <;> first | exact trivial | exact rfl | omega | (simp; done) | (simp; omega)))) | refine wn (wr rfl rfl rfl) rfl ?_ | refine wo rfl (wr rfl rfl rfl) rfl ?_ | refine ws rfl rfl ?_ | refine wj rfl ?_ | refine wk rfl ?_ | refine ww rfl rfl rfl ?_)
    · exact ⟨gr_fits hcg.1 rfl, gr_pl _⟩
    refine wv rfl rfl (gr_pl _) (gr_stoAll (z := List.replicate 32 0) hcg.1 rfl rfl) rfl ?_
    repeat (first | apply wa | apply wb | apply wc | apply wd | apply we | apply wf | apply wg | apply wh | apply wi | ((first | refine wl rfl rfl ?_ ?_ | refine wn (wp rfl rfl rfl rfl rfl ?_) rfl ?_ | refine wn (wq agree rfl rfl rfl ?_) rfl ?_ | refine wm rfl rfl rfl ?_ ?_ | refine wo rfl (wp rfl rfl rfl rfl rfl ?_) rfl ?_ | refine wo rfl (wq agree rfl rfl rfl ?_) rfl ?_ | refine wt rfl ?_ ?_ | refine wu rfl ?_ ?_ | refine wv rfl rfl ?_ rfl rfl ?_ | refine xa agree rfl rfl ?_ ?_ | refine xb agree rfl rfl rfl ?_ ?_); try (first | exact trivial | (rw [hgd] <;> rfl) | ((repeat' apply And.intro) <;> first | exact trivial | exact rfl | omega | (simp; done) | (simp; omega)))) | refine wn (wr rfl rfl rfl) rfl ?_ | refine wo rfl (wr rfl rfl rfl) rfl ?_ | refine ws rfl rfl ?_ | refine wj rfl ?_ | refine wk rfl ?_ | refine ww rfl rfl rfl ?_)
    exact wD (Ends.cellE agree rfl rfl (by rw [Bool.and_eq_true]; exact ⟨gr_fits hcg.1 rfl, gr_pl _⟩) (by rw [hc]; rfl))
end Go.Proofs.YthiicbpoahilcaaDoor

namespace Go.Proofs.YthiicbpoahilcaaDoor
open Go Go.Dat

def outB (l : List Int) (lo hi : Int) (i : Nat) : Bool := decide (l.getD i 0 < lo) || decide (hi < l.getD i 0)
def wTo (g : List Nat) (l : List Int) (lo hi : Int) (n : Nat) : List Nat := (List.range n).foldl (fun m i => if outB l lo hi i then cutG m i else m) g
theorem wTo_succ (g : List Nat) (l : List Int) (lo hi : Int) (n : Nat) : wTo g l lo hi (n + 1) = if outB l lo hi n then cutG (wTo g l lo hi n) n else wTo g l lo hi n := by
  unfold wTo
  rw [List.range_succ, List.foldl_append]
  rfl
theorem wTo_gok {g : List Nat} (hg : gok g) (l : List Int) (lo hi : Int) : ∀ n, gok (wTo g l lo hi n)
  | 0 => hg
  | n + 1 => by
    rw [wTo_succ]
    split
    · exact cutTo_gok (wTo_gok hg l lo hi n) n 32
    · exact wTo_gok hg l lo hi n
theorem wTo_edge {g : List Nat} (hg : gok g) (l : List Int) (lo hi : Int) (i k : Nat) : ∀ n, n ≤ 32 → (edge (wTo g l lo hi n) i k = true ↔ edge g i k = true ∧ ∀ j, j < n → outB l lo hi j = true → i ≠ j ∧ k ≠ j)
  | 0, _ => ⟨fun h => ⟨h, fun j hj => absurd hj (by omega)⟩, fun h => h.1⟩
  | n + 1, hn => by
    have ih := wTo_edge hg l lo hi i k n (by omega)
    rw [wTo_succ]
    split
    · next ho =>
      rw [cut_edge (wTo_gok hg l lo hi n) (by omega), ih]
      constructor
      · rintro ⟨⟨h1, h2⟩, h3⟩
        refine ⟨h1, fun j hj hoj => ?_⟩
        by_cases e : j = n
        · rw [e]; exact h3
        · exact h2 j (by omega) hoj
      · rintro ⟨h1, h2⟩
        exact ⟨⟨h1, fun j hj => h2 j (by omega)⟩, h2 n (by omega) ho⟩
    · next ho =>
      rw [ih]
      constructor
      · rintro ⟨h1, h2⟩
        refine ⟨h1, fun j hj hoj => ?_⟩
        by_cases e : j = n
        · rw [e] at hoj; exact absurd hoj ho
        · exact h2 j (by omega) hoj
      · rintro ⟨h1, h2⟩
        exact ⟨h1, fun j hj => h2 j (by omega)⟩
theorem within_edge {g : List Nat} (hg : gok g) (l : List Int) (lo hi : Int) (i k : Nat) : edge (wTo g l lo hi 32) i k = true ↔ edge g i k = true ∧ outB l lo hi i = false ∧ outB l lo hi k = false := by
  rw [wTo_edge hg l lo hi i k 32 (Nat.le_refl _)]
  constructor
  · rintro ⟨h1, h2⟩
    have hik : i < 32 ∧ k < 32 := by simp only [edge, Bool.and_eq_true, decide_eq_true_eq] at h1; exact h1.1
    exact ⟨h1, Bool.eq_false_iff.2 fun h => (h2 i hik.1 h).1 rfl, Bool.eq_false_iff.2 fun h => (h2 k hik.2 h).2 rfl⟩
  · rintro ⟨h1, h2, h3⟩
    refine ⟨h1, fun j _ hoj => ⟨?_, ?_⟩⟩
    · rintro rfl; rw [h2] at hoj; cases hoj
    · rintro rfl; rw [h3] at hoj; cases hoj

theorem c_within (g : List Nat) (l : List Int) (lo hi : Int) (hg : gok g) (hl : l.length = 32) : DFun Tryd.prog 39 [gr g, ord l, .v (.int .i64 lo), .v (.int .i64 hi)] (gr (wTo g l lo hi 32)) := by
  refine DFun.ofRun agree mixed Tryd.func39 rfl rfl ?_
  repeat (first | apply wa | apply wb | apply wc | apply wd | apply we | apply wf | apply wg | apply wh | apply wi | ((first | refine wl rfl rfl ?_ ?_ | refine wn (wp rfl rfl rfl rfl rfl ?_) rfl ?_ | refine wn (wq agree rfl rfl rfl ?_) rfl ?_ | refine wm rfl rfl rfl ?_ ?_ | refine wo rfl (wp rfl rfl rfl rfl rfl ?_) rfl ?_ | refine wo rfl (wq agree rfl rfl rfl ?_) rfl ?_ | refine wt rfl ?_ ?_ | refine wu rfl ?_ ?_ | refine wv rfl rfl ?_ rfl rfl ?_ | refine xa agree rfl rfl ?_ ?_ | refine xb agree rfl rfl rfl ?_ ?_); try (first | exact trivial | (rw [hgd] <;> rfl) | ((repeat' apply And.intro) <;> first | exact trivial | exact rfl | omega | (simp; done) | (simp; omega)))) | refine wn (wr rfl rfl rfl) rfl ?_ | refine wo rfl (wr rfl rfl rfl) rfl ?_ | refine ws rfl rfl ?_ | refine wj rfl ?_ | refine wk rfl ?_ | refine ww rfl rfl rfl ?_)
  · exact gr_pl g
  repeat (first | apply wa | apply wb | apply wc | apply wd | apply we | apply wf | apply wg | apply wh | apply wi | ((first | refine wl rfl rfl ?_ ?_ | refine wn (wp rfl rfl rfl rfl rfl ?_) rfl ?_ | refine wn (wq agree rfl rfl rfl ?_) rfl ?_ | refine wm rfl rfl rfl ?_ ?_ | refine wo rfl (wp rfl rfl rfl rfl rfl ?_) rfl ?_ | refine wo rfl (wq agree rfl rfl rfl ?_) rfl ?_ | refine wt rfl ?_ ?_ | refine wu rfl ?_ ?_ | refine wv rfl rfl ?_ rfl rfl ?_ | refine xa agree rfl rfl ?_ ?_ | refine xb agree rfl rfl rfl ?_ ?_); try (first | exact trivial | (rw [hgd] <;> rfl) | ((repeat' apply And.intro) <;> first | exact trivial | exact rfl | omega | (simp; done) | (simp; omega)))) | refine wn (wr rfl rfl rfl) rfl ?_ | refine wo rfl (wr rfl rfl rfl) rfl ?_ | refine ws rfl rfl ?_ | refine wj rfl ?_ | refine wk rfl ?_ | refine ww rfl rfl rfl ?_)
  · exact ord_pl l
  repeat (first | apply wa | apply wb | apply wc | apply wd | apply we | apply wf | apply wg | apply wh | apply wi | ((first | refine wl rfl rfl ?_ ?_ | refine wn (wp rfl rfl rfl rfl rfl ?_) rfl ?_ | refine wn (wq agree rfl rfl rfl ?_) rfl ?_ | refine wm rfl rfl rfl ?_ ?_ | refine wo rfl (wp rfl rfl rfl rfl rfl ?_) rfl ?_ | refine wo rfl (wq agree rfl rfl rfl ?_) rfl ?_ | refine wt rfl ?_ ?_ | refine wu rfl ?_ ?_ | refine wv rfl rfl ?_ rfl rfl ?_ | refine xa agree rfl rfl ?_ ?_ | refine xb agree rfl rfl rfl ?_ ?_); try (first | exact trivial | (rw [hgd] <;> rfl) | ((repeat' apply And.intro) <;> first | exact trivial | exact rfl | omega | (simp; done) | (simp; omega)))) | refine wn (wr rfl rfl rfl) rfl ?_ | refine wo rfl (wr rfl rfl rfl) rfl ?_ | refine ws rfl rfl ?_ | refine wj rfl ?_ | refine wk rfl ?_ | refine ww rfl rfl rfl ?_)
  refine Run.keep [2, 3, 4, 5, 8, 9] rfl ?_
  refine Run.at (l' := [(2, .d (.v (.int .i64 lo))), (3, .d (.v (.int .i64 hi))), (4, .box (gr (wTo g l lo hi 0))), (5, .box (ord l)), (8, .box (gr (List.replicate 32 0))), (9, .d (.v (.int .i64 (0 : Nat))))]) rfl ?_
  refine Run.loopL (α := Nat) (fun i => i ≤ 32) (fun i => [(2, .d (.v (.int .i64 lo))), (3, .d (.v (.int .i64 hi))), (4, .box (gr (wTo g l lo hi i))), (5, .box (ord l)), (8, .box (gr (List.replicate 32 0))), (9, .d (.v (.int .i64 i)))]) (fun i => 32 - i) 0 (by decide) ?_
  intro i hi1 ih
  have hcg := wTo_gok hg l lo hi i
  obtain ⟨c, hc⟩ : ∃ c, c = wTo g l lo hi i := ⟨_, rfl⟩
  rw [← hc] at hcg
  refine Run.at (l' := [(2, .d (.v (.int .i64 lo))), (3, .d (.v (.int .i64 hi))), (4, .box (gr c)), (5, .box (ord l)), (8, .box (gr (List.replicate 32 0))), (9, .d (.v (.int .i64 i)))]) (by rw [hc]) ?_
  repeat (first | apply wa | apply wb | apply wc | apply wd | apply we | apply wf | apply wg | apply wh | apply wi | ((first | refine wl rfl rfl ?_ ?_ | refine wn (wp rfl rfl rfl rfl rfl ?_) rfl ?_ | refine wn (wq agree rfl rfl rfl ?_) rfl ?_ | refine wm rfl rfl rfl ?_ ?_ | refine wo rfl (wp rfl rfl rfl rfl rfl ?_) rfl ?_ | refine wo rfl (wq agree rfl rfl rfl ?_) rfl ?_ | refine wt rfl ?_ ?_ | refine wu rfl ?_ ?_ | refine wv rfl rfl ?_ rfl rfl ?_ | refine xa agree rfl rfl ?_ ?_ | refine xb agree rfl rfl rfl ?_ ?_); try (first | exact trivial | (rw [hgd] <;> rfl) | ((repeat' apply And.intro) <;> first | exact trivial | exact rfl | omega | (simp; done) | (simp; omega)))) | refine wn (wr rfl rfl rfl) rfl ?_ | refine wo rfl (wr rfl rfl rfl) rfl ?_ | refine ws rfl rfl ?_ | refine wj rfl ?_ | refine wk rfl ?_ | refine ww rfl rfl rfl ?_)
  refine Run.condB rfl rfl (fun hb => ?_) (fun hb => ?_)
  · have hi2 : i < 32 := by simp at hb; omega
    have gi : (ord l).get ([] ++ [((i : Int)).toNat]) = .v (.int .i64 (l.getD i 0)) := ord_at (by omega)
    have hsucc := wTo_succ g l lo hi i
    rw [← hc] at hsucc
    repeat (first | apply wa | apply wb | apply wc | apply wd | apply we | apply wf | apply wg | apply wh | apply wi | ((first | refine wl rfl rfl ?_ ?_ | refine wn (wp rfl rfl rfl rfl rfl ?_) rfl ?_ | refine wn (wq agree rfl rfl rfl ?_) rfl ?_ | refine wm rfl rfl rfl ?_ ?_ | refine wo rfl (wp rfl rfl rfl rfl rfl ?_) rfl ?_ | refine wo rfl (wq agree rfl rfl rfl ?_) rfl ?_ | refine wt rfl ?_ ?_ | refine wu rfl ?_ ?_ | refine wv rfl rfl ?_ rfl rfl ?_ | refine xa agree rfl rfl ?_ ?_ | refine xb agree rfl rfl rfl ?_ ?_); try (first | exact trivial | (rw [hgd] <;> rfl) | ((repeat' apply And.intro) <;> first | exact trivial | exact rfl | omega | (simp; done) | (simp; omega)))) | refine wn (wr rfl rfl rfl) rfl ?_ | refine wo rfl (wr rfl rfl rfl) rfl ?_ | refine ws rfl rfl ?_ | refine wj rfl ?_ | refine wk rfl ?_ | refine ww rfl rfl rfl ?_)
    · exact ⟨rfl, rfl, by rw [ints_len, hl], by omega, by omega⟩
    refine wn (Ev.ldBox rfl (adrOf_sound rfl) (ld_ok (T := 3) gi rfl).1 (ld_ok (T := 3) gi rfl).2) rfl ?_
    first | refine OpsAt.say (d := 16) rfl (y := .v (.int .i64 (l.getD i 0))) (gi) ?_ | refine Run.say (d := 16) rfl (y := .v (.int .i64 (l.getD i 0))) (gi) ?_ | refine OpsB.say (d := 16) rfl (y := .v (.int .i64 (l.getD i 0))) (gi) ?_
    repeat (first | apply wa | apply wb | apply wc | apply wd | apply we | apply wf | apply wg | apply wh | apply wi | ((first | refine wl rfl rfl ?_ ?_ | refine wn (wp rfl rfl rfl rfl rfl ?_) rfl ?_ | refine wn (wq agree rfl rfl rfl ?_) rfl ?_ | refine wm rfl rfl rfl ?_ ?_ | refine wo rfl (wp rfl rfl rfl rfl rfl ?_) rfl ?_ | refine wo rfl (wq agree rfl rfl rfl ?_) rfl ?_ | refine wt rfl ?_ ?_ | refine wu rfl ?_ ?_ | refine wv rfl rfl ?_ rfl rfl ?_ | refine xa agree rfl rfl ?_ ?_ | refine xb agree rfl rfl rfl ?_ ?_); try (first | exact trivial | (rw [hgd] <;> rfl) | ((repeat' apply And.intro) <;> first | exact trivial | exact rfl | omega | (simp; done) | (simp; omega)))) | refine wn (wr rfl rfl rfl) rfl ?_ | refine wo rfl (wr rfl rfl rfl) rfl ?_ | refine ws rfl rfl ?_ | refine wj rfl ?_ | refine wk rfl ?_ | refine ww rfl rfl rfl ?_)
    refine OpsAt.br rfl rfl rfl (fun h1 => ?_) (fun h1 => ?_)
    · have hout : outB l lo hi i = true := by rw [outB, h1, Bool.true_or]
      rw [if_pos hout] at hsucc
      have hc2 := cutTo_gok hcg i 32
      repeat (first | apply wa | apply wb | apply wc | apply wd | apply we | apply wf | apply wg | apply wh | apply wi | ((first | refine wl rfl rfl ?_ ?_ | refine wn (wp rfl rfl rfl rfl rfl ?_) rfl ?_ | refine wn (wq agree rfl rfl rfl ?_) rfl ?_ | refine wm rfl rfl rfl ?_ ?_ | refine wo rfl (wp rfl rfl rfl rfl rfl ?_) rfl ?_ | refine wo rfl (wq agree rfl rfl rfl ?_) rfl ?_ | refine wt rfl ?_ ?_ | refine wu rfl ?_ ?_ | refine wv rfl rfl ?_ rfl rfl ?_ | refine xa agree rfl rfl ?_ ?_ | refine xb agree rfl rfl rfl ?_ ?_); try (first | exact trivial | (rw [hgd] <;> rfl) | ((repeat' apply And.intro) <;> first | exact trivial | exact rfl | omega | (simp; done) | (simp; omega)))) | refine wn (wr rfl rfl rfl) rfl ?_ | refine wo rfl (wr rfl rfl rfl) rfl ?_ | refine ws rfl rfl ?_ | refine wj rfl ?_ | refine wk rfl ?_ | refine ww rfl rfl rfl ?_)
      · exact ⟨gr_fits hcg.1 rfl, gr_pl _⟩
      repeat (first | apply wa | apply wb | apply wc | apply wd | apply we | apply wf | apply wg | apply wh | apply wi | ((first | refine wl rfl rfl ?_ ?_ | refine wn (wp rfl rfl rfl rfl rfl ?_) rfl ?_ | refine wn (wq agree rfl rfl rfl ?_) rfl ?_ | refine wm rfl rfl rfl ?_ ?_ | refine wo rfl (wp rfl rfl rfl rfl rfl ?_) rfl ?_ | refine wo rfl (wq agree rfl rfl rfl ?_) rfl ?_ | refine wt rfl ?_ ?_ | refine wu rfl ?_ ?_ | refine wv rfl rfl ?_ rfl rfl ?_ | refine xa agree rfl rfl ?_ ?_ | refine xb agree rfl rfl rfl ?_ ?_); try (first | exact trivial | (rw [hgd] <;> rfl) | ((repeat' apply And.intro) <;> first | exact trivial | exact rfl | omega | (simp; done) | (simp; omega)))) | refine wn (wr rfl rfl rfl) rfl ?_ | refine wo rfl (wr rfl rfl rfl) rfl ?_ | refine ws rfl rfl ?_ | refine wj rfl ?_ | refine wk rfl ?_ | refine ww rfl rfl rfl ?_)
      have hpl : ((gr c).get []).pl = true := gr_pl _
      refine wn (wA rfl rfl rfl (by repeat' (first | exact trivial | exact rfl | assumption | apply And.intro)) (callable (by decide)) (c_rCut c i hi2 hcg)) rfl ?_
      refine wv rfl rfl (gr_pl _) (gr_stoAll (z := c) hc2.1 hcg.1 rfl) rfl ?_
      first | refine OpsAt.sayB (d := 4) rfl (y := gr (wTo g l lo hi (i + 1))) (by rw [hsucc]; rfl) ?_ | refine Run.sayB (d := 4) rfl (y := gr (wTo g l lo hi (i + 1))) (by rw [hsucc]; rfl) ?_
      repeat (first | apply wa | apply wb | apply wc | apply wd | apply we | apply wf | apply wg | apply wh | apply wi | ((first | refine wl rfl rfl ?_ ?_ | refine wn (wp rfl rfl rfl rfl rfl ?_) rfl ?_ | refine wn (wq agree rfl rfl rfl ?_) rfl ?_ | refine wm rfl rfl rfl ?_ ?_ | refine wo rfl (wp rfl rfl rfl rfl rfl ?_) rfl ?_ | refine wo rfl (wq agree rfl rfl rfl ?_) rfl ?_ | refine wt rfl ?_ ?_ | refine wu rfl ?_ ?_ | refine wv rfl rfl ?_ rfl rfl ?_ | refine xa agree rfl rfl ?_ ?_ | refine xb agree rfl rfl rfl ?_ ?_); try (first | exact trivial | (rw [hgd] <;> rfl) | ((repeat' apply And.intro) <;> first | exact trivial | exact rfl | omega | (simp; done) | (simp; omega)))) | refine wn (wr rfl rfl rfl) rfl ?_ | refine wo rfl (wr rfl rfl rfl) rfl ?_ | refine ws rfl rfl ?_ | refine wj rfl ?_ | refine wk rfl ?_ | refine ww rfl rfl rfl ?_)
      first | refine OpsAt.say (d := 9) rfl (y := .v (.int .i64 (i + 1 : Nat))) (by rw [wrap64_in ((i : Int) + 1) (by omega)]; simp) ?_ | refine Run.say (d := 9) rfl (y := .v (.int .i64 (i + 1 : Nat))) (by rw [wrap64_in ((i : Int) + 1) (by omega)]; simp) ?_ | refine OpsB.say (d := 9) rfl (y := .v (.int .i64 (i + 1 : Nat))) (by rw [wrap64_in ((i : Int) + 1) (by omega)]; simp) ?_
      refine Run.keep [2, 3, 4, 5, 8, 9] rfl ?_
      exact ih (i + 1) (by omega) (by omega)
    · repeat (first | apply wa | apply wb | apply wc | apply wd | apply we | apply wf | apply wg | apply wh | apply wi | ((first | refine wl rfl rfl ?_ ?_ | refine wn (wp rfl rfl rfl rfl rfl ?_) rfl ?_ | refine wn (wq agree rfl rfl rfl ?_) rfl ?_ | refine wm rfl rfl rfl ?_ ?_ | refine wo rfl (wp rfl rfl rfl rfl rfl ?_) rfl ?_ | refine wo rfl (wq agree rfl rfl rfl ?_) rfl ?_ | refine wt rfl ?_ ?_ | refine wu rfl ?_ ?_ | refine wv rfl rfl ?_ rfl rfl ?_ | refine xa agree rfl rfl ?_ ?_ | refine xb agree rfl rfl rfl ?_ ?_); try (first | exact trivial | (rw [hgd] <;> rfl) | ((repeat' apply And.intro) <;> first | exact trivial | exact rfl | omega | (simp; done) | (simp; omega)))) | refine wn (wr rfl rfl rfl) rfl ?_ | refine wo rfl (wr rfl rfl rfl) rfl ?_ | refine ws rfl rfl ?_ | refine wj rfl ?_ | refine wk rfl ?_ | refine ww rfl rfl rfl ?_)
      · exact ⟨rfl, rfl, by rw [ints_len, hl], by omega, by omega⟩
      refine wo rfl (Ev.ldBox rfl (adrOf_sound rfl) (ld_ok (T := 3) gi rfl).1 (ld_ok (T := 3) gi rfl).2) rfl ?_
      first | refine OpsAt.say (d := 22) rfl (y := .v (.int .i64 (l.getD i 0))) (gi) ?_ | refine Run.say (d := 22) rfl (y := .v (.int .i64 (l.getD i 0))) (gi) ?_ | refine OpsB.say (d := 22) rfl (y := .v (.int .i64 (l.getD i 0))) (gi) ?_
      repeat (first | apply wa | apply wb | apply wc | apply wd | apply we | apply wf | apply wg | apply wh | apply wi | ((first | refine wl rfl rfl ?_ ?_ | refine wn (wp rfl rfl rfl rfl rfl ?_) rfl ?_ | refine wn (wq agree rfl rfl rfl ?_) rfl ?_ | refine wm rfl rfl rfl ?_ ?_ | refine wo rfl (wp rfl rfl rfl rfl rfl ?_) rfl ?_ | refine wo rfl (wq agree rfl rfl rfl ?_) rfl ?_ | refine wt rfl ?_ ?_ | refine wu rfl ?_ ?_ | refine wv rfl rfl ?_ rfl rfl ?_ | refine xa agree rfl rfl ?_ ?_ | refine xb agree rfl rfl rfl ?_ ?_); try (first | exact trivial | (rw [hgd] <;> rfl) | ((repeat' apply And.intro) <;> first | exact trivial | exact rfl | omega | (simp; done) | (simp; omega)))) | refine wn (wr rfl rfl rfl) rfl ?_ | refine wo rfl (wr rfl rfl rfl) rfl ?_ | refine ws rfl rfl ?_ | refine wj rfl ?_ | refine wk rfl ?_ | refine ww rfl rfl rfl ?_)
      refine Run.condB rfl rfl (fun h2 => ?_) (fun h2 => ?_)
      · have hout : outB l lo hi i = true := by rw [outB, h2, Bool.or_true]
        rw [if_pos hout] at hsucc
        have hc2 := cutTo_gok hcg i 32
        repeat (first | apply wa | apply wb | apply wc | apply wd | apply we | apply wf | apply wg | apply wh | apply wi | ((first | refine wl rfl rfl ?_ ?_ | refine wn (wp rfl rfl rfl rfl rfl ?_) rfl ?_ | refine wn (wq agree rfl rfl rfl ?_) rfl ?_ | refine wm rfl rfl rfl ?_ ?_ | refine wo rfl (wp rfl rfl rfl rfl rfl ?_) rfl ?_ | refine wo rfl (wq agree rfl rfl rfl ?_) rfl ?_ | refine wt rfl ?_ ?_ | refine wu rfl ?_ ?_ | refine wv rfl rfl ?_ rfl rfl ?_ | refine xa agree rfl rfl ?_ ?_ | refine xb agree rfl rfl rfl ?_ ?_); try (first | exact trivial | (rw [hgd] <;> rfl) | ((repeat' apply And.intro) <;> first | exact trivial | exact rfl | omega | (simp; done) | (simp; omega)))) | refine wn (wr rfl rfl rfl) rfl ?_ | refine wo rfl (wr rfl rfl rfl) rfl ?_ | refine ws rfl rfl ?_ | refine wj rfl ?_ | refine wk rfl ?_ | refine ww rfl rfl rfl ?_)
        · exact ⟨gr_fits hcg.1 rfl, gr_pl _⟩
        repeat (first | apply wa | apply wb | apply wc | apply wd | apply we | apply wf | apply wg | apply wh | apply wi | ((first | refine wl rfl rfl ?_ ?_ | refine wn (wp rfl rfl rfl rfl rfl ?_) rfl ?_ | refine wn (wq agree rfl rfl rfl ?_) rfl ?_ | refine wm rfl rfl rfl ?_ ?_ | refine wo rfl (wp rfl rfl rfl rfl rfl ?_) rfl ?_ | refine wo rfl (wq agree rfl rfl rfl ?_) rfl ?_ | refine wt rfl ?_ ?_ | refine wu rfl ?_ ?_ | refine wv rfl rfl ?_ rfl rfl ?_ | refine xa agree rfl rfl ?_ ?_ | refine xb agree rfl rfl rfl ?_ ?_); try (first | exact trivial | (rw [hgd] <;> rfl) | ((repeat' apply And.intro) <;> first | exact trivial | exact rfl | omega | (simp; done) | (simp; omega)))) | refine wn (wr rfl rfl rfl) rfl ?_ | refine wo rfl (wr rfl rfl rfl) rfl ?_ | refine ws rfl rfl ?_ | refine wj rfl ?_ | refine wk rfl ?_ | refine ww rfl rfl rfl ?_)
        have hpl : ((gr c).get []).pl = true := gr_pl _
        refine wn (wA rfl rfl rfl (by repeat' (first | exact trivial | exact rfl | assumption | apply And.intro)) (callable (by decide)) (c_rCut c i hi2 hcg)) rfl ?_
        refine wv rfl rfl (gr_pl _) (gr_stoAll (z := c) hc2.1 hcg.1 rfl) rfl ?_
        first | refine OpsAt.sayB (d := 4) rfl (y := gr (wTo g l lo hi (i + 1))) (by rw [hsucc]; rfl) ?_ | refine Run.sayB (d := 4) rfl (y := gr (wTo g l lo hi (i + 1))) (by rw [hsucc]; rfl) ?_
        repeat (first | apply wa | apply wb | apply wc | apply wd | apply we | apply wf | apply wg | apply wh | apply wi | ((first | refine wl rfl rfl ?_ ?_ | refine wn (wp rfl rfl rfl rfl rfl ?_) rfl ?_ | refine wn (wq agree rfl rfl rfl ?_) rfl ?_ | refine wm rfl rfl rfl ?_ ?_ | refine wo rfl (wp rfl rfl rfl rfl rfl ?_) rfl ?_ | refine wo rfl (wq agree rfl rfl rfl ?_) rfl ?_ | refine wt rfl ?_ ?_ | refine wu rfl ?_ ?_ | refine wv rfl rfl ?_ rfl rfl ?_ | refine xa agree rfl rfl ?_ ?_ | refine xb agree rfl rfl rfl ?_ ?_); try (first | exact trivial | (rw [hgd] <;> rfl) | ((repeat' apply And.intro) <;> first | exact trivial | exact rfl | omega | (simp; done) | (simp; omega)))) | refine wn (wr rfl rfl rfl) rfl ?_ | refine wo rfl (wr rfl rfl rfl) rfl ?_ | refine ws rfl rfl ?_ | refine wj rfl ?_ | refine wk rfl ?_ | refine ww rfl rfl rfl ?_)
        first | refine OpsAt.say (d := 9) rfl (y := .v (.int .i64 (i + 1 : Nat))) (by rw [wrap64_in ((i : Int) + 1) (by omega)]; simp) ?_ | refine Run.say (d := 9) rfl (y := .v (.int .i64 (i + 1 : Nat))) (by rw [wrap64_in ((i : Int) + 1) (by omega)]; simp) ?_ | refine OpsB.say (d := 9) rfl (y := .v (.int .i64 (i + 1 : Nat))) (by rw [wrap64_in ((i : Int) + 1) (by omega)]; simp) ?_
        refine Run.keep [2, 3, 4, 5, 8, 9] rfl ?_
        exact ih (i + 1) (by omega) (by omega)
      · have hout : outB l lo hi i = false := by rw [outB, h1, h2]; rfl
        rw [hout] at hsucc
        repeat (first | apply wa | apply wb | apply wc | apply wd | apply we | apply wf | apply wg | apply wh | apply wi | ((first | refine wl rfl rfl ?_ ?_ | refine wn (wp rfl rfl rfl rfl rfl ?_) rfl ?_ | refine wn (wq agree rfl rfl rfl ?_) rfl ?_ | refine wm rfl rfl rfl ?_ ?_ | refine wo rfl (wp rfl rfl rfl rfl rfl ?_) rfl ?_ | refine wo rfl (wq agree rfl rfl rfl ?_) rfl ?_ | refine wt rfl ?_ ?_ | refine wu rfl ?_ ?_ | refine wv rfl rfl ?_ rfl rfl ?_ | refine xa agree rfl rfl ?_ ?_ | refine xb agree rfl rfl rfl ?_ ?_); try (first | exact trivial | (rw [hgd] <;> rfl) | ((repeat' apply And.intro) <;> first | exact trivial | exact rfl | omega | (simp; done) | (simp; omega)))) | refine wn (wr rfl rfl rfl) rfl ?_ | refine wo rfl (wr rfl rfl rfl) rfl ?_ | refine ws rfl rfl ?_ | refine wj rfl ?_ | refine wk rfl ?_ | refine ww rfl rfl rfl ?_)
        first | refine OpsAt.sayB (d := 4) rfl (y := gr (wTo g l lo hi (i + 1))) (by rw [hsucc]; rfl) ?_ | refine Run.sayB (d := 4) rfl (y := gr (wTo g l lo hi (i + 1))) (by rw [hsucc]; rfl) ?_
        first | refine OpsAt.say (d := 9) rfl (y := .v (.int .i64 (i + 1 : Nat))) (by rw [wrap64_in ((i : Int) + 1) (by omega)]; simp) ?_ | refine Run.say (d := 9) rfl (y := .v (.int .i64 (i + 1 : Nat))) (by rw [wrap64_in ((i : Int) + 1) (by omega)]; simp) ?_ | refine OpsB.say (d := 9) rfl (y := .v (.int .i64 (i + 1 : Nat))) (by rw [wrap64_in ((i : Int) + 1) (by omega)]; simp) ?_
        refine Run.keep [2, 3, 4, 5, 8, 9] rfl ?_
        exact ih (i + 1) (by omega) (by omega)
  · have hi2 : i = 32 := by simp at hb; omega
    subst hi2
    repeat (first | apply wa | apply wb | apply wc | apply wd | apply we | apply wf | apply wg | apply wh | apply wi | ((first | refine wl rfl rfl ?_ ?_ | refine wn (wp rfl rfl rfl rfl rfl ?_) rfl ?_ | refine wn (wq agree rfl rfl rfl ?_) rfl ?_ | refine wm rfl rfl rfl ?_ ?_ | refine wo rfl (wp rfl rfl rfl rfl rfl ?_) rfl ?_ | refine wo rfl (wq agree rfl rfl rfl ?_) rfl ?_ | refine wt rfl ?_ ?_ | refine wu rfl ?_ ?_ | refine wv rfl rfl ?_ rfl rfl ?_ | refine xa agree rfl rfl ?_ ?_ | refine xb agree rfl rfl rfl ?_ ?_); try (first | exact trivial | (rw [hgd] <;> rfl) | ((repeat' apply And.intro) <;> first | exact trivial | exact rfl | omega | (simp; done) | (simp; omega)))) | refine wn (wr rfl rfl rfl) rfl ?_ | refine wo rfl (wr rfl rfl rfl) rfl ?_ | refine ws rfl rfl ?_ | refine wj rfl ?_ | refine wk rfl ?_ | refine ww rfl rfl rfl ?_)
    · exact ⟨gr_fits hcg.1 rfl, gr_pl _⟩
    refine wv rfl rfl (gr_pl _) (gr_stoAll (z := List.replicate 32 0) hcg.1 rfl rfl) rfl ?_
    repeat (first | apply wa | apply wb | apply wc | apply wd | apply we | apply wf | apply wg | apply wh | apply wi | ((first | refine wl rfl rfl ?_ ?_ | refine wn (wp rfl rfl rfl rfl rfl ?_) rfl ?_ | refine wn (wq agree rfl rfl rfl ?_) rfl ?_ | refine wm rfl rfl rfl ?_ ?_ | refine wo rfl (wp rfl rfl rfl rfl rfl ?_) rfl ?_ | refine wo rfl (wq agree rfl rfl rfl ?_) rfl ?_ | refine wt rfl ?_ ?_ | refine wu rfl ?_ ?_ | refine wv rfl rfl ?_ rfl rfl ?_ | refine xa agree rfl rfl ?_ ?_ | refine xb agree rfl rfl rfl ?_ ?_); try (first | exact trivial | (rw [hgd] <;> rfl) | ((repeat' apply And.intro) <;> first | exact trivial | exact rfl | omega | (simp; done) | (simp; omega)))) | refine wn (wr rfl rfl rfl) rfl ?_ | refine wo rfl (wr rfl rfl rfl) rfl ?_ | refine ws rfl rfl ?_ | refine wj rfl ?_ | refine wk rfl ?_ | refine ww rfl rfl rfl ?_)
    exact wD (Ends.cellE agree rfl rfl (by rw [Bool.and_eq_true]; exact ⟨gr_fits hcg.1 rfl, gr_pl _⟩) (by rw [hc]; rfl))
end Go.Proofs.YthiicbpoahilcaaDoor

namespace Go.Proofs.YthiicbpoahilcaaDoor
open Go Go.Dat

/-- All edges the other way, of the first a nodes and of b in the next one. -/
def turnTo (g : List Nat) (a b : Nat) : List Nat := (List.range 32).map fun j : Nat => insTo g (j : Int) (if j < b then a + 1 else a)
def turnG (g : List Nat) : List Nat := (List.range 32).map fun j : Nat => insTo g (j : Int) 32
theorem turnTo_len (g : List Nat) (a b : Nat) : (turnTo g a b).length = 32 := by simp [turnTo]
theorem turnTo_gok (g : List Nat) (a b : Nat) : gok (turnTo g a b) := ⟨turnTo_len _ _ _, fun s hs => by
  obtain ⟨j, _, rfl⟩ := List.mem_map.1 hs
  exact insTo_lt _ _ _⟩
theorem turnG_gok (g : List Nat) : gok (turnG g) := ⟨by simp [turnG], fun s hs => by
  obtain ⟨j, _, rfl⟩ := List.mem_map.1 hs
  exact insTo_lt _ _ _⟩
theorem turn_next (g : List Nat) (a : Nat) : turnTo g a 32 = turnTo g (a + 1) 0 := by
  unfold turnTo
  refine List.map_congr_left fun j hj => ?_
  have : j < 32 := List.mem_range.1 hj
  simp [this]
theorem turn_edge (g : List Nat) (i k : Nat) : edge (turnG g) i k = edge g k i := by
  unfold edge
  by_cases hi : i < 32
  · have : (turnG g).getD i 0 = insTo g (i : Int) 32 := by simp [turnG, hi]
    rw [this, insTo_bit g i hi k 32 (Nat.le_refl _)]
    by_cases hk : k < 32 <;> simp [hi, hk]
  · simp [hi]
theorem turn_set (g : List Nat) (a b : Nat) (hb : b < 32) : (turnTo g a b).set b (insTo g (b : Int) (a + 1)) = turnTo g a (b + 1) := by
  apply List.ext_getElem?
  intro j
  rw [List.getElem?_set]
  by_cases h1 : b = j
  · subst h1
    simp [turnTo, hb]
  · by_cases h2 : j < 32
    · have h3 : j < b ↔ j < b + 1 := by omega
      simp [h1, turnTo, h2, h3]
    · simp [h1, turnTo, h2]
theorem turn_same (g : List Nat) (a b : Nat) (h : insTo g (b : Int) (a + 1) = insTo g (b : Int) a) : turnTo g a (b + 1) = turnTo g a b := by
  unfold turnTo
  refine List.map_congr_left fun j hj => ?_
  by_cases e : j = b
  · subst e; simp [h]
  · have h3 : j < b + 1 ↔ j < b := by omega
    simp [h3]

theorem c_rTurn (g : List Nat) (hg : gok g) : DFun Tryd.prog 42 [gr g] (gr (turnG g)) := by
  refine DFun.ofRun agree mixed Tryd.func42 rfl rfl ?_
  repeat (first | apply wa | apply wb | apply wc | apply wd | apply we | apply wf | apply wg | apply wh | apply wi | ((first | refine wl rfl rfl ?_ ?_ | refine wn (wp rfl rfl rfl rfl rfl ?_) rfl ?_ | refine wn (wq agree rfl rfl rfl ?_) rfl ?_ | refine wm rfl rfl rfl ?_ ?_ | refine wo rfl (wp rfl rfl rfl rfl rfl ?_) rfl ?_ | refine wo rfl (wq agree rfl rfl rfl ?_) rfl ?_ | refine wt rfl ?_ ?_ | refine wu rfl ?_ ?_ | refine wv rfl rfl ?_ rfl rfl ?_ | refine xa agree rfl rfl ?_ ?_ | refine xb agree rfl rfl rfl ?_ ?_); try (first | exact trivial | (rw [hgd] <;> rfl) | ((repeat' apply And.intro) <;> first | exact trivial | exact rfl | omega | (simp; done) | (simp; omega)))) | refine wn (wr rfl rfl rfl) rfl ?_ | refine wo rfl (wr rfl rfl rfl) rfl ?_ | refine ws rfl rfl ?_ | refine wj rfl ?_ | refine wk rfl ?_ | refine ww rfl rfl rfl ?_)
  · exact gr_pl g
  repeat (first | apply wa | apply wb | apply wc | apply wd | apply we | apply wf | apply wg | apply wh | apply wi | ((first | refine wl rfl rfl ?_ ?_ | refine wn (wp rfl rfl rfl rfl rfl ?_) rfl ?_ | refine wn (wq agree rfl rfl rfl ?_) rfl ?_ | refine wm rfl rfl rfl ?_ ?_ | refine wo rfl (wp rfl rfl rfl rfl rfl ?_) rfl ?_ | refine wo rfl (wq agree rfl rfl rfl ?_) rfl ?_ | refine wt rfl ?_ ?_ | refine wu rfl ?_ ?_ | refine wv rfl rfl ?_ rfl rfl ?_ | refine xa agree rfl rfl ?_ ?_ | refine xb agree rfl rfl rfl ?_ ?_); try (first | exact trivial | (rw [hgd] <;> rfl) | ((repeat' apply And.intro) <;> first | exact trivial | exact rfl | omega | (simp; done) | (simp; omega)))) | refine wn (wr rfl rfl rfl) rfl ?_ | refine wo rfl (wr rfl rfl rfl) rfl ?_ | refine ws rfl rfl ?_ | refine wj rfl ?_ | refine wk rfl ?_ | refine ww rfl rfl rfl ?_)
  refine Run.keep [1, 2, 3, 4, 5] rfl ?_
  refine Run.at (l' := [(1, .box (gr g)), (2, .box (gr (List.replicate 32 0))), (3, .box (gr (turnTo g 0 0))), (4, .d (S (2 ^ 0))), (5, .d (.v (.int .i64 (0 : Nat))))]) (by
    have : turnTo g 0 0 = List.replicate 32 0 := by
      apply List.ext_getElem?
      intro j
      rw [List.getElem?_replicate]
      by_cases h : j < 32
      · simp [turnTo, h, insTo]
      · simp [turnTo, h]
    rw [this]
    rfl) ?_
  refine Run.loopL (α := Nat) (fun a => a ≤ 32) (fun a => [(1, .box (gr g)), (2, .box (gr (List.replicate 32 0))), (3, .box (gr (turnTo g a 0))), (4, .d (S (2 ^ a))), (5, .d (.v (.int .i64 a)))]) (fun a => 32 - a) 0 (by decide) ?_
  intro a ha ih
  have htg := turnTo_gok g a 0
  obtain ⟨t, ht⟩ : ∃ t, t = turnTo g a 0 := ⟨_, rfl⟩
  rw [← ht] at htg
  refine Run.at (l' := [(1, .box (gr g)), (2, .box (gr (List.replicate 32 0))), (3, .box (gr t)), (4, .d (S (2 ^ a))), (5, .d (.v (.int .i64 a)))]) (by rw [ht]) ?_
  repeat (first | apply wa | apply wb | apply wc | apply wd | apply we | apply wf | apply wg | apply wh | apply wi | ((first | refine wl rfl rfl ?_ ?_ | refine wn (wp rfl rfl rfl rfl rfl ?_) rfl ?_ | refine wn (wq agree rfl rfl rfl ?_) rfl ?_ | refine wm rfl rfl rfl ?_ ?_ | refine wo rfl (wp rfl rfl rfl rfl rfl ?_) rfl ?_ | refine wo rfl (wq agree rfl rfl rfl ?_) rfl ?_ | refine wt rfl ?_ ?_ | refine wu rfl ?_ ?_ | refine wv rfl rfl ?_ rfl rfl ?_ | refine xa agree rfl rfl ?_ ?_ | refine xb agree rfl rfl rfl ?_ ?_); try (first | exact trivial | (rw [hgd] <;> rfl) | ((repeat' apply And.intro) <;> first | exact trivial | exact rfl | omega | (simp; done) | (simp; omega)))) | refine wn (wr rfl rfl rfl) rfl ?_ | refine wo rfl (wr rfl rfl rfl) rfl ?_ | refine ws rfl rfl ?_ | refine wj rfl ?_ | refine wk rfl ?_ | refine ww rfl rfl rfl ?_)
  refine Run.condB rfl rfl (fun hb => ?_) (fun hb => ?_)
  · have ha2 : a < 32 := by simp at hb; omega
    have hgd : (gr g).get ([] ++ [((a : Int)).toNat]) = S (g.getD a 0) := gr_at (by rw [hg.1]; exact ha2)
    repeat (first | apply wa | apply wb | apply wc | apply wd | apply we | apply wf | apply wg | apply wh | apply wi | ((first | refine wl rfl rfl ?_ ?_ | refine wn (wp rfl rfl rfl rfl rfl ?_) rfl ?_ | refine wn (wq agree rfl rfl rfl ?_) rfl ?_ | refine wm rfl rfl rfl ?_ ?_ | refine wo rfl (wp rfl rfl rfl rfl rfl ?_) rfl ?_ | refine wo rfl (wq agree rfl rfl rfl ?_) rfl ?_ | refine wt rfl ?_ ?_ | refine wu rfl ?_ ?_ | refine wv rfl rfl ?_ rfl rfl ?_ | refine xa agree rfl rfl ?_ ?_ | refine xb agree rfl rfl rfl ?_ ?_); try (first | exact trivial | (rw [hgd] <;> rfl) | ((repeat' apply And.intro) <;> first | exact trivial | exact rfl | omega | (simp; done) | (simp; omega)))) | refine wn (wr rfl rfl rfl) rfl ?_ | refine wo rfl (wr rfl rfl rfl) rfl ?_ | refine ws rfl rfl ?_ | refine wj rfl ?_ | refine wk rfl ?_ | refine ww rfl rfl rfl ?_)
    · exact ⟨rfl, rfl, by rw [sets_len, hg.1], by omega, by omega⟩
    refine wn (Ev.ldBox rfl (adrOf_sound rfl) (ld_ok (T := 22) hgd rfl).1 (ld_ok (T := 22) hgd rfl).2) rfl ?_
    first | refine OpsAt.say (d := 14) rfl (y := S (g.getD a 0)) (hgd) ?_ | refine Run.say (d := 14) rfl (y := S (g.getD a 0)) (hgd) ?_ | refine OpsB.say (d := 14) rfl (y := S (g.getD a 0)) (hgd) ?_
    repeat (first | apply wa | apply wb | apply wc | apply wd | apply we | apply wf | apply wg | apply wh | apply wi | ((first | refine wl rfl rfl ?_ ?_ | refine wn (wp rfl rfl rfl rfl rfl ?_) rfl ?_ | refine wn (wq agree rfl rfl rfl ?_) rfl ?_ | refine wm rfl rfl rfl ?_ ?_ | refine wo rfl (wp rfl rfl rfl rfl rfl ?_) rfl ?_ | refine wo rfl (wq agree rfl rfl rfl ?_) rfl ?_ | refine wt rfl ?_ ?_ | refine wu rfl ?_ ?_ | refine wv rfl rfl ?_ rfl rfl ?_ | refine xa agree rfl rfl ?_ ?_ | refine xb agree rfl rfl rfl ?_ ?_); try (first | exact trivial | (rw [hgd] <;> rfl) | ((repeat' apply And.intro) <;> first | exact trivial | exact rfl | omega | (simp; done) | (simp; omega)))) | refine wn (wr rfl rfl rfl) rfl ?_ | refine wo rfl (wr rfl rfl rfl) rfl ?_ | refine ws rfl rfl ?_ | refine wj rfl ?_ | refine wk rfl ?_ | refine ww rfl rfl rfl ?_)
    refine wn (wA rfl rfl rfl (by repeat' (first | exact trivial | exact rfl | assumption | apply And.intro)) (callable (by decide)) (c_rBits (g.getD a 0) (hg.at a))) rfl ?_
    obtain ⟨bs, hbs⟩ : ∃ bs, bs = bitsL (g.getD a 0) := ⟨_, rfl⟩
    have hbl : bs.length = 64 := by rw [hbs]; exact bitsTo_len _ _
    have hba : ∀ k, k < 64 → bs.getD k false = (g.getD a 0).testBit k := fun k hk => by rw [hbs, bits_at hk]
    rw [← hbs]
    repeat (first | apply wa | apply wb | apply wc | apply wd | apply we | apply wf | apply wg | apply wh | apply wi | ((first | refine wl rfl rfl ?_ ?_ | refine wn (wp rfl rfl rfl rfl rfl ?_) rfl ?_ | refine wn (wq agree rfl rfl rfl ?_) rfl ?_ | refine wm rfl rfl rfl ?_ ?_ | refine wo rfl (wp rfl rfl rfl rfl rfl ?_) rfl ?_ | refine wo rfl (wq agree rfl rfl rfl ?_) rfl ?_ | refine wt rfl ?_ ?_ | refine wu rfl ?_ ?_ | refine wv rfl rfl ?_ rfl rfl ?_ | refine xa agree rfl rfl ?_ ?_ | refine xb agree rfl rfl rfl ?_ ?_); try (first | exact trivial | (rw [hgd] <;> rfl) | ((repeat' apply And.intro) <;> first | exact trivial | exact rfl | omega | (simp; done) | (simp; omega)))) | refine wn (wr rfl rfl rfl) rfl ?_ | refine wo rfl (wr rfl rfl rfl) rfl ?_ | refine ws rfl rfl ?_ | refine wj rfl ?_ | refine wk rfl ?_ | refine ww rfl rfl rfl ?_)
    refine wv rfl rfl (bo_pl _) (bo_stoAll (z := List.replicate 64 false) (n := 64) hbl rfl rfl) rfl ?_
    first | refine OpsAt.sayB (d := 6) rfl (y := bo bs) (rfl) ?_ | refine Run.sayB (d := 6) rfl (y := bo bs) (rfl) ?_
    repeat (first | apply wa | apply wb | apply wc | apply wd | apply we | apply wf | apply wg | apply wh | apply wi | ((first | refine wl rfl rfl ?_ ?_ | refine wn (wp rfl rfl rfl rfl rfl ?_) rfl ?_ | refine wn (wq agree rfl rfl rfl ?_) rfl ?_ | refine wm rfl rfl rfl ?_ ?_ | refine wo rfl (wp rfl rfl rfl rfl rfl ?_) rfl ?_ | refine wo rfl (wq agree rfl rfl rfl ?_) rfl ?_ | refine wt rfl ?_ ?_ | refine wu rfl ?_ ?_ | refine wv rfl rfl ?_ rfl rfl ?_ | refine xa agree rfl rfl ?_ ?_ | refine xb agree rfl rfl rfl ?_ ?_); try (first | exact trivial | (rw [hgd] <;> rfl) | ((repeat' apply And.intro) <;> first | exact trivial | exact rfl | omega | (simp; done) | (simp; omega)))) | refine wn (wr rfl rfl rfl) rfl ?_ | refine wo rfl (wr rfl rfl rfl) rfl ?_ | refine ws rfl rfl ?_ | refine wj rfl ?_ | refine wk rfl ?_ | refine ww rfl rfl rfl ?_)
    refine Run.keep [1, 2, 3, 4, 5, 6, 7] rfl ?_
    refine Run.at (l' := [(1, .box (gr g)), (2, .box (gr (List.replicate 32 0))), (3, .box (gr (turnTo g a 0))), (4, .d (S (2 ^ a))), (5, .d (.v (.int .i64 a))), (6, .box (bo bs)), (7, .d (.v (.int .i64 (0 : Nat))))]) (by rw [← ht]; rfl) ?_
    refine Run.loopL (α := Nat) (fun b => b ≤ 32) (fun b => [(1, .box (gr g)), (2, .box (gr (List.replicate 32 0))), (3, .box (gr (turnTo g a b))), (4, .d (S (2 ^ a))), (5, .d (.v (.int .i64 a))), (6, .box (bo bs)), (7, .d (.v (.int .i64 b)))]) (fun b => 32 - b) 0 (by decide) ?_
    intro b hb0 ih2
    have hug := turnTo_gok g a b
    obtain ⟨u, hu⟩ : ∃ u, u = turnTo g a b := ⟨_, rfl⟩
    have hub : b < 32 → u.getD b 0 = insTo g (b : Int) a := fun h => by rw [hu]; simp [turnTo, h]
    rw [← hu] at hug
    refine Run.at (l' := [(1, .box (gr g)), (2, .box (gr (List.replicate 32 0))), (3, .box (gr u)), (4, .d (S (2 ^ a))), (5, .d (.v (.int .i64 a))), (6, .box (bo bs)), (7, .d (.v (.int .i64 b)))]) (by rw [hu]) ?_
    repeat (first | apply wa | apply wb | apply wc | apply wd | apply we | apply wf | apply wg | apply wh | apply wi | ((first | refine wl rfl rfl ?_ ?_ | refine wn (wp rfl rfl rfl rfl rfl ?_) rfl ?_ | refine wn (wq agree rfl rfl rfl ?_) rfl ?_ | refine wm rfl rfl rfl ?_ ?_ | refine wo rfl (wp rfl rfl rfl rfl rfl ?_) rfl ?_ | refine wo rfl (wq agree rfl rfl rfl ?_) rfl ?_ | refine wt rfl ?_ ?_ | refine wu rfl ?_ ?_ | refine wv rfl rfl ?_ rfl rfl ?_ | refine xa agree rfl rfl ?_ ?_ | refine xb agree rfl rfl rfl ?_ ?_); try (first | exact trivial | (rw [hgd] <;> rfl) | ((repeat' apply And.intro) <;> first | exact trivial | exact rfl | omega | (simp; done) | (simp; omega)))) | refine wn (wr rfl rfl rfl) rfl ?_ | refine wo rfl (wr rfl rfl rfl) rfl ?_ | refine ws rfl rfl ?_ | refine wj rfl ?_ | refine wk rfl ?_ | refine ww rfl rfl rfl ?_)
    refine Run.condB rfl rfl (fun hb2 => ?_) (fun hb2 => ?_)
    · have hb3 : b < 32 := by simp at hb2; omega
      have gb : (bo bs).get ([] ++ [((b : Int)).toNat]) = .v (.bool ((g.getD a 0).testBit b)) := by rw [← hba b (by omega)]; exact bo_at (by omega)
      have hsucc := insTo_succ g (b : Int) a
      rw [has_nat _ _ (by omega : b < 64)] at hsucc
      repeat (first | apply wa | apply wb | apply wc | apply wd | apply we | apply wf | apply wg | apply wh | apply wi | ((first | refine wl rfl rfl ?_ ?_ | refine wn (wp rfl rfl rfl rfl rfl ?_) rfl ?_ | refine wn (wq agree rfl rfl rfl ?_) rfl ?_ | refine wm rfl rfl rfl ?_ ?_ | refine wo rfl (wp rfl rfl rfl rfl rfl ?_) rfl ?_ | refine wo rfl (wq agree rfl rfl rfl ?_) rfl ?_ | refine wt rfl ?_ ?_ | refine wu rfl ?_ ?_ | refine wv rfl rfl ?_ rfl rfl ?_ | refine xa agree rfl rfl ?_ ?_ | refine xb agree rfl rfl rfl ?_ ?_); try (first | exact trivial | (rw [hgd] <;> rfl) | ((repeat' apply And.intro) <;> first | exact trivial | exact rfl | omega | (simp; done) | (simp; omega)))) | refine wn (wr rfl rfl rfl) rfl ?_ | refine wo rfl (wr rfl rfl rfl) rfl ?_ | refine ws rfl rfl ?_ | refine wj rfl ?_ | refine wk rfl ?_ | refine ww rfl rfl rfl ?_)
      · exact ⟨rfl, rfl, by rw [bools_len, hbl], by omega, by omega⟩
      refine wn (Ev.ldBox rfl (adrOf_sound rfl) (ld_ok (T := 4) gb rfl).1 (ld_ok (T := 4) gb rfl).2) rfl ?_
      first | refine OpsAt.say (d := 22) rfl (y := .v (.bool ((g.getD a 0).testBit b))) (gb) ?_ | refine Run.say (d := 22) rfl (y := .v (.bool ((g.getD a 0).testBit b))) (gb) ?_ | refine OpsB.say (d := 22) rfl (y := .v (.bool ((g.getD a 0).testBit b))) (gb) ?_
      repeat (first | apply wa | apply wb | apply wc | apply wd | apply we | apply wf | apply wg | apply wh | apply wi | ((first | refine wl rfl rfl ?_ ?_ | refine wn (wp rfl rfl rfl rfl rfl ?_) rfl ?_ | refine wn (wq agree rfl rfl rfl ?_) rfl ?_ | refine wm rfl rfl rfl ?_ ?_ | refine wo rfl (wp rfl rfl rfl rfl rfl ?_) rfl ?_ | refine wo rfl (wq agree rfl rfl rfl ?_) rfl ?_ | refine wt rfl ?_ ?_ | refine wu rfl ?_ ?_ | refine wv rfl rfl ?_ rfl rfl ?_ | refine xa agree rfl rfl ?_ ?_ | refine xb agree rfl rfl rfl ?_ ?_); try (first | exact trivial | (rw [hgd] <;> rfl) | ((repeat' apply And.intro) <;> first | exact trivial | exact rfl | omega | (simp; done) | (simp; omega)))) | refine wn (wr rfl rfl rfl) rfl ?_ | refine wo rfl (wr rfl rfl rfl) rfl ?_ | refine ws rfl rfl ?_ | refine wj rfl ?_ | refine wk rfl ?_ | refine ww rfl rfl rfl ?_)
      refine Run.condB rfl rfl (fun h1 => ?_) (fun h1 => ?_)
      · rw [if_pos h1] at hsucc
        have hfresh : (insTo g (b : Int) a).testBit a = false := by rw [insTo_bit g b hb3 a a (by omega)]; simp
        have hadd := with_add (insTo_lt g (b : Int) a) (by omega : a < 64) hfresh
        rw [hadd] at hsucc
        have hlt : insTo g (b : Int) a + 2 ^ a < M64 := by rw [← hsucc]; exact insTo_lt _ _ _
        have gu : (gr u).get ([] ++ [((b : Int)).toNat]) = S (insTo g (b : Int) a) := by rw [← hub hb3]; exact gr_at (by rw [hug.1]; exact hb3)
        repeat (first | apply wa | apply wb | apply wc | apply wd | apply we | apply wf | apply wg | apply wh | apply wi | ((first | refine wl rfl rfl ?_ ?_ | refine wn (wp rfl rfl rfl rfl rfl ?_) rfl ?_ | refine wn (wq agree rfl rfl rfl ?_) rfl ?_ | refine wm rfl rfl rfl ?_ ?_ | refine wo rfl (wp rfl rfl rfl rfl rfl ?_) rfl ?_ | refine wo rfl (wq agree rfl rfl rfl ?_) rfl ?_ | refine wt rfl ?_ ?_ | refine wu rfl ?_ ?_ | refine wv rfl rfl ?_ rfl rfl ?_ | refine xa agree rfl rfl ?_ ?_ | refine xb agree rfl rfl rfl ?_ ?_); try (first | exact trivial | (rw [hgd] <;> rfl) | ((repeat' apply And.intro) <;> first | exact trivial | exact rfl | omega | (simp; done) | (simp; omega)))) | refine wn (wr rfl rfl rfl) rfl ?_ | refine wo rfl (wr rfl rfl rfl) rfl ?_ | refine ws rfl rfl ?_ | refine wj rfl ?_ | refine wk rfl ?_ | refine ww rfl rfl rfl ?_)
        · exact ⟨rfl, rfl, by rw [sets_len, hug.1], by omega, by omega⟩
        refine wn (Ev.ldBox rfl (adrOf_sound rfl) (ld_ok (T := 22) gu rfl).1 (ld_ok (T := 22) gu rfl).2) rfl ?_
        first | refine OpsAt.say (d := 26) rfl (y := S (insTo g (b : Int) a)) (gu) ?_ | refine Run.say (d := 26) rfl (y := S (insTo g (b : Int) a)) (gu) ?_ | refine OpsB.say (d := 26) rfl (y := S (insTo g (b : Int) a)) (gu) ?_
        repeat (first | apply wa | apply wb | apply wc | apply wd | apply we | apply wf | apply wg | apply wh | apply wi | ((first | refine wl rfl rfl ?_ ?_ | refine wn (wp rfl rfl rfl rfl rfl ?_) rfl ?_ | refine wn (wq agree rfl rfl rfl ?_) rfl ?_ | refine wm rfl rfl rfl ?_ ?_ | refine wo rfl (wp rfl rfl rfl rfl rfl ?_) rfl ?_ | refine wo rfl (wq agree rfl rfl rfl ?_) rfl ?_ | refine wt rfl ?_ ?_ | refine wu rfl ?_ ?_ | refine wv rfl rfl ?_ rfl rfl ?_ | refine xa agree rfl rfl ?_ ?_ | refine xb agree rfl rfl rfl ?_ ?_); try (first | exact trivial | (rw [hgd] <;> rfl) | ((repeat' apply And.intro) <;> first | exact trivial | exact rfl | omega | (simp; done) | (simp; omega)))) | refine wn (wr rfl rfl rfl) rfl ?_ | refine wo rfl (wr rfl rfl rfl) rfl ?_ | refine ws rfl rfl ?_ | refine wj rfl ?_ | refine wk rfl ?_ | refine ww rfl rfl rfl ?_)
        · exact ⟨rfl, rfl, by rw [sets_len, hug.1], by omega, by omega⟩
        first | refine OpsAt.say (d := 28) rfl (y := S (insTo g (b : Int) (a + 1))) (by rw [hsucc, show ((insTo g (b : Int) a : Nat) : Int) + ((2 ^ a : Nat) : Int) = ((insTo g (b : Int) a + 2 ^ a : Nat) : Int) by omega]; exact congrArg (fun z => D.v (.int .u64 z)) (u64_in hlt)) ?_ | refine Run.say (d := 28) rfl (y := S (insTo g (b : Int) (a + 1))) (by rw [hsucc, show ((insTo g (b : Int) a : Nat) : Int) + ((2 ^ a : Nat) : Int) = ((insTo g (b : Int) a + 2 ^ a : Nat) : Int) by omega]; exact congrArg (fun z => D.v (.int .u64 z)) (u64_in hlt)) ?_ | refine OpsB.say (d := 28) rfl (y := S (insTo g (b : Int) (a + 1))) (by rw [hsucc, show ((insTo g (b : Int) a : Nat) : Int) + ((2 ^ a : Nat) : Int) = ((insTo g (b : Int) a + 2 ^ a : Nat) : Int) by omega]; exact congrArg (fun z => D.v (.int .u64 z)) (u64_in hlt)) ?_
        refine wv rfl rfl rfl (gr_sto (by rw [hug.1]; exact hb3) rfl) rfl ?_
        first | refine OpsAt.sayB (d := 3) rfl (y := gr (turnTo g a (b + 1))) ((gr_set u b _).trans (by rw [hu, turn_set g a b hb3])) ?_ | refine Run.sayB (d := 3) rfl (y := gr (turnTo g a (b + 1))) ((gr_set u b _).trans (by rw [hu, turn_set g a b hb3])) ?_
        repeat (first | apply wa | apply wb | apply wc | apply wd | apply we | apply wf | apply wg | apply wh | apply wi | ((first | refine wl rfl rfl ?_ ?_ | refine wn (wp rfl rfl rfl rfl rfl ?_) rfl ?_ | refine wn (wq agree rfl rfl rfl ?_) rfl ?_ | refine wm rfl rfl rfl ?_ ?_ | refine wo rfl (wp rfl rfl rfl rfl rfl ?_) rfl ?_ | refine wo rfl (wq agree rfl rfl rfl ?_) rfl ?_ | refine wt rfl ?_ ?_ | refine wu rfl ?_ ?_ | refine wv rfl rfl ?_ rfl rfl ?_ | refine xa agree rfl rfl ?_ ?_ | refine xb agree rfl rfl rfl ?_ ?_); try (first | exact trivial | (rw [hgd] <;> rfl) | ((repeat' apply And.intro) <;> first | exact trivial | exact rfl | omega | (simp; done) | (simp; omega)))) | refine wn (wr rfl rfl rfl) rfl ?_ | refine wo rfl (wr rfl rfl rfl) rfl ?_ | refine ws rfl rfl ?_ | refine wj rfl ?_ | refine wk rfl ?_ | refine ww rfl rfl rfl ?_)
        first | refine OpsAt.say (d := 7) rfl (y := .v (.int .i64 (b + 1 : Nat))) (by rw [wrap64_in ((b : Int) + 1) (by omega)]; simp) ?_ | refine Run.say (d := 7) rfl (y := .v (.int .i64 (b + 1 : Nat))) (by rw [wrap64_in ((b : Int) + 1) (by omega)]; simp) ?_ | refine OpsB.say (d := 7) rfl (y := .v (.int .i64 (b + 1 : Nat))) (by rw [wrap64_in ((b : Int) + 1) (by omega)]; simp) ?_
        refine Run.keep [1, 2, 3, 4, 5, 6, 7] rfl ?_
        exact ih2 (b + 1) (by omega) (by omega)
      · rw [h1] at hsucc
        repeat (first | apply wa | apply wb | apply wc | apply wd | apply we | apply wf | apply wg | apply wh | apply wi | ((first | refine wl rfl rfl ?_ ?_ | refine wn (wp rfl rfl rfl rfl rfl ?_) rfl ?_ | refine wn (wq agree rfl rfl rfl ?_) rfl ?_ | refine wm rfl rfl rfl ?_ ?_ | refine wo rfl (wp rfl rfl rfl rfl rfl ?_) rfl ?_ | refine wo rfl (wq agree rfl rfl rfl ?_) rfl ?_ | refine wt rfl ?_ ?_ | refine wu rfl ?_ ?_ | refine wv rfl rfl ?_ rfl rfl ?_ | refine xa agree rfl rfl ?_ ?_ | refine xb agree rfl rfl rfl ?_ ?_); try (first | exact trivial | (rw [hgd] <;> rfl) | ((repeat' apply And.intro) <;> first | exact trivial | exact rfl | omega | (simp; done) | (simp; omega)))) | refine wn (wr rfl rfl rfl) rfl ?_ | refine wo rfl (wr rfl rfl rfl) rfl ?_ | refine ws rfl rfl ?_ | refine wj rfl ?_ | refine wk rfl ?_ | refine ww rfl rfl rfl ?_)
        first | refine OpsAt.sayB (d := 3) rfl (y := gr (turnTo g a (b + 1))) (by rw [hu, turn_same g a b hsucc]) ?_ | refine Run.sayB (d := 3) rfl (y := gr (turnTo g a (b + 1))) (by rw [hu, turn_same g a b hsucc]) ?_
        first | refine OpsAt.say (d := 7) rfl (y := .v (.int .i64 (b + 1 : Nat))) (by rw [wrap64_in ((b : Int) + 1) (by omega)]; simp) ?_ | refine Run.say (d := 7) rfl (y := .v (.int .i64 (b + 1 : Nat))) (by rw [wrap64_in ((b : Int) + 1) (by omega)]; simp) ?_ | refine OpsB.say (d := 7) rfl (y := .v (.int .i64 (b + 1 : Nat))) (by rw [wrap64_in ((b : Int) + 1) (by omega)]; simp) ?_
        refine Run.keep [1, 2, 3, 4, 5, 6, 7] rfl ?_
        exact ih2 (b + 1) (by omega) (by omega)
    · have hb3 : b = 32 := by simp at hb2; omega
      subst hb3
      have hlt : 2 ^ (a + 1) < M64 := Nat.pow_lt_pow_right (a := 2) (by decide) (show a + 1 < 64 by omega)
      repeat (first | apply wa | apply wb | apply wc | apply wd | apply we | apply wf | apply wg | apply wh | apply wi | ((first | refine wl rfl rfl ?_ ?_ | refine wn (wp rfl rfl rfl rfl rfl ?_) rfl ?_ | refine wn (wq agree rfl rfl rfl ?_) rfl ?_ | refine wm rfl rfl rfl ?_ ?_ | refine wo rfl (wp rfl rfl rfl rfl rfl ?_) rfl ?_ | refine wo rfl (wq agree rfl rfl rfl ?_) rfl ?_ | refine wt rfl ?_ ?_ | refine wu rfl ?_ ?_ | refine wv rfl rfl ?_ rfl rfl ?_ | refine xa agree rfl rfl ?_ ?_ | refine xb agree rfl rfl rfl ?_ ?_); try (first | exact trivial | (rw [hgd] <;> rfl) | ((repeat' apply And.intro) <;> first | exact trivial | exact rfl | omega | (simp; done) | (simp; omega)))) | refine wn (wr rfl rfl rfl) rfl ?_ | refine wo rfl (wr rfl rfl rfl) rfl ?_ | refine ws rfl rfl ?_ | refine wj rfl ?_ | refine wk rfl ?_ | refine ww rfl rfl rfl ?_)
      first | refine OpsAt.sayB (d := 3) rfl (y := gr (turnTo g (a + 1) 0)) (by rw [hu, turn_next]) ?_ | refine Run.sayB (d := 3) rfl (y := gr (turnTo g (a + 1) 0)) (by rw [hu, turn_next]) ?_
      first | refine OpsAt.say (d := 4) rfl (y := S (2 ^ (a + 1))) (by rw [show ((2 ^ a : Nat) : Int) * 2 = ((2 ^ (a + 1) : Nat) : Int) by rw [Nat.pow_succ]; simp]; exact congrArg (fun z => D.v (.int .u64 z)) (u64_in hlt)) ?_ | refine Run.say (d := 4) rfl (y := S (2 ^ (a + 1))) (by rw [show ((2 ^ a : Nat) : Int) * 2 = ((2 ^ (a + 1) : Nat) : Int) by rw [Nat.pow_succ]; simp]; exact congrArg (fun z => D.v (.int .u64 z)) (u64_in hlt)) ?_ | refine OpsB.say (d := 4) rfl (y := S (2 ^ (a + 1))) (by rw [show ((2 ^ a : Nat) : Int) * 2 = ((2 ^ (a + 1) : Nat) : Int) by rw [Nat.pow_succ]; simp]; exact congrArg (fun z => D.v (.int .u64 z)) (u64_in hlt)) ?_
      first | refine OpsAt.say (d := 5) rfl (y := .v (.int .i64 (a + 1 : Nat))) (by rw [wrap64_in ((a : Int) + 1) (by omega)]; simp) ?_ | refine Run.say (d := 5) rfl (y := .v (.int .i64 (a + 1 : Nat))) (by rw [wrap64_in ((a : Int) + 1) (by omega)]; simp) ?_ | refine OpsB.say (d := 5) rfl (y := .v (.int .i64 (a + 1 : Nat))) (by rw [wrap64_in ((a : Int) + 1) (by omega)]; simp) ?_
      refine Run.keep [1, 2, 3, 4, 5] rfl ?_
      exact ih (a + 1) (by omega) (by omega)
  · have ha2 : a = 32 := by simp at hb; omega
    subst ha2
    have hT : t = turnG g := by rw [ht]; unfold turnTo turnG; refine List.map_congr_left fun j _ => by simp
    repeat (first | apply wa | apply wb | apply wc | apply wd | apply we | apply wf | apply wg | apply wh | apply wi | ((first | refine wl rfl rfl ?_ ?_ | refine wn (wp rfl rfl rfl rfl rfl ?_) rfl ?_ | refine wn (wq agree rfl rfl rfl ?_) rfl ?_ | refine wm rfl rfl rfl ?_ ?_ | refine wo rfl (wp rfl rfl rfl rfl rfl ?_) rfl ?_ | refine wo rfl (wq agree rfl rfl rfl ?_) rfl ?_ | refine wt rfl ?_ ?_ | refine wu rfl ?_ ?_ | refine wv rfl rfl ?_ rfl rfl ?_ | refine xa agree rfl rfl ?_ ?_ | refine xb agree rfl rfl rfl ?_ ?_); try (first | exact trivial | (rw [hgd] <;> rfl) | ((repeat' apply And.intro) <;> first | exact trivial | exact rfl | omega | (simp; done) | (simp; omega)))) | refine wn (wr rfl rfl rfl) rfl ?_ | refine wo rfl (wr rfl rfl rfl) rfl ?_ | refine ws rfl rfl ?_ | refine wj rfl ?_ | refine wk rfl ?_ | refine ww rfl rfl rfl ?_)
    · exact ⟨gr_fits htg.1 rfl, gr_pl _⟩
    refine wv rfl rfl (gr_pl _) (gr_stoAll (z := List.replicate 32 0) htg.1 rfl rfl) rfl ?_
    repeat (first | apply wa | apply wb | apply wc | apply wd | apply we | apply wf | apply wg | apply wh | apply wi | ((first | refine wl rfl rfl ?_ ?_ | refine wn (wp rfl rfl rfl rfl rfl ?_) rfl ?_ | refine wn (wq agree rfl rfl rfl ?_) rfl ?_ | refine wm rfl rfl rfl ?_ ?_ | refine wo rfl (wp rfl rfl rfl rfl rfl ?_) rfl ?_ | refine wo rfl (wq agree rfl rfl rfl ?_) rfl ?_ | refine wt rfl ?_ ?_ | refine wu rfl ?_ ?_ | refine wv rfl rfl ?_ rfl rfl ?_ | refine xa agree rfl rfl ?_ ?_ | refine xb agree rfl rfl rfl ?_ ?_); try (first | exact trivial | (rw [hgd] <;> rfl) | ((repeat' apply And.intro) <;> first | exact trivial | exact rfl | omega | (simp; done) | (simp; omega)))) | refine wn (wr rfl rfl rfl) rfl ?_ | refine wo rfl (wr rfl rfl rfl) rfl ?_ | refine ws rfl rfl ?_ | refine wj rfl ?_ | refine wk rfl ?_ | refine ww rfl rfl rfl ?_)
    exact wD (Ends.cellE agree rfl rfl (by rw [Bool.and_eq_true]; exact ⟨gr_fits htg.1 rfl, gr_pl _⟩) (by rw [← hT]; rfl))
end Go.Proofs.YthiicbpoahilcaaDoor

namespace Go.Proofs.YthiicbpoahilcaaDoor
open Go Go.Dat

def cntB (l : List Bool) : Nat → Nat
  | 0 => 0
  | n + 1 => cntB l n + (if l.getD n false then 0 else 1)
theorem cntB_set {l : List Bool} {b : Nat} (hb : b < l.length) (h : l.getD b false = false) : ∀ n, (n ≤ b → cntB (l.set b true) n = cntB l n) ∧ (b < n → cntB (l.set b true) n + 1 = cntB l n)
  | 0 => ⟨fun _ => rfl, fun h => absurd h (by omega)⟩
  | n + 1 => by
    obtain ⟨h1, h2⟩ := cntB_set hb h n
    refine ⟨fun hn => ?_, fun hn => ?_⟩
    · have e : (l.set b true).getD n false = l.getD n false := by
        rw [List.getD_eq_getElem?_getD, List.getElem?_set_ne (by omega), ← List.getD_eq_getElem?_getD]
      simp only [cntB, e, h1 (by omega)]
    · by_cases e0 : b = n
      · subst e0
        have e : (l.set b true).getD b false = true := by rw [List.getD_eq_getElem?_getD]; simp [hb]
        simp only [cntB, e, h, h1 (Nat.le_refl _)]
        simp
      · have e : (l.set b true).getD n false = l.getD n false := by
          rw [List.getD_eq_getElem?_getD, List.getElem?_set_ne e0, ← List.getD_eq_getElem?_getD]
        have := h2 (by omega)
        simp only [cntB, e]
        omega
theorem getD_setB {l : List Bool} {b k : Nat} (hb : b < l.length) : (l.set b true).getD k false = (decide (b = k) || l.getD k false) := by
  rw [List.getD_eq_getElem?_getD, List.getElem?_set]
  by_cases e : b = k
  · subst e; simp [hb]
  · simp [e]

/-- What is in, of the first c what is in the other one, too. -/
def orTo (l m : List Bool) (c : Nat) : List Bool := (List.range 64).map fun j => l.getD j false || (decide (j < c) && m.getD j false)
theorem orTo_len (l m : List Bool) (c : Nat) : (orTo l m c).length = 64 := by simp [orTo]
theorem orTo_at (l m : List Bool) {c j : Nat} (hj : j < 64) : (orTo l m c).getD j false = (l.getD j false || (decide (j < c) && m.getD j false)) := by simp [orTo, hj]
theorem orTo_zero {l m : List Bool} (hl : l.length = 64) : orTo l m 0 = l := by
  apply List.ext_getElem?
  intro j
  by_cases h : j < 64
  · simp [orTo, h, hl]
  · rw [List.getElem?_eq_none (by rw [orTo_len]; omega), List.getElem?_eq_none (by omega)]
theorem orTo_set (l m : List Bool) {c : Nat} (hc : c < 64) : (orTo l m c).set c (l.getD c false || m.getD c false) = orTo l m (c + 1) := by
  apply List.ext_getElem?
  intro j
  rw [List.getElem?_set]
  by_cases h1 : c = j
  · subst h1
    simp [orTo, hc]
  · by_cases h2 : j < 64
    · have h3 : j < c ↔ j < c + 1 := by omega
      simp [h1, orTo, h2, h3]
    · simp [h1, orTo, h2]

structure RI (g : List Nat) (a : Nat) (l h : List Bool) : Prop where
  ll : l.length = 64
  lh : h.length = 64
  sound : ∀ j, j < 64 → l.getD j false = true → j < 32 ∧ Comes1 (nxf (fun i => outsN g (i : Int)) fun _ => true) a j
  sub : ∀ j, j < 64 → h.getD j false = true → l.getD j false = true
  first : ∀ k, edge g a k = true → l.getD k false = true
  clo : ∀ j, j < 64 → h.getD j false = true → ∀ k, edge g j k = true → l.getD k false = true

theorem RI.next {g : List Nat} {a : Nat} {l h : List Bool} (hI : RI g a l h) {b : Nat} (hb : b < 32) (hin : l.getD b false = true) {o : List Bool} (ho : ∀ k, k < 64 → o.getD k false = edge g b k) : RI g a (orTo l o 32) (h.set b true) := by
  have hor : ∀ k, k < 64 → ((orTo l o 32).getD k false = true ↔ l.getD k false = true ∨ edge g b k = true) := fun k hk => by
    rw [orTo_at _ _ hk, ho k hk, Bool.or_eq_true, Bool.and_eq_true, decide_eq_true_eq]
    constructor
    · rintro (h1 | h1)
      · exact .inl h1
      · exact .inr h1.2
    · rintro (h1 | h1)
      · exact .inl h1
      · exact .inr ⟨by simp only [edge, Bool.and_eq_true, decide_eq_true_eq] at h1; exact h1.1.2, h1⟩
  have h32 : ∀ i k, edge g i k = true → k < 64 := fun i k h => by simp only [edge, Bool.and_eq_true, decide_eq_true_eq] at h; omega
  refine ⟨orTo_len _ _ _, by rw [List.length_set, hI.lh], fun j hj hjl => ?_, fun j hj hjh => ?_, fun k hk => (hor k (h32 _ _ hk)).2 (.inl (hI.first k hk)), fun j hj hjh k hk => ?_⟩
  · rcases (hor j hj).1 hjl with h1 | h1
    · exact hI.sound j hj h1
    · exact ⟨by simp only [edge, Bool.and_eq_true, decide_eq_true_eq] at h1; exact h1.1.2, b, comes_one (hI.sound b (by omega) hin).2, by rw [nx_edge]; exact h1⟩
  · rw [getD_setB (by rw [hI.lh]; omega), Bool.or_eq_true, decide_eq_true_eq] at hjh
    rcases hjh with rfl | h1
    · exact (hor b hj).2 (.inl hin)
    · exact (hor j hj).2 (.inl (hI.sub j hj h1))
  · rw [getD_setB (by rw [hI.lh]; omega), Bool.or_eq_true, decide_eq_true_eq] at hjh
    rcases hjh with rfl | h1
    · exact (hor k (h32 _ _ hk)).2 (.inr hk)
    · exact (hor k (h32 _ _ hk)).2 (.inl (hI.clo j hj h1 k hk))
theorem RI.done {g : List Nat} {a : Nat} {l h : List Bool} (hI : RI g a l h) (hall : ∀ j, j < 32 → l.getD j false = true → h.getD j false = true) : sumL l = reachN g a := by
  refine setOf_eq (sumL_lt l) fun j hj => ?_
  rw [sumL_bit l hj]
  refine ⟨fun h1 => (hI.sound j hj h1).2, ?_⟩
  rintro ⟨i, h1, h2⟩
  have hc : ∀ j, Comes (nxf (fun i => outsN g (i : Int)) fun _ => true) a j → j = a ∨ (j < 32 ∧ l.getD j false = true) := fun j hj => by
    induction hj with
    | base => exact .inl rfl
    | @step i k h hn ih =>
      rw [nx_edge] at hn
      have hk : k < 32 := by simp only [edge, Bool.and_eq_true, decide_eq_true_eq] at hn; exact hn.1.2
      rcases ih with rfl | ⟨h3, h4⟩
      · exact .inr ⟨hk, hI.first _ hn⟩
      · exact .inr ⟨hk, hI.clo i (by omega) (hall i h3 h4) k hn⟩
  rw [nx_edge] at h2
  rcases hc i h1 with rfl | ⟨h3, h4⟩
  · exact hI.first _ h2
  · exact hI.clo i (by omega) (hall i h3 h4) j h2
theorem RI.start {g : List Nat} {a : Nat} : RI g a (bitsL (outsN g (a : Int))) (List.replicate 64 false) := by
  refine ⟨bitsTo_len _ _, rfl, fun j hj h => ?_, fun j hj h => ?_, fun k hk => ?_, fun j hj h => ?_⟩
  · rw [bits_at hj, outs_bit] at h
    exact ⟨by simp only [edge, Bool.and_eq_true, decide_eq_true_eq] at h; exact h.1.2, a, .base, by rw [nx_edge]; exact h⟩
  · rw [List.getD_eq_getElem?_getD, List.getElem?_replicate] at h; simp [hj] at h
  · have : k < 64 := by simp only [edge, Bool.and_eq_true, decide_eq_true_eq] at hk; omega
    rw [bits_at this, outs_bit]
    exact hk
  · rw [List.getD_eq_getElem?_getD, List.getElem?_replicate] at h; simp [hj] at h

set_option maxHeartbeats 2000000 in
theorem c_rReach (g : List Nat) (a : Nat) (hg : gok g) : DFun Tryd.prog 41 [gr g, .v (.int .i64 a)] (S (reachN g a)) := by
  refine DFun.ofRun agree mixed Tryd.func41 rfl rfl ?_
  repeat (first | apply wa | apply wb | apply wc | apply wd | apply we | apply wf | apply wg | apply wh | apply wi | ((first | refine wl rfl rfl ?_ ?_ | refine wn (wp rfl rfl rfl rfl rfl ?_) rfl ?_ | refine wn (wq agree rfl rfl rfl ?_) rfl ?_ | refine wm rfl rfl rfl ?_ ?_ | refine wo rfl (wp rfl rfl rfl rfl rfl ?_) rfl ?_ | refine wo rfl (wq agree rfl rfl rfl ?_) rfl ?_ | refine wt rfl ?_ ?_ | refine wu rfl ?_ ?_ | refine wv rfl rfl ?_ rfl rfl ?_ | refine xa agree rfl rfl ?_ ?_ | refine xb agree rfl rfl rfl ?_ ?_); try (first | exact trivial | (rw [hgd] <;> rfl) | ((repeat' apply And.intro) <;> first | exact trivial | exact rfl | omega | (simp; done) | (simp; omega)))) | refine wn (wr rfl rfl rfl) rfl ?_ | refine wo rfl (wr rfl rfl rfl) rfl ?_ | refine ws rfl rfl ?_ | refine wj rfl ?_ | refine wk rfl ?_ | refine ww rfl rfl rfl ?_)
  · exact gr_pl g
  repeat (first | apply wa | apply wb | apply wc | apply wd | apply we | apply wf | apply wg | apply wh | apply wi | ((first | refine wl rfl rfl ?_ ?_ | refine wn (wp rfl rfl rfl rfl rfl ?_) rfl ?_ | refine wn (wq agree rfl rfl rfl ?_) rfl ?_ | refine wm rfl rfl rfl ?_ ?_ | refine wo rfl (wp rfl rfl rfl rfl rfl ?_) rfl ?_ | refine wo rfl (wq agree rfl rfl rfl ?_) rfl ?_ | refine wt rfl ?_ ?_ | refine wu rfl ?_ ?_ | refine wv rfl rfl ?_ rfl rfl ?_ | refine xa agree rfl rfl ?_ ?_ | refine xb agree rfl rfl rfl ?_ ?_); try (first | exact trivial | (rw [hgd] <;> rfl) | ((repeat' apply And.intro) <;> first | exact trivial | exact rfl | omega | (simp; done) | (simp; omega)))) | refine wn (wr rfl rfl rfl) rfl ?_ | refine wo rfl (wr rfl rfl rfl) rfl ?_ | refine ws rfl rfl ?_ | refine wj rfl ?_ | refine wk rfl ?_ | refine ww rfl rfl rfl ?_)
  · exact ⟨gr_fits hg.1 rfl, gr_pl g⟩
  repeat (first | apply wa | apply wb | apply wc | apply wd | apply we | apply wf | apply wg | apply wh | apply wi | ((first | refine wl rfl rfl ?_ ?_ | refine wn (wp rfl rfl rfl rfl rfl ?_) rfl ?_ | refine wn (wq agree rfl rfl rfl ?_) rfl ?_ | refine wm rfl rfl rfl ?_ ?_ | refine wo rfl (wp rfl rfl rfl rfl rfl ?_) rfl ?_ | refine wo rfl (wq agree rfl rfl rfl ?_) rfl ?_ | refine wt rfl ?_ ?_ | refine wu rfl ?_ ?_ | refine wv rfl rfl ?_ rfl rfl ?_ | refine xa agree rfl rfl ?_ ?_ | refine xb agree rfl rfl rfl ?_ ?_); try (first | exact trivial | (rw [hgd] <;> rfl) | ((repeat' apply And.intro) <;> first | exact trivial | exact rfl | omega | (simp; done) | (simp; omega)))) | refine wn (wr rfl rfl rfl) rfl ?_ | refine wo rfl (wr rfl rfl rfl) rfl ?_ | refine ws rfl rfl ?_ | refine wj rfl ?_ | refine wk rfl ?_ | refine ww rfl rfl rfl ?_)
  have hpl : ((gr g).get []).pl = true := gr_pl g
  refine wn (wA rfl rfl rfl (by repeat' (first | exact trivial | exact rfl | assumption | apply And.intro)) (callable (by decide)) (c_rOuts g a hg)) rfl ?_
  repeat (first | apply wa | apply wb | apply wc | apply wd | apply we | apply wf | apply wg | apply wh | apply wi | ((first | refine wl rfl rfl ?_ ?_ | refine wn (wp rfl rfl rfl rfl rfl ?_) rfl ?_ | refine wn (wq agree rfl rfl rfl ?_) rfl ?_ | refine wm rfl rfl rfl ?_ ?_ | refine wo rfl (wp rfl rfl rfl rfl rfl ?_) rfl ?_ | refine wo rfl (wq agree rfl rfl rfl ?_) rfl ?_ | refine wt rfl ?_ ?_ | refine wu rfl ?_ ?_ | refine wv rfl rfl ?_ rfl rfl ?_ | refine xa agree rfl rfl ?_ ?_ | refine xb agree rfl rfl rfl ?_ ?_); try (first | exact trivial | (rw [hgd] <;> rfl) | ((repeat' apply And.intro) <;> first | exact trivial | exact rfl | omega | (simp; done) | (simp; omega)))) | refine wn (wr rfl rfl rfl) rfl ?_ | refine wo rfl (wr rfl rfl rfl) rfl ?_ | refine ws rfl rfl ?_ | refine wj rfl ?_ | refine wk rfl ?_ | refine ww rfl rfl rfl ?_)
  refine wn (wA rfl rfl rfl (by repeat' (first | exact trivial | exact rfl | assumption | apply And.intro)) (callable (by decide)) (c_rBits (outsN g (a : Int)) (outs_lt g a))) rfl ?_
  have hI0 := RI.start (g := g) (a := a)
  obtain ⟨l0, hl0⟩ : ∃ l0, l0 = bitsL (outsN g (a : Int)) := ⟨_, rfl⟩
  rw [← hl0] at hI0
  rw [← hl0]
  repeat (first | apply wa | apply wb | apply wc | apply wd | apply we | apply wf | apply wg | apply wh | apply wi | ((first | refine wl rfl rfl ?_ ?_ | refine wn (wp rfl rfl rfl rfl rfl ?_) rfl ?_ | refine wn (wq agree rfl rfl rfl ?_) rfl ?_ | refine wm rfl rfl rfl ?_ ?_ | refine wo rfl (wp rfl rfl rfl rfl rfl ?_) rfl ?_ | refine wo rfl (wq agree rfl rfl rfl ?_) rfl ?_ | refine wt rfl ?_ ?_ | refine wu rfl ?_ ?_ | refine wv rfl rfl ?_ rfl rfl ?_ | refine xa agree rfl rfl ?_ ?_ | refine xb agree rfl rfl rfl ?_ ?_); try (first | exact trivial | (rw [hgd] <;> rfl) | ((repeat' apply And.intro) <;> first | exact trivial | exact rfl | omega | (simp; done) | (simp; omega)))) | refine wn (wr rfl rfl rfl) rfl ?_ | refine wo rfl (wr rfl rfl rfl) rfl ?_ | refine ws rfl rfl ?_ | refine wj rfl ?_ | refine wk rfl ?_ | refine ww rfl rfl rfl ?_)
  refine wv rfl rfl (bo_pl _) (bo_stoAll (z := List.replicate 64 false) (n := 64) hI0.ll rfl rfl) rfl ?_
  first | refine OpsAt.sayB (d := 5) rfl (y := bo l0) (rfl) ?_ | refine Run.sayB (d := 5) rfl (y := bo l0) (rfl) ?_
  repeat (first | apply wa | apply wb | apply wc | apply wd | apply we | apply wf | apply wg | apply wh | apply wi | ((first | refine wl rfl rfl ?_ ?_ | refine wn (wp rfl rfl rfl rfl rfl ?_) rfl ?_ | refine wn (wq agree rfl rfl rfl ?_) rfl ?_ | refine wm rfl rfl rfl ?_ ?_ | refine wo rfl (wp rfl rfl rfl rfl rfl ?_) rfl ?_ | refine wo rfl (wq agree rfl rfl rfl ?_) rfl ?_ | refine wt rfl ?_ ?_ | refine wu rfl ?_ ?_ | refine wv rfl rfl ?_ rfl rfl ?_ | refine xa agree rfl rfl ?_ ?_ | refine xb agree rfl rfl rfl ?_ ?_); try (first | exact trivial | (rw [hgd] <;> rfl) | ((repeat' apply And.intro) <;> first | exact trivial | exact rfl | omega | (simp; done) | (simp; omega)))) | refine wn (wr rfl rfl rfl) rfl ?_ | refine wo rfl (wr rfl rfl rfl) rfl ?_ | refine ws rfl rfl ?_ | refine wj rfl ?_ | refine wk rfl ?_ | refine ww rfl rfl rfl ?_)
  refine Run.keep [2, 5, 6, 7] rfl ?_
  refine Run.at (l' := [(2, .box (gr g)), (5, .box (bo l0)), (6, .box (bo (List.replicate 64 false))), (7, .d (.v (.bool true)))]) rfl ?_
  refine Run.loopL (α := List Bool × List Bool × Bool) (fun q => RI g a q.1 q.2.1 ∧ (q.2.2 = false → ∀ j, j < 32 → q.1.getD j false = true → q.2.1.getD j false = true)) (fun q => [(2, .box (gr g)), (5, .box (bo q.1)), (6, .box (bo q.2.1)), (7, .d (.v (.bool q.2.2)))]) (fun q => 2 * cntB q.2.1 32 + (if q.2.2 then 1 else 0)) (l0, List.replicate 64 false, true) ⟨hI0, fun h => by cases h⟩ ?_
  rintro ⟨l, h, m⟩ ⟨hI, hm⟩ ih
  simp only at hI hm
  refine Run.at (l' := [(2, .box (gr g)), (5, .box (bo l)), (6, .box (bo h)), (7, .d (.v (.bool m)))]) rfl ?_
  repeat (first | apply wa | apply wb | apply wc | apply wd | apply we | apply wf | apply wg | apply wh | apply wi | ((first | refine wl rfl rfl ?_ ?_ | refine wn (wp rfl rfl rfl rfl rfl ?_) rfl ?_ | refine wn (wq agree rfl rfl rfl ?_) rfl ?_ | refine wm rfl rfl rfl ?_ ?_ | refine wo rfl (wp rfl rfl rfl rfl rfl ?_) rfl ?_ | refine wo rfl (wq agree rfl rfl rfl ?_) rfl ?_ | refine wt rfl ?_ ?_ | refine wu rfl ?_ ?_ | refine wv rfl rfl ?_ rfl rfl ?_ | refine xa agree rfl rfl ?_ ?_ | refine xb agree rfl rfl rfl ?_ ?_); try (first | exact trivial | (rw [hgd] <;> rfl) | ((repeat' apply And.intro) <;> first | exact trivial | exact rfl | omega | (simp; done) | (simp; omega)))) | refine wn (wr rfl rfl rfl) rfl ?_ | refine wo rfl (wr rfl rfl rfl) rfl ?_ | refine ws rfl rfl ?_ | refine wj rfl ?_ | refine wk rfl ?_ | refine ww rfl rfl rfl ?_)
  refine Run.condB rfl rfl (fun hmore => ?_) (fun hmore => ?_)
  · subst hmore
    repeat (first | apply wa | apply wb | apply wc | apply wd | apply we | apply wf | apply wg | apply wh | apply wi | ((first | refine wl rfl rfl ?_ ?_ | refine wn (wp rfl rfl rfl rfl rfl ?_) rfl ?_ | refine wn (wq agree rfl rfl rfl ?_) rfl ?_ | refine wm rfl rfl rfl ?_ ?_ | refine wo rfl (wp rfl rfl rfl rfl rfl ?_) rfl ?_ | refine wo rfl (wq agree rfl rfl rfl ?_) rfl ?_ | refine wt rfl ?_ ?_ | refine wu rfl ?_ ?_ | refine wv rfl rfl ?_ rfl rfl ?_ | refine xa agree rfl rfl ?_ ?_ | refine xb agree rfl rfl rfl ?_ ?_); try (first | exact trivial | (rw [hgd] <;> rfl) | ((repeat' apply And.intro) <;> first | exact trivial | exact rfl | omega | (simp; done) | (simp; omega)))) | refine wn (wr rfl rfl rfl) rfl ?_ | refine wo rfl (wr rfl rfl rfl) rfl ?_ | refine ws rfl rfl ?_ | refine wj rfl ?_ | refine wk rfl ?_ | refine ww rfl rfl rfl ?_)
    refine Run.keep [2, 5, 6, 7, 8] rfl ?_
    refine Run.at (l' := [(2, .box (gr g)), (5, .box (bo l)), (6, .box (bo h)), (7, .d (.v (.bool false))), (8, .d (.v (.int .i64 (0 : Nat))))]) rfl ?_
    refine Run.loopL (α := Nat × List Bool × List Bool × Bool) (fun q => q.1 ≤ 32 ∧ RI g a q.2.1 q.2.2.1 ∧ cntB q.2.2.1 32 + (if q.2.2.2 then 1 else 0) ≤ cntB h 32 ∧ (q.2.2.2 = false → ∀ j, j < q.1 → q.2.1.getD j false = true → q.2.2.1.getD j false = true)) (fun q => [(2, .box (gr g)), (5, .box (bo q.2.1)), (6, .box (bo q.2.2.1)), (7, .d (.v (.bool q.2.2.2))), (8, .d (.v (.int .i64 q.1)))]) (fun q => 32 - q.1) (0, l, h, false) ⟨Nat.zero_le _, hI, Nat.le_refl _, fun _ j hj => absurd hj (Nat.not_lt_zero j)⟩ ?_
    rintro ⟨b, l2, h2, m2⟩ ⟨hb0, hI2, hcnt, hm2⟩ ih2
    simp only at hb0 hI2 hcnt hm2
    refine Run.at (l' := [(2, .box (gr g)), (5, .box (bo l2)), (6, .box (bo h2)), (7, .d (.v (.bool m2))), (8, .d (.v (.int .i64 b)))]) rfl ?_
    repeat (first | apply wa | apply wb | apply wc | apply wd | apply we | apply wf | apply wg | apply wh | apply wi | ((first | refine wl rfl rfl ?_ ?_ | refine wn (wp rfl rfl rfl rfl rfl ?_) rfl ?_ | refine wn (wq agree rfl rfl rfl ?_) rfl ?_ | refine wm rfl rfl rfl ?_ ?_ | refine wo rfl (wp rfl rfl rfl rfl rfl ?_) rfl ?_ | refine wo rfl (wq agree rfl rfl rfl ?_) rfl ?_ | refine wt rfl ?_ ?_ | refine wu rfl ?_ ?_ | refine wv rfl rfl ?_ rfl rfl ?_ | refine xa agree rfl rfl ?_ ?_ | refine xb agree rfl rfl rfl ?_ ?_); try (first | exact trivial | (rw [hgd] <;> rfl) | ((repeat' apply And.intro) <;> first | exact trivial | exact rfl | omega | (simp; done) | (simp; omega)))) | refine wn (wr rfl rfl rfl) rfl ?_ | refine wo rfl (wr rfl rfl rfl) rfl ?_ | refine ws rfl rfl ?_ | refine wj rfl ?_ | refine wk rfl ?_ | refine ww rfl rfl rfl ?_)
    refine Run.condB rfl rfl (fun hb => ?_) (fun hb => ?_)
    · have hb2 : b < 32 := by simp at hb; omega
      have gl : (bo l2).get ([] ++ [((b : Int)).toNat]) = .v (.bool (l2.getD b false)) := bo_at (by rw [hI2.ll]; omega)
      have gh : (bo h2).get ([] ++ [((b : Int)).toNat]) = .v (.bool (h2.getD b false)) := bo_at (by rw [hI2.lh]; omega)
      have hskip : (l2.getD b false = true → h2.getD b false = true) → (m2 = false → ∀ j, j < b + 1 → l2.getD j false = true → h2.getD j false = true) := fun hx h0 j hj hj2 => by
        by_cases e : j = b
        · rw [e] at hj2 ⊢; exact hx hj2
        · exact hm2 h0 j (by omega) hj2
      repeat (first | apply wa | apply wb | apply wc | apply wd | apply we | apply wf | apply wg | apply wh | apply wi | ((first | refine wl rfl rfl ?_ ?_ | refine wn (wp rfl rfl rfl rfl rfl ?_) rfl ?_ | refine wn (wq agree rfl rfl rfl ?_) rfl ?_ | refine wm rfl rfl rfl ?_ ?_ | refine wo rfl (wp rfl rfl rfl rfl rfl ?_) rfl ?_ | refine wo rfl (wq agree rfl rfl rfl ?_) rfl ?_ | refine wt rfl ?_ ?_ | refine wu rfl ?_ ?_ | refine wv rfl rfl ?_ rfl rfl ?_ | refine xa agree rfl rfl ?_ ?_ | refine xb agree rfl rfl rfl ?_ ?_); try (first | exact trivial | (rw [hgd] <;> rfl) | ((repeat' apply And.intro) <;> first | exact trivial | exact rfl | omega | (simp; done) | (simp; omega)))) | refine wn (wr rfl rfl rfl) rfl ?_ | refine wo rfl (wr rfl rfl rfl) rfl ?_ | refine ws rfl rfl ?_ | refine wj rfl ?_ | refine wk rfl ?_ | refine ww rfl rfl rfl ?_)
      · exact ⟨rfl, rfl, by rw [bools_len, hI2.ll], by omega, by omega⟩
      refine wn (Ev.ldBox rfl (adrOf_sound rfl) (ld_ok (T := 4) gl rfl).1 (ld_ok (T := 4) gl rfl).2) rfl ?_
      first | refine OpsAt.say (d := 22) rfl (y := .v (.bool (l2.getD b false))) (gl) ?_ | refine Run.say (d := 22) rfl (y := .v (.bool (l2.getD b false))) (gl) ?_ | refine OpsB.say (d := 22) rfl (y := .v (.bool (l2.getD b false))) (gl) ?_
      repeat (first | apply wa | apply wb | apply wc | apply wd | apply we | apply wf | apply wg | apply wh | apply wi | ((first | refine wl rfl rfl ?_ ?_ | refine wn (wp rfl rfl rfl rfl rfl ?_) rfl ?_ | refine wn (wq agree rfl rfl rfl ?_) rfl ?_ | refine wm rfl rfl rfl ?_ ?_ | refine wo rfl (wp rfl rfl rfl rfl rfl ?_) rfl ?_ | refine wo rfl (wq agree rfl rfl rfl ?_) rfl ?_ | refine wt rfl ?_ ?_ | refine wu rfl ?_ ?_ | refine wv rfl rfl ?_ rfl rfl ?_ | refine xa agree rfl rfl ?_ ?_ | refine xb agree rfl rfl rfl ?_ ?_); try (first | exact trivial | (rw [hgd] <;> rfl) | ((repeat' apply And.intro) <;> first | exact trivial | exact rfl | omega | (simp; done) | (simp; omega)))) | refine wn (wr rfl rfl rfl) rfl ?_ | refine wo rfl (wr rfl rfl rfl) rfl ?_ | refine ws rfl rfl ?_ | refine wj rfl ?_ | refine wk rfl ?_ | refine ww rfl rfl rfl ?_)
      refine OpsAt.br rfl rfl rfl (fun h1 => ?_) (fun h1 => ?_)
      · have h1' : l2.getD b false = false := by simpa using h1
        repeat (first | apply wa | apply wb | apply wc | apply wd | apply we | apply wf | apply wg | apply wh | apply wi | ((first | refine wl rfl rfl ?_ ?_ | refine wn (wp rfl rfl rfl rfl rfl ?_) rfl ?_ | refine wn (wq agree rfl rfl rfl ?_) rfl ?_ | refine wm rfl rfl rfl ?_ ?_ | refine wo rfl (wp rfl rfl rfl rfl rfl ?_) rfl ?_ | refine wo rfl (wq agree rfl rfl rfl ?_) rfl ?_ | refine wt rfl ?_ ?_ | refine wu rfl ?_ ?_ | refine wv rfl rfl ?_ rfl rfl ?_ | refine xa agree rfl rfl ?_ ?_ | refine xb agree rfl rfl rfl ?_ ?_); try (first | exact trivial | (rw [hgd] <;> rfl) | ((repeat' apply And.intro) <;> first | exact trivial | exact rfl | omega | (simp; done) | (simp; omega)))) | refine wn (wr rfl rfl rfl) rfl ?_ | refine wo rfl (wr rfl rfl rfl) rfl ?_ | refine ws rfl rfl ?_ | refine wj rfl ?_ | refine wk rfl ?_ | refine ww rfl rfl rfl ?_)
        first | refine OpsAt.say (d := 8) rfl (y := .v (.int .i64 (b + 1 : Nat))) (by rw [wrap64_in ((b : Int) + 1) (by omega)]; simp) ?_ | refine Run.say (d := 8) rfl (y := .v (.int .i64 (b + 1 : Nat))) (by rw [wrap64_in ((b : Int) + 1) (by omega)]; simp) ?_ | refine OpsB.say (d := 8) rfl (y := .v (.int .i64 (b + 1 : Nat))) (by rw [wrap64_in ((b : Int) + 1) (by omega)]; simp) ?_
        refine Run.keep [2, 5, 6, 7, 8] rfl ?_
        exact ih2 (b + 1, l2, h2, m2) ⟨by show b + 1 ≤ 32; omega, hI2, hcnt, hskip fun h => by rw [h1'] at h; cases h⟩ (by show 32 - (b + 1) < 32 - b; omega)
      have h1' : l2.getD b false = true := by simpa using h1
      repeat (first | apply wa | apply wb | apply wc | apply wd | apply we | apply wf | apply wg | apply wh | apply wi | ((first | refine wl rfl rfl ?_ ?_ | refine wn (wp rfl rfl rfl rfl rfl ?_) rfl ?_ | refine wn (wq agree rfl rfl rfl ?_) rfl ?_ | refine wm rfl rfl rfl ?_ ?_ | refine wo rfl (wp rfl rfl rfl rfl rfl ?_) rfl ?_ | refine wo rfl (wq agree rfl rfl rfl ?_) rfl ?_ | refine wt rfl ?_ ?_ | refine wu rfl ?_ ?_ | refine wv rfl rfl ?_ rfl rfl ?_ | refine xa agree rfl rfl ?_ ?_ | refine xb agree rfl rfl rfl ?_ ?_); try (first | exact trivial | (rw [hgd] <;> rfl) | ((repeat' apply And.intro) <;> first | exact trivial | exact rfl | omega | (simp; done) | (simp; omega)))) | refine wn (wr rfl rfl rfl) rfl ?_ | refine wo rfl (wr rfl rfl rfl) rfl ?_ | refine ws rfl rfl ?_ | refine wj rfl ?_ | refine wk rfl ?_ | refine ww rfl rfl rfl ?_)
      · exact ⟨rfl, rfl, by rw [bools_len, hI2.lh], by omega, by omega⟩
      refine wo rfl (Ev.ldBox rfl (adrOf_sound rfl) (ld_ok (T := 4) gh rfl).1 (ld_ok (T := 4) gh rfl).2) rfl ?_
      first | refine OpsAt.say (d := 27) rfl (y := .v (.bool (h2.getD b false))) (gh) ?_ | refine Run.say (d := 27) rfl (y := .v (.bool (h2.getD b false))) (gh) ?_ | refine OpsB.say (d := 27) rfl (y := .v (.bool (h2.getD b false))) (gh) ?_
      repeat (first | apply wa | apply wb | apply wc | apply wd | apply we | apply wf | apply wg | apply wh | apply wi | ((first | refine wl rfl rfl ?_ ?_ | refine wn (wp rfl rfl rfl rfl rfl ?_) rfl ?_ | refine wn (wq agree rfl rfl rfl ?_) rfl ?_ | refine wm rfl rfl rfl ?_ ?_ | refine wo rfl (wp rfl rfl rfl rfl rfl ?_) rfl ?_ | refine wo rfl (wq agree rfl rfl rfl ?_) rfl ?_ | refine wt rfl ?_ ?_ | refine wu rfl ?_ ?_ | refine wv rfl rfl ?_ rfl rfl ?_ | refine xa agree rfl rfl ?_ ?_ | refine xb agree rfl rfl rfl ?_ ?_); try (first | exact trivial | (rw [hgd] <;> rfl) | ((repeat' apply And.intro) <;> first | exact trivial | exact rfl | omega | (simp; done) | (simp; omega)))) | refine wn (wr rfl rfl rfl) rfl ?_ | refine wo rfl (wr rfl rfl rfl) rfl ?_ | refine ws rfl rfl ?_ | refine wj rfl ?_ | refine wk rfl ?_ | refine ww rfl rfl rfl ?_)
      refine Run.condB rfl rfl (fun h3 => ?_) (fun h3 => ?_)
      · repeat (first | apply wa | apply wb | apply wc | apply wd | apply we | apply wf | apply wg | apply wh | apply wi | ((first | refine wl rfl rfl ?_ ?_ | refine wn (wp rfl rfl rfl rfl rfl ?_) rfl ?_ | refine wn (wq agree rfl rfl rfl ?_) rfl ?_ | refine wm rfl rfl rfl ?_ ?_ | refine wo rfl (wp rfl rfl rfl rfl rfl ?_) rfl ?_ | refine wo rfl (wq agree rfl rfl rfl ?_) rfl ?_ | refine wt rfl ?_ ?_ | refine wu rfl ?_ ?_ | refine wv rfl rfl ?_ rfl rfl ?_ | refine xa agree rfl rfl ?_ ?_ | refine xb agree rfl rfl rfl ?_ ?_); try (first | exact trivial | (rw [hgd] <;> rfl) | ((repeat' apply And.intro) <;> first | exact trivial | exact rfl | omega | (simp; done) | (simp; omega)))) | refine wn (wr rfl rfl rfl) rfl ?_ | refine wo rfl (wr rfl rfl rfl) rfl ?_ | refine ws rfl rfl ?_ | refine wj rfl ?_ | refine wk rfl ?_ | refine ww rfl rfl rfl ?_)
        first | refine OpsAt.say (d := 8) rfl (y := .v (.int .i64 (b + 1 : Nat))) (by rw [wrap64_in ((b : Int) + 1) (by omega)]; simp) ?_ | refine Run.say (d := 8) rfl (y := .v (.int .i64 (b + 1 : Nat))) (by rw [wrap64_in ((b : Int) + 1) (by omega)]; simp) ?_ | refine OpsB.say (d := 8) rfl (y := .v (.int .i64 (b + 1 : Nat))) (by rw [wrap64_in ((b : Int) + 1) (by omega)]; simp) ?_
        refine Run.keep [2, 5, 6, 7, 8] rfl ?_
        exact ih2 (b + 1, l2, h2, m2) ⟨by show b + 1 ≤ 32; omega, hI2, hcnt, hskip fun _ => h3⟩ (by show 32 - (b + 1) < 32 - b; omega)
      have hc1 := (cntB_set (l := h2) (b := b) (by rw [hI2.lh]; omega) h3 32).2 hb2
      repeat (first | apply wa | apply wb | apply wc | apply wd | apply we | apply wf | apply wg | apply wh | apply wi | ((first | refine wl rfl rfl ?_ ?_ | refine wn (wp rfl rfl rfl rfl rfl ?_) rfl ?_ | refine wn (wq agree rfl rfl rfl ?_) rfl ?_ | refine wm rfl rfl rfl ?_ ?_ | refine wo rfl (wp rfl rfl rfl rfl rfl ?_) rfl ?_ | refine wo rfl (wq agree rfl rfl rfl ?_) rfl ?_ | refine wt rfl ?_ ?_ | refine wu rfl ?_ ?_ | refine wv rfl rfl ?_ rfl rfl ?_ | refine xa agree rfl rfl ?_ ?_ | refine xb agree rfl rfl rfl ?_ ?_); try (first | exact trivial | (rw [hgd] <;> rfl) | ((repeat' apply And.intro) <;> first | exact trivial | exact rfl | omega | (simp; done) | (simp; omega)))) | refine wn (wr rfl rfl rfl) rfl ?_ | refine wo rfl (wr rfl rfl rfl) rfl ?_ | refine ws rfl rfl ?_ | refine wj rfl ?_ | refine wk rfl ?_ | refine ww rfl rfl rfl ?_)
      · exact ⟨rfl, rfl, by rw [bools_len, hI2.lh], by omega, by omega⟩
      refine wv rfl rfl trivial (bo_sto (by rw [hI2.lh]; omega) rfl) rfl ?_
      first | refine OpsAt.sayB (d := 6) rfl (y := bo (h2.set b true)) (bo_set h2 b true) ?_ | refine Run.sayB (d := 6) rfl (y := bo (h2.set b true)) (bo_set h2 b true) ?_
      repeat (first | apply wa | apply wb | apply wc | apply wd | apply we | apply wf | apply wg | apply wh | apply wi | ((first | refine wl rfl rfl ?_ ?_ | refine wn (wp rfl rfl rfl rfl rfl ?_) rfl ?_ | refine wn (wq agree rfl rfl rfl ?_) rfl ?_ | refine wm rfl rfl rfl ?_ ?_ | refine wo rfl (wp rfl rfl rfl rfl rfl ?_) rfl ?_ | refine wo rfl (wq agree rfl rfl rfl ?_) rfl ?_ | refine wt rfl ?_ ?_ | refine wu rfl ?_ ?_ | refine wv rfl rfl ?_ rfl rfl ?_ | refine xa agree rfl rfl ?_ ?_ | refine xb agree rfl rfl rfl ?_ ?_); try (first | exact trivial | (rw [hgd] <;> rfl) | ((repeat' apply And.intro) <;> first | exact trivial | exact rfl | omega | (simp; done) | (simp; omega)))) | refine wn (wr rfl rfl rfl) rfl ?_ | refine wo rfl (wr rfl rfl rfl) rfl ?_ | refine ws rfl rfl ?_ | refine wj rfl ?_ | refine wk rfl ?_ | refine ww rfl rfl rfl ?_)
      · exact ⟨gr_fits hg.1 rfl, gr_pl g⟩
      repeat (first | apply wa | apply wb | apply wc | apply wd | apply we | apply wf | apply wg | apply wh | apply wi | ((first | refine wl rfl rfl ?_ ?_ | refine wn (wp rfl rfl rfl rfl rfl ?_) rfl ?_ | refine wn (wq agree rfl rfl rfl ?_) rfl ?_ | refine wm rfl rfl rfl ?_ ?_ | refine wo rfl (wp rfl rfl rfl rfl rfl ?_) rfl ?_ | refine wo rfl (wq agree rfl rfl rfl ?_) rfl ?_ | refine wt rfl ?_ ?_ | refine wu rfl ?_ ?_ | refine wv rfl rfl ?_ rfl rfl ?_ | refine xa agree rfl rfl ?_ ?_ | refine xb agree rfl rfl rfl ?_ ?_); try (first | exact trivial | (rw [hgd] <;> rfl) | ((repeat' apply And.intro) <;> first | exact trivial | exact rfl | omega | (simp; done) | (simp; omega)))) | refine wn (wr rfl rfl rfl) rfl ?_ | refine wo rfl (wr rfl rfl rfl) rfl ?_ | refine ws rfl rfl ?_ | refine wj rfl ?_ | refine wk rfl ?_ | refine ww rfl rfl rfl ?_)
      have hpl2 : ((gr g).get []).pl = true := gr_pl g
      refine wn (wA rfl rfl rfl (by repeat' (first | exact trivial | exact rfl | assumption | apply And.intro)) (callable (by decide)) (c_rOuts g b hg)) rfl ?_
      repeat (first | apply wa | apply wb | apply wc | apply wd | apply we | apply wf | apply wg | apply wh | apply wi | ((first | refine wl rfl rfl ?_ ?_ | refine wn (wp rfl rfl rfl rfl rfl ?_) rfl ?_ | refine wn (wq agree rfl rfl rfl ?_) rfl ?_ | refine wm rfl rfl rfl ?_ ?_ | refine wo rfl (wp rfl rfl rfl rfl rfl ?_) rfl ?_ | refine wo rfl (wq agree rfl rfl rfl ?_) rfl ?_ | refine wt rfl ?_ ?_ | refine wu rfl ?_ ?_ | refine wv rfl rfl ?_ rfl rfl ?_ | refine xa agree rfl rfl ?_ ?_ | refine xb agree rfl rfl rfl ?_ ?_); try (first | exact trivial | (rw [hgd] <;> rfl) | ((repeat' apply And.intro) <;> first | exact trivial | exact rfl | omega | (simp; done) | (simp; omega)))) | refine wn (wr rfl rfl rfl) rfl ?_ | refine wo rfl (wr rfl rfl rfl) rfl ?_ | refine ws rfl rfl ?_ | refine wj rfl ?_ | refine wk rfl ?_ | refine ww rfl rfl rfl ?_)
      refine wn (wA rfl rfl rfl (by repeat' (first | exact trivial | exact rfl | assumption | apply And.intro)) (callable (by decide)) (c_rBits (outsN g (b : Int)) (outs_lt g b))) rfl ?_
      obtain ⟨o, ho⟩ : ∃ o, o = bitsL (outsN g (b : Int)) := ⟨_, rfl⟩
      have hol : o.length = 64 := by rw [ho]; exact bitsTo_len _ _
      have hoa : ∀ k, k < 64 → o.getD k false = edge g b k := fun k hk => by rw [ho, bits_at hk, outs_bit]
      have hN := hI2.next hb2 h1' hoa
      rw [← ho]
      repeat (first | apply wa | apply wb | apply wc | apply wd | apply we | apply wf | apply wg | apply wh | apply wi | ((first | refine wl rfl rfl ?_ ?_ | refine wn (wp rfl rfl rfl rfl rfl ?_) rfl ?_ | refine wn (wq agree rfl rfl rfl ?_) rfl ?_ | refine wm rfl rfl rfl ?_ ?_ | refine wo rfl (wp rfl rfl rfl rfl rfl ?_) rfl ?_ | refine wo rfl (wq agree rfl rfl rfl ?_) rfl ?_ | refine wt rfl ?_ ?_ | refine wu rfl ?_ ?_ | refine wv rfl rfl ?_ rfl rfl ?_ | refine xa agree rfl rfl ?_ ?_ | refine xb agree rfl rfl rfl ?_ ?_); try (first | exact trivial | (rw [hgd] <;> rfl) | ((repeat' apply And.intro) <;> first | exact trivial | exact rfl | omega | (simp; done) | (simp; omega)))) | refine wn (wr rfl rfl rfl) rfl ?_ | refine wo rfl (wr rfl rfl rfl) rfl ?_ | refine ws rfl rfl ?_ | refine wj rfl ?_ | refine wk rfl ?_ | refine ww rfl rfl rfl ?_)
      refine wv rfl rfl (bo_pl _) (bo_stoAll (z := List.replicate 64 false) (n := 64) hol rfl rfl) rfl ?_
      first | refine OpsAt.sayB (d := 9) rfl (y := bo o) (rfl) ?_ | refine Run.sayB (d := 9) rfl (y := bo o) (rfl) ?_
      repeat (first | apply wa | apply wb | apply wc | apply wd | apply we | apply wf | apply wg | apply wh | apply wi | ((first | refine wl rfl rfl ?_ ?_ | refine wn (wp rfl rfl rfl rfl rfl ?_) rfl ?_ | refine wn (wq agree rfl rfl rfl ?_) rfl ?_ | refine wm rfl rfl rfl ?_ ?_ | refine wo rfl (wp rfl rfl rfl rfl rfl ?_) rfl ?_ | refine wo rfl (wq agree rfl rfl rfl ?_) rfl ?_ | refine wt rfl ?_ ?_ | refine wu rfl ?_ ?_ | refine wv rfl rfl ?_ rfl rfl ?_ | refine xa agree rfl rfl ?_ ?_ | refine xb agree rfl rfl rfl ?_ ?_); try (first | exact trivial | (rw [hgd] <;> rfl) | ((repeat' apply And.intro) <;> first | exact trivial | exact rfl | omega | (simp; done) | (simp; omega)))) | refine wn (wr rfl rfl rfl) rfl ?_ | refine wo rfl (wr rfl rfl rfl) rfl ?_ | refine ws rfl rfl ?_ | refine wj rfl ?_ | refine wk rfl ?_ | refine ww rfl rfl rfl ?_)
      refine Run.keep [2, 5, 6, 7, 8, 9, 10] rfl ?_
      refine Run.at (l' := [(2, .box (gr g)), (5, .box (bo (orTo l2 o 0))), (6, .box (bo (h2.set b true))), (7, .d (.v (.bool true))), (8, .d (.v (.int .i64 b))), (9, .box (bo o)), (10, .d (.v (.int .i64 (0 : Nat))))]) (by rw [orTo_zero hI2.ll]; rfl) ?_
      refine Run.loopL (α := Nat) (fun c => c ≤ 32) (fun c => [(2, .box (gr g)), (5, .box (bo (orTo l2 o c))), (6, .box (bo (h2.set b true))), (7, .d (.v (.bool true))), (8, .d (.v (.int .i64 b))), (9, .box (bo o)), (10, .d (.v (.int .i64 c)))]) (fun c => 32 - c) 0 (by decide) ?_
      intro c hc ih3
      obtain ⟨u, hu⟩ : ∃ u, u = orTo l2 o c := ⟨_, rfl⟩
      have hul : u.length = 64 := by rw [hu, orTo_len]
      refine Run.at (l' := [(2, .box (gr g)), (5, .box (bo u)), (6, .box (bo (h2.set b true))), (7, .d (.v (.bool true))), (8, .d (.v (.int .i64 b))), (9, .box (bo o)), (10, .d (.v (.int .i64 c)))]) (by rw [hu]) ?_
      repeat (first | apply wa | apply wb | apply wc | apply wd | apply we | apply wf | apply wg | apply wh | apply wi | ((first | refine wl rfl rfl ?_ ?_ | refine wn (wp rfl rfl rfl rfl rfl ?_) rfl ?_ | refine wn (wq agree rfl rfl rfl ?_) rfl ?_ | refine wm rfl rfl rfl ?_ ?_ | refine wo rfl (wp rfl rfl rfl rfl rfl ?_) rfl ?_ | refine wo rfl (wq agree rfl rfl rfl ?_) rfl ?_ | refine wt rfl ?_ ?_ | refine wu rfl ?_ ?_ | refine wv rfl rfl ?_ rfl rfl ?_ | refine xa agree rfl rfl ?_ ?_ | refine xb agree rfl rfl rfl ?_ ?_); try (first | exact trivial | (rw [hgd] <;> rfl) | ((repeat' apply And.intro) <;> first | exact trivial | exact rfl | omega | (simp; done) | (simp; omega)))) | refine wn (wr rfl rfl rfl) rfl ?_ | refine wo rfl (wr rfl rfl rfl) rfl ?_ | refine ws rfl rfl ?_ | refine wj rfl ?_ | refine wk rfl ?_ | refine ww rfl rfl rfl ?_)
      refine Run.condB rfl rfl (fun hc2 => ?_) (fun hc2 => ?_)
      · have hc3 : c < 32 := by simp at hc2; omega
        have huc : u.getD c false = l2.getD c false := by rw [hu, orTo_at _ _ (by omega)]; simp
        have gu : (bo u).get ([] ++ [((c : Int)).toNat]) = .v (.bool (l2.getD c false)) := by rw [← huc]; exact bo_at (by omega)
        have go : (bo o).get ([] ++ [((c : Int)).toNat]) = .v (.bool (o.getD c false)) := bo_at (by omega)
        repeat (first | apply wa | apply wb | apply wc | apply wd | apply we | apply wf | apply wg | apply wh | apply wi | ((first | refine wl rfl rfl ?_ ?_ | refine wn (wp rfl rfl rfl rfl rfl ?_) rfl ?_ | refine wn (wq agree rfl rfl rfl ?_) rfl ?_ | refine wm rfl rfl rfl ?_ ?_ | refine wo rfl (wp rfl rfl rfl rfl rfl ?_) rfl ?_ | refine wo rfl (wq agree rfl rfl rfl ?_) rfl ?_ | refine wt rfl ?_ ?_ | refine wu rfl ?_ ?_ | refine wv rfl rfl ?_ rfl rfl ?_ | refine xa agree rfl rfl ?_ ?_ | refine xb agree rfl rfl rfl ?_ ?_); try (first | exact trivial | (rw [hgd] <;> rfl) | ((repeat' apply And.intro) <;> first | exact trivial | exact rfl | omega | (simp; done) | (simp; omega)))) | refine wn (wr rfl rfl rfl) rfl ?_ | refine wo rfl (wr rfl rfl rfl) rfl ?_ | refine ws rfl rfl ?_ | refine wj rfl ?_ | refine wk rfl ?_ | refine ww rfl rfl rfl ?_)
        · exact ⟨rfl, rfl, by rw [bools_len, hul], by omega, by omega⟩
        refine wn (Ev.ldBox rfl (adrOf_sound rfl) (ld_ok (T := 4) gu rfl).1 (ld_ok (T := 4) gu rfl).2) rfl ?_
        first | refine OpsAt.say (d := 42) rfl (y := .v (.bool (l2.getD c false))) (gu) ?_ | refine Run.say (d := 42) rfl (y := .v (.bool (l2.getD c false))) (gu) ?_ | refine OpsB.say (d := 42) rfl (y := .v (.bool (l2.getD c false))) (gu) ?_
        repeat (first | apply wa | apply wb | apply wc | apply wd | apply we | apply wf | apply wg | apply wh | apply wi | ((first | refine wl rfl rfl ?_ ?_ | refine wn (wp rfl rfl rfl rfl rfl ?_) rfl ?_ | refine wn (wq agree rfl rfl rfl ?_) rfl ?_ | refine wm rfl rfl rfl ?_ ?_ | refine wo rfl (wp rfl rfl rfl rfl rfl ?_) rfl ?_ | refine wo rfl (wq agree rfl rfl rfl ?_) rfl ?_ | refine wt rfl ?_ ?_ | refine wu rfl ?_ ?_ | refine wv rfl rfl ?_ rfl rfl ?_ | refine xa agree rfl rfl ?_ ?_ | refine xb agree rfl rfl rfl ?_ ?_); try (first | exact trivial | (rw [hgd] <;> rfl) | ((repeat' apply And.intro) <;> first | exact trivial | exact rfl | omega | (simp; done) | (simp; omega)))) | refine wn (wr rfl rfl rfl) rfl ?_ | refine wo rfl (wr rfl rfl rfl) rfl ?_ | refine ws rfl rfl ?_ | refine wj rfl ?_ | refine wk rfl ?_ | refine ww rfl rfl rfl ?_)
        refine OpsAt.br rfl rfl rfl (fun h5 => ?_) (fun h5 => ?_)
        · repeat (first | apply wa | apply wb | apply wc | apply wd | apply we | apply wf | apply wg | apply wh | apply wi | ((first | refine wl rfl rfl ?_ ?_ | refine wn (wp rfl rfl rfl rfl rfl ?_) rfl ?_ | refine wn (wq agree rfl rfl rfl ?_) rfl ?_ | refine wm rfl rfl rfl ?_ ?_ | refine wo rfl (wp rfl rfl rfl rfl rfl ?_) rfl ?_ | refine wo rfl (wq agree rfl rfl rfl ?_) rfl ?_ | refine wt rfl ?_ ?_ | refine wu rfl ?_ ?_ | refine wv rfl rfl ?_ rfl rfl ?_ | refine xa agree rfl rfl ?_ ?_ | refine xb agree rfl rfl rfl ?_ ?_); try (first | exact trivial | (rw [hgd] <;> rfl) | ((repeat' apply And.intro) <;> first | exact trivial | exact rfl | omega | (simp; done) | (simp; omega)))) | refine wn (wr rfl rfl rfl) rfl ?_ | refine wo rfl (wr rfl rfl rfl) rfl ?_ | refine ws rfl rfl ?_ | refine wj rfl ?_ | refine wk rfl ?_ | refine ww rfl rfl rfl ?_)
          · exact ⟨rfl, rfl, by rw [bools_len, hul], by omega, by omega⟩
          first | refine OpsAt.say (d := 47) rfl (y := .v (.bool (l2.getD c false || o.getD c false))) (by rw [h5]; rfl) ?_ | refine Run.say (d := 47) rfl (y := .v (.bool (l2.getD c false || o.getD c false))) (by rw [h5]; rfl) ?_ | refine OpsB.say (d := 47) rfl (y := .v (.bool (l2.getD c false || o.getD c false))) (by rw [h5]; rfl) ?_
          refine wv rfl rfl rfl (bo_sto (by rw [hul]; omega) rfl) rfl ?_
          first | refine OpsAt.sayB (d := 5) rfl (y := bo (orTo l2 o (c + 1))) ((bo_set u c _).trans (by rw [hu, orTo_set l2 o (by omega)])) ?_ | refine Run.sayB (d := 5) rfl (y := bo (orTo l2 o (c + 1))) ((bo_set u c _).trans (by rw [hu, orTo_set l2 o (by omega)])) ?_
          repeat (first | apply wa | apply wb | apply wc | apply wd | apply we | apply wf | apply wg | apply wh | apply wi | ((first | refine wl rfl rfl ?_ ?_ | refine wn (wp rfl rfl rfl rfl rfl ?_) rfl ?_ | refine wn (wq agree rfl rfl rfl ?_) rfl ?_ | refine wm rfl rfl rfl ?_ ?_ | refine wo rfl (wp rfl rfl rfl rfl rfl ?_) rfl ?_ | refine wo rfl (wq agree rfl rfl rfl ?_) rfl ?_ | refine wt rfl ?_ ?_ | refine wu rfl ?_ ?_ | refine wv rfl rfl ?_ rfl rfl ?_ | refine xa agree rfl rfl ?_ ?_ | refine xb agree rfl rfl rfl ?_ ?_); try (first | exact trivial | (rw [hgd] <;> rfl) | ((repeat' apply And.intro) <;> first | exact trivial | exact rfl | omega | (simp; done) | (simp; omega)))) | refine wn (wr rfl rfl rfl) rfl ?_ | refine wo rfl (wr rfl rfl rfl) rfl ?_ | refine ws rfl rfl ?_ | refine wj rfl ?_ | refine wk rfl ?_ | refine ww rfl rfl rfl ?_)
          first | refine OpsAt.say (d := 10) rfl (y := .v (.int .i64 (c + 1 : Nat))) (by rw [wrap64_in ((c : Int) + 1) (by omega)]; simp) ?_ | refine Run.say (d := 10) rfl (y := .v (.int .i64 (c + 1 : Nat))) (by rw [wrap64_in ((c : Int) + 1) (by omega)]; simp) ?_ | refine OpsB.say (d := 10) rfl (y := .v (.int .i64 (c + 1 : Nat))) (by rw [wrap64_in ((c : Int) + 1) (by omega)]; simp) ?_
          refine Run.keep [2, 5, 6, 7, 8, 9, 10] rfl ?_
          exact ih3 (c + 1) (by omega) (by omega)
        · repeat (first | apply wa | apply wb | apply wc | apply wd | apply we | apply wf | apply wg | apply wh | apply wi | ((first | refine wl rfl rfl ?_ ?_ | refine wn (wp rfl rfl rfl rfl rfl ?_) rfl ?_ | refine wn (wq agree rfl rfl rfl ?_) rfl ?_ | refine wm rfl rfl rfl ?_ ?_ | refine wo rfl (wp rfl rfl rfl rfl rfl ?_) rfl ?_ | refine wo rfl (wq agree rfl rfl rfl ?_) rfl ?_ | refine wt rfl ?_ ?_ | refine wu rfl ?_ ?_ | refine wv rfl rfl ?_ rfl rfl ?_ | refine xa agree rfl rfl ?_ ?_ | refine xb agree rfl rfl rfl ?_ ?_); try (first | exact trivial | (rw [hgd] <;> rfl) | ((repeat' apply And.intro) <;> first | exact trivial | exact rfl | omega | (simp; done) | (simp; omega)))) | refine wn (wr rfl rfl rfl) rfl ?_ | refine wo rfl (wr rfl rfl rfl) rfl ?_ | refine ws rfl rfl ?_ | refine wj rfl ?_ | refine wk rfl ?_ | refine ww rfl rfl rfl ?_)
          · exact ⟨rfl, rfl, by rw [bools_len, hol], by omega, by omega⟩
          refine wo rfl (Ev.ldBox rfl (adrOf_sound rfl) (ld_ok (T := 4) go rfl).1 (ld_ok (T := 4) go rfl).2) rfl ?_
          first | refine OpsAt.say (d := 46) rfl (y := .v (.bool (o.getD c false))) (go) ?_ | refine Run.say (d := 46) rfl (y := .v (.bool (o.getD c false))) (go) ?_ | refine OpsB.say (d := 46) rfl (y := .v (.bool (o.getD c false))) (go) ?_
          repeat (first | apply wa | apply wb | apply wc | apply wd | apply we | apply wf | apply wg | apply wh | apply wi | ((first | refine wl rfl rfl ?_ ?_ | refine wn (wp rfl rfl rfl rfl rfl ?_) rfl ?_ | refine wn (wq agree rfl rfl rfl ?_) rfl ?_ | refine wm rfl rfl rfl ?_ ?_ | refine wo rfl (wp rfl rfl rfl rfl rfl ?_) rfl ?_ | refine wo rfl (wq agree rfl rfl rfl ?_) rfl ?_ | refine wt rfl ?_ ?_ | refine wu rfl ?_ ?_ | refine wv rfl rfl ?_ rfl rfl ?_ | refine xa agree rfl rfl ?_ ?_ | refine xb agree rfl rfl rfl ?_ ?_); try (first | exact trivial | (rw [hgd] <;> rfl) | ((repeat' apply And.intro) <;> first | exact trivial | exact rfl | omega | (simp; done) | (simp; omega)))) | refine wn (wr rfl rfl rfl) rfl ?_ | refine wo rfl (wr rfl rfl rfl) rfl ?_ | refine ws rfl rfl ?_ | refine wj rfl ?_ | refine wk rfl ?_ | refine ww rfl rfl rfl ?_)
          · exact ⟨rfl, rfl, by rw [bools_len, hul], by omega, by omega⟩
          first | refine OpsAt.say (d := 47) rfl (y := .v (.bool (l2.getD c false || o.getD c false))) (by rw [h5]; rfl) ?_ | refine Run.say (d := 47) rfl (y := .v (.bool (l2.getD c false || o.getD c false))) (by rw [h5]; rfl) ?_ | refine OpsB.say (d := 47) rfl (y := .v (.bool (l2.getD c false || o.getD c false))) (by rw [h5]; rfl) ?_
          refine wv rfl rfl rfl (bo_sto (by rw [hul]; omega) rfl) rfl ?_
          first | refine OpsAt.sayB (d := 5) rfl (y := bo (orTo l2 o (c + 1))) ((bo_set u c _).trans (by rw [hu, orTo_set l2 o (by omega)])) ?_ | refine Run.sayB (d := 5) rfl (y := bo (orTo l2 o (c + 1))) ((bo_set u c _).trans (by rw [hu, orTo_set l2 o (by omega)])) ?_
          repeat (first | apply wa | apply wb | apply wc | apply wd | apply we | apply wf | apply wg | apply wh | apply wi | ((first | refine wl rfl rfl ?_ ?_ | refine wn (wp rfl rfl rfl rfl rfl ?_) rfl ?_ | refine wn (wq agree rfl rfl rfl ?_) rfl ?_ | refine wm rfl rfl rfl ?_ ?_ | refine wo rfl (wp rfl rfl rfl rfl rfl ?_) rfl ?_ | refine wo rfl (wq agree rfl rfl rfl ?_) rfl ?_ | refine wt rfl ?_ ?_ | refine wu rfl ?_ ?_ | refine wv rfl rfl ?_ rfl rfl ?_ | refine xa agree rfl rfl ?_ ?_ | refine xb agree rfl rfl rfl ?_ ?_); try (first | exact trivial | (rw [hgd] <;> rfl) | ((repeat' apply And.intro) <;> first | exact trivial | exact rfl | omega | (simp; done) | (simp; omega)))) | refine wn (wr rfl rfl rfl) rfl ?_ | refine wo rfl (wr rfl rfl rfl) rfl ?_ | refine ws rfl rfl ?_ | refine wj rfl ?_ | refine wk rfl ?_ | refine ww rfl rfl rfl ?_)
          first | refine OpsAt.say (d := 10) rfl (y := .v (.int .i64 (c + 1 : Nat))) (by rw [wrap64_in ((c : Int) + 1) (by omega)]; simp) ?_ | refine Run.say (d := 10) rfl (y := .v (.int .i64 (c + 1 : Nat))) (by rw [wrap64_in ((c : Int) + 1) (by omega)]; simp) ?_ | refine OpsB.say (d := 10) rfl (y := .v (.int .i64 (c + 1 : Nat))) (by rw [wrap64_in ((c : Int) + 1) (by omega)]; simp) ?_
          refine Run.keep [2, 5, 6, 7, 8, 9, 10] rfl ?_
          exact ih3 (c + 1) (by omega) (by omega)
      · have hc3 : c = 32 := by simp at hc2; omega
        subst hc3
        repeat (first | apply wa | apply wb | apply wc | apply wd | apply we | apply wf | apply wg | apply wh | apply wi | ((first | refine wl rfl rfl ?_ ?_ | refine wn (wp rfl rfl rfl rfl rfl ?_) rfl ?_ | refine wn (wq agree rfl rfl rfl ?_) rfl ?_ | refine wm rfl rfl rfl ?_ ?_ | refine wo rfl (wp rfl rfl rfl rfl rfl ?_) rfl ?_ | refine wo rfl (wq agree rfl rfl rfl ?_) rfl ?_ | refine wt rfl ?_ ?_ | refine wu rfl ?_ ?_ | refine wv rfl rfl ?_ rfl rfl ?_ | refine xa agree rfl rfl ?_ ?_ | refine xb agree rfl rfl rfl ?_ ?_); try (first | exact trivial | (rw [hgd] <;> rfl) | ((repeat' apply And.intro) <;> first | exact trivial | exact rfl | omega | (simp; done) | (simp; omega)))) | refine wn (wr rfl rfl rfl) rfl ?_ | refine wo rfl (wr rfl rfl rfl) rfl ?_ | refine ws rfl rfl ?_ | refine wj rfl ?_ | refine wk rfl ?_ | refine ww rfl rfl rfl ?_)
        first | refine OpsAt.sayB (d := 5) rfl (y := bo (orTo l2 o 32)) (by rw [hu]) ?_ | refine Run.sayB (d := 5) rfl (y := bo (orTo l2 o 32)) (by rw [hu]) ?_
        first | refine OpsAt.say (d := 8) rfl (y := .v (.int .i64 (b + 1 : Nat))) (by rw [wrap64_in ((b : Int) + 1) (by omega)]; simp) ?_ | refine Run.say (d := 8) rfl (y := .v (.int .i64 (b + 1 : Nat))) (by rw [wrap64_in ((b : Int) + 1) (by omega)]; simp) ?_ | refine OpsB.say (d := 8) rfl (y := .v (.int .i64 (b + 1 : Nat))) (by rw [wrap64_in ((b : Int) + 1) (by omega)]; simp) ?_
        refine Run.keep [2, 5, 6, 7, 8] rfl ?_
        refine ih2 (b + 1, orTo l2 o 32, h2.set b true, true) ⟨by show b + 1 ≤ 32; omega, hN, ?_, fun h => by cases h⟩ (by show 32 - (b + 1) < 32 - b; omega)
        show cntB (h2.set b true) 32 + 1 ≤ cntB h 32
        omega
    · have hb2 : b = 32 := by simp at hb; omega
      subst hb2
      repeat (first | apply wa | apply wb | apply wc | apply wd | apply we | apply wf | apply wg | apply wh | apply wi | ((first | refine wl rfl rfl ?_ ?_ | refine wn (wp rfl rfl rfl rfl rfl ?_) rfl ?_ | refine wn (wq agree rfl rfl rfl ?_) rfl ?_ | refine wm rfl rfl rfl ?_ ?_ | refine wo rfl (wp rfl rfl rfl rfl rfl ?_) rfl ?_ | refine wo rfl (wq agree rfl rfl rfl ?_) rfl ?_ | refine wt rfl ?_ ?_ | refine wu rfl ?_ ?_ | refine wv rfl rfl ?_ rfl rfl ?_ | refine xa agree rfl rfl ?_ ?_ | refine xb agree rfl rfl rfl ?_ ?_); try (first | exact trivial | (rw [hgd] <;> rfl) | ((repeat' apply And.intro) <;> first | exact trivial | exact rfl | omega | (simp; done) | (simp; omega)))) | refine wn (wr rfl rfl rfl) rfl ?_ | refine wo rfl (wr rfl rfl rfl) rfl ?_ | refine ws rfl rfl ?_ | refine wj rfl ?_ | refine wk rfl ?_ | refine ww rfl rfl rfl ?_)
      refine Run.keep [2, 5, 6, 7] rfl ?_
      refine ih (l2, h2, m2) ⟨hI2, hm2⟩ ?_
      show 2 * cntB h2 32 + (if m2 then 1 else 0) < 2 * cntB h 32 + 1
      cases m2 with
      | true => simp only [if_true] at hcnt ⊢; omega
      | false => simp only [Bool.false_eq_true, if_false] at hcnt ⊢; omega
  · subst hmore
    repeat (first | apply wa | apply wb | apply wc | apply wd | apply we | apply wf | apply wg | apply wh | apply wi | ((first | refine wl rfl rfl ?_ ?_ | refine wn (wp rfl rfl rfl rfl rfl ?_) rfl ?_ | refine wn (wq agree rfl rfl rfl ?_) rfl ?_ | refine wm rfl rfl rfl ?_ ?_ | refine wo rfl (wp rfl rfl rfl rfl rfl ?_) rfl ?_ | refine wo rfl (wq agree rfl rfl rfl ?_) rfl ?_ | refine wt rfl ?_ ?_ | refine wu rfl ?_ ?_ | refine wv rfl rfl ?_ rfl rfl ?_ | refine xa agree rfl rfl ?_ ?_ | refine xb agree rfl rfl rfl ?_ ?_); try (first | exact trivial | (rw [hgd] <;> rfl) | ((repeat' apply And.intro) <;> first | exact trivial | exact rfl | omega | (simp; done) | (simp; omega)))) | refine wn (wr rfl rfl rfl) rfl ?_ | refine wo rfl (wr rfl rfl rfl) rfl ?_ | refine ws rfl rfl ?_ | refine wj rfl ?_ | refine wk rfl ?_ | refine ww rfl rfl rfl ?_)
    · exact ⟨bo_fits hI.ll rfl, bo_pl _⟩
    repeat (first | apply wa | apply wb | apply wc | apply wd | apply we | apply wf | apply wg | apply wh | apply wi | ((first | refine wl rfl rfl ?_ ?_ | refine wn (wp rfl rfl rfl rfl rfl ?_) rfl ?_ | refine wn (wq agree rfl rfl rfl ?_) rfl ?_ | refine wm rfl rfl rfl ?_ ?_ | refine wo rfl (wp rfl rfl rfl rfl rfl ?_) rfl ?_ | refine wo rfl (wq agree rfl rfl rfl ?_) rfl ?_ | refine wt rfl ?_ ?_ | refine wu rfl ?_ ?_ | refine wv rfl rfl ?_ rfl rfl ?_ | refine xa agree rfl rfl ?_ ?_ | refine xb agree rfl rfl rfl ?_ ?_); try (first | exact trivial | (rw [hgd] <;> rfl) | ((repeat' apply And.intro) <;> first | exact trivial | exact rfl | omega | (simp; done) | (simp; omega)))) | refine wn (wr rfl rfl rfl) rfl ?_ | refine wo rfl (wr rfl rfl rfl) rfl ?_ | refine ws rfl rfl ?_ | refine wj rfl ?_ | refine wk rfl ?_ | refine ww rfl rfl rfl ?_)
    have hplb : ((bo l).get []).pl = true := bo_pl l
    refine wn (wA rfl rfl rfl (by repeat' (first | exact trivial | exact rfl | assumption | apply And.intro)) (callable (by decide)) (c_rSum l hI.ll)) rfl ?_
    repeat (first | apply wa | apply wb | apply wc | apply wd | apply we | apply wf | apply wg | apply wh | apply wi | ((first | refine wl rfl rfl ?_ ?_ | refine wn (wp rfl rfl rfl rfl rfl ?_) rfl ?_ | refine wn (wq agree rfl rfl rfl ?_) rfl ?_ | refine wm rfl rfl rfl ?_ ?_ | refine wo rfl (wp rfl rfl rfl rfl rfl ?_) rfl ?_ | refine wo rfl (wq agree rfl rfl rfl ?_) rfl ?_ | refine wt rfl ?_ ?_ | refine wu rfl ?_ ?_ | refine wv rfl rfl ?_ rfl rfl ?_ | refine xa agree rfl rfl ?_ ?_ | refine xb agree rfl rfl rfl ?_ ?_); try (first | exact trivial | (rw [hgd] <;> rfl) | ((repeat' apply And.intro) <;> first | exact trivial | exact rfl | omega | (simp; done) | (simp; omega)))) | refine wn (wr rfl rfl rfl) rfl ?_ | refine wo rfl (wr rfl rfl rfl) rfl ?_ | refine ws rfl rfl ?_ | refine wj rfl ?_ | refine wk rfl ?_ | refine ww rfl rfl rfl ?_)
    refine wD (wE rfl rfl ?_)
    rw [hI.done (hm rfl)]
end Go.Proofs.YthiicbpoahilcaaDoor
