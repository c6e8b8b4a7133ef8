/- Texts S22, RRows, CRows in one file. No conditions. -/
import Derived.Test.YthiicbpoahilcaaDoorTC
import Derived.Test.YthiicbpoahilcaaDoorKC
import Derived.Test.YthiicbpoahilcaaDoorRows
import Derived.WalkKit
import Derived.ProofKit
import Derived.OpenShut
import Derived.ChangeOld
import Derived.Test.YthiicbpoahilcaaDoorTie
import Derived.Test.YthiicbpoahilcaaDoorCards
import Derived.SevenTiedAt

namespace Go.Proofs.YthiicbpoahilcaaDoor
open Go Go.Dat

theorem inR {l : List Int} (hl : l.length = 32) : rightO l = true → ∀ x ∈ l, 0 ≤ x ∧ x < 32 := fun h _ hx => ((rightO_p hl h).mem).1 hx
theorem Perm32.rowR {l : List Int} (h : Perm32 l) : Perm32 (rowOf l 32) := by
  refine ⟨rowOf_len l 32, perm_of_all 32 _ (by rw [rowOf_len]; omega) fun p hp => ?_⟩
  have hq := h.pl_eq hp
  have hm : (rowOf l 32).getD (pl l p) 0 ∈ rowOf l 32 := getD_mem (by rw [rowOf_len]; exact hq.2)
  rw [h.row hq.2, h.at_pl hp] at hm
  exact hm

theorem c_TopoRows (l : List Int) (hl : l.length = 32) : DFun Tryd.prog 6 [ord l] (.v (.bool true)) := by
  refine DFun.ofRun agree mixed Tryd.func6 rfl rfl ?_
  repeat (first | refine wa ?_ | refine wb ?_ | refine wc ?_ | refine wd ?_ | refine we ?_ | refine wf ?_ | refine wg ?_ | refine wh ?_ | refine wi ?_ | ((first | refine wl rfl rfl ?_ ?_ | refine wn (wp rfl rfl rfl rfl rfl ?_) rfl ?_ | refine wn (wq agree rfl rfl rfl ?_) rfl ?_ | refine wm rfl rfl rfl ?_ ?_ | refine wo rfl (wp rfl rfl rfl rfl rfl ?_) rfl ?_ | refine wo rfl (wq agree rfl rfl rfl ?_) rfl ?_ | refine wt rfl ?_ ?_ | refine wu rfl ?_ ?_ | refine wv rfl rfl ?_ rfl rfl ?_ | refine xa agree rfl rfl ?_ ?_ | refine xb agree rfl rfl rfl ?_ ?_); try (first | exact trivial | (rw [hgd] <;> rfl) | (rw [hgd2] <;> rfl) | ((repeat' apply And.intro) <;> first | exact trivial | exact rfl | omega | (simp; done) | (simp; omega)))) | refine wn (wr rfl rfl rfl) rfl ?_ | refine wo rfl (wr rfl rfl rfl) rfl ?_ | refine ws rfl rfl ?_ | refine wj rfl ?_ | refine wk rfl ?_ | refine ww rfl rfl rfl ?_ | refine wz rfl (by decide) rfl rfl rfl ?_ | (refine wx rfl rfl (.vw (vwOf_sound rfl)) rfl rfl ?_ ?_ rfl ?_; (try (simp <;> omega)); (try (simp [maxLen] <;> omega))) | (refine wy rfl rfl rfl rfl rfl rfl ?_ ?_ ?_ ?_; (try (first | trivial | rfl)); (try (simp <;> omega)); (try (simp [maxLen] <;> omega))))
  · exact ord_pl l
  repeat (first | refine wa ?_ | refine wb ?_ | refine wc ?_ | refine wd ?_ | refine we ?_ | refine wf ?_ | refine wg ?_ | refine wh ?_ | refine wi ?_ | ((first | refine wl rfl rfl ?_ ?_ | refine wn (wp rfl rfl rfl rfl rfl ?_) rfl ?_ | refine wn (wq agree rfl rfl rfl ?_) rfl ?_ | refine wm rfl rfl rfl ?_ ?_ | refine wo rfl (wp rfl rfl rfl rfl rfl ?_) rfl ?_ | refine wo rfl (wq agree rfl rfl rfl ?_) rfl ?_ | refine wt rfl ?_ ?_ | refine wu rfl ?_ ?_ | refine wv rfl rfl ?_ rfl rfl ?_ | refine xa agree rfl rfl ?_ ?_ | refine xb agree rfl rfl rfl ?_ ?_); try (first | exact trivial | (rw [hgd] <;> rfl) | (rw [hgd2] <;> rfl) | ((repeat' apply And.intro) <;> first | exact trivial | exact rfl | omega | (simp; done) | (simp; omega)))) | refine wn (wr rfl rfl rfl) rfl ?_ | refine wo rfl (wr rfl rfl rfl) rfl ?_ | refine ws rfl rfl ?_ | refine wj rfl ?_ | refine wk rfl ?_ | refine ww rfl rfl rfl ?_ | refine wz rfl (by decide) rfl rfl rfl ?_ | (refine wx rfl rfl (.vw (vwOf_sound rfl)) rfl rfl ?_ ?_ rfl ?_; (try (simp <;> omega)); (try (simp [maxLen] <;> omega))) | (refine wy rfl rfl rfl rfl rfl rfl ?_ ?_ ?_ ?_; (try (first | trivial | rfl)); (try (simp <;> omega)); (try (simp [maxLen] <;> omega))))
  refine wn (wA rfl rfl rfl (by repeat' (first | exact trivial | exact rfl | assumption | apply And.intro)) (callable (by decide)) (c_alive)) rfl ?_
  repeat (first | refine wa ?_ | refine wb ?_ | refine wc ?_ | refine wd ?_ | refine we ?_ | refine wf ?_ | refine wg ?_ | refine wh ?_ | refine wi ?_ | ((first | refine wl rfl rfl ?_ ?_ | refine wn (wp rfl rfl rfl rfl rfl ?_) rfl ?_ | refine wn (wq agree rfl rfl rfl ?_) rfl ?_ | refine wm rfl rfl rfl ?_ ?_ | refine wo rfl (wp rfl rfl rfl rfl rfl ?_) rfl ?_ | refine wo rfl (wq agree rfl rfl rfl ?_) rfl ?_ | refine wt rfl ?_ ?_ | refine wu rfl ?_ ?_ | refine wv rfl rfl ?_ rfl rfl ?_ | refine xa agree rfl rfl ?_ ?_ | refine xb agree rfl rfl rfl ?_ ?_); try (first | exact trivial | (rw [hgd] <;> rfl) | (rw [hgd2] <;> rfl) | ((repeat' apply And.intro) <;> first | exact trivial | exact rfl | omega | (simp; done) | (simp; omega)))) | refine wn (wr rfl rfl rfl) rfl ?_ | refine wo rfl (wr rfl rfl rfl) rfl ?_ | refine ws rfl rfl ?_ | refine wj rfl ?_ | refine wk rfl ?_ | refine ww rfl rfl rfl ?_ | refine wz rfl (by decide) rfl rfl rfl ?_ | (refine wx rfl rfl (.vw (vwOf_sound rfl)) rfl rfl ?_ ?_ rfl ?_; (try (simp <;> omega)); (try (simp [maxLen] <;> omega))) | (refine wy rfl rfl rfl rfl rfl rfl ?_ ?_ ?_ ?_; (try (first | trivial | rfl)); (try (simp <;> omega)); (try (simp [maxLen] <;> omega))))
  · exact ⟨ord_fits hl rfl, ord_pl l⟩
  repeat (first | refine wa ?_ | refine wb ?_ | refine wc ?_ | refine wd ?_ | refine we ?_ | refine wf ?_ | refine wg ?_ | refine wh ?_ | refine wi ?_ | ((first | refine wl rfl rfl ?_ ?_ | refine wn (wp rfl rfl rfl rfl rfl ?_) rfl ?_ | refine wn (wq agree rfl rfl rfl ?_) rfl ?_ | refine wm rfl rfl rfl ?_ ?_ | refine wo rfl (wp rfl rfl rfl rfl rfl ?_) rfl ?_ | refine wo rfl (wq agree rfl rfl rfl ?_) rfl ?_ | refine wt rfl ?_ ?_ | refine wu rfl ?_ ?_ | refine wv rfl rfl ?_ rfl rfl ?_ | refine xa agree rfl rfl ?_ ?_ | refine xb agree rfl rfl rfl ?_ ?_); try (first | exact trivial | (rw [hgd] <;> rfl) | (rw [hgd2] <;> rfl) | ((repeat' apply And.intro) <;> first | exact trivial | exact rfl | omega | (simp; done) | (simp; omega)))) | refine wn (wr rfl rfl rfl) rfl ?_ | refine wo rfl (wr rfl rfl rfl) rfl ?_ | refine ws rfl rfl ?_ | refine wj rfl ?_ | refine wk rfl ?_ | refine ww rfl rfl rfl ?_ | refine wz rfl (by decide) rfl rfl rfl ?_ | (refine wx rfl rfl (.vw (vwOf_sound rfl)) rfl rfl ?_ ?_ rfl ?_; (try (simp <;> omega)); (try (simp [maxLen] <;> omega))) | (refine wy rfl rfl rfl rfl rfl rfl ?_ ?_ ?_ ?_; (try (first | trivial | rfl)); (try (simp <;> omega)); (try (simp [maxLen] <;> omega))))
  have hpl : ((ord l).get []).pl = true := ord_pl l
  refine wn (wA rfl rfl rfl (by repeat' (first | exact trivial | exact rfl | assumption | apply And.intro)) (callable (by decide)) (c_Row l hl (inR hl))) rfl ?_
  repeat (first | refine wa ?_ | refine wb ?_ | refine wc ?_ | refine wd ?_ | refine we ?_ | refine wf ?_ | refine wg ?_ | refine wh ?_ | refine wi ?_ | ((first | refine wl rfl rfl ?_ ?_ | refine wn (wp rfl rfl rfl rfl rfl ?_) rfl ?_ | refine wn (wq agree rfl rfl rfl ?_) rfl ?_ | refine wm rfl rfl rfl ?_ ?_ | refine wo rfl (wp rfl rfl rfl rfl rfl ?_) rfl ?_ | refine wo rfl (wq agree rfl rfl rfl ?_) rfl ?_ | refine wt rfl ?_ ?_ | refine wu rfl ?_ ?_ | refine wv rfl rfl ?_ rfl rfl ?_ | refine xa agree rfl rfl ?_ ?_ | refine xb agree rfl rfl rfl ?_ ?_); try (first | exact trivial | (rw [hgd] <;> rfl) | (rw [hgd2] <;> rfl) | ((repeat' apply And.intro) <;> first | exact trivial | exact rfl | omega | (simp; done) | (simp; omega)))) | refine wn (wr rfl rfl rfl) rfl ?_ | refine wo rfl (wr rfl rfl rfl) rfl ?_ | refine ws rfl rfl ?_ | refine wj rfl ?_ | refine wk rfl ?_ | refine ww rfl rfl rfl ?_ | refine wz rfl (by decide) rfl rfl rfl ?_ | (refine wx rfl rfl (.vw (vwOf_sound rfl)) rfl rfl ?_ ?_ rfl ?_; (try (simp <;> omega)); (try (simp [maxLen] <;> omega))) | (refine wy rfl rfl rfl rfl rfl rfl ?_ ?_ ?_ ?_; (try (first | trivial | rfl)); (try (simp <;> omega)); (try (simp [maxLen] <;> omega))))
  · exact ⟨ord_fits hl rfl, ord_pl l⟩
  repeat (first | refine wa ?_ | refine wb ?_ | refine wc ?_ | refine wd ?_ | refine we ?_ | refine wf ?_ | refine wg ?_ | refine wh ?_ | refine wi ?_ | ((first | refine wl rfl rfl ?_ ?_ | refine wn (wp rfl rfl rfl rfl rfl ?_) rfl ?_ | refine wn (wq agree rfl rfl rfl ?_) rfl ?_ | refine wm rfl rfl rfl ?_ ?_ | refine wo rfl (wp rfl rfl rfl rfl rfl ?_) rfl ?_ | refine wo rfl (wq agree rfl rfl rfl ?_) rfl ?_ | refine wt rfl ?_ ?_ | refine wu rfl ?_ ?_ | refine wv rfl rfl ?_ rfl rfl ?_ | refine xa agree rfl rfl ?_ ?_ | refine xb agree rfl rfl rfl ?_ ?_); try (first | exact trivial | (rw [hgd] <;> rfl) | (rw [hgd2] <;> rfl) | ((repeat' apply And.intro) <;> first | exact trivial | exact rfl | omega | (simp; done) | (simp; omega)))) | refine wn (wr rfl rfl rfl) rfl ?_ | refine wo rfl (wr rfl rfl rfl) rfl ?_ | refine ws rfl rfl ?_ | refine wj rfl ?_ | refine wk rfl ?_ | refine ww rfl rfl rfl ?_ | refine wz rfl (by decide) rfl rfl rfl ?_ | (refine wx rfl rfl (.vw (vwOf_sound rfl)) rfl rfl ?_ ?_ rfl ?_; (try (simp <;> omega)); (try (simp [maxLen] <;> omega))) | (refine wy rfl rfl rfl rfl rfl rfl ?_ ?_ ?_ ?_; (try (first | trivial | rfl)); (try (simp <;> omega)); (try (simp [maxLen] <;> omega))))
  refine wn (wA rfl rfl rfl (by repeat' (first | exact trivial | exact rfl | assumption | apply And.intro)) (callable (by decide)) (c_Right l hl)) rfl ?_
  repeat (first | refine wa ?_ | refine wb ?_ | refine wc ?_ | refine wd ?_ | refine we ?_ | refine wf ?_ | refine wg ?_ | refine wh ?_ | refine wi ?_ | ((first | refine wl rfl rfl ?_ ?_ | refine wn (wp rfl rfl rfl rfl rfl ?_) rfl ?_ | refine wn (wq agree rfl rfl rfl ?_) rfl ?_ | refine wm rfl rfl rfl ?_ ?_ | refine wo rfl (wp rfl rfl rfl rfl rfl ?_) rfl ?_ | refine wo rfl (wq agree rfl rfl rfl ?_) rfl ?_ | refine wt rfl ?_ ?_ | refine wu rfl ?_ ?_ | refine wv rfl rfl ?_ rfl rfl ?_ | refine xa agree rfl rfl ?_ ?_ | refine xb agree rfl rfl rfl ?_ ?_); try (first | exact trivial | (rw [hgd] <;> rfl) | (rw [hgd2] <;> rfl) | ((repeat' apply And.intro) <;> first | exact trivial | exact rfl | omega | (simp; done) | (simp; omega)))) | refine wn (wr rfl rfl rfl) rfl ?_ | refine wo rfl (wr rfl rfl rfl) rfl ?_ | refine ws rfl rfl ?_ | refine wj rfl ?_ | refine wk rfl ?_ | refine ww rfl rfl rfl ?_ | refine wz rfl (by decide) rfl rfl rfl ?_ | (refine wx rfl rfl (.vw (vwOf_sound rfl)) rfl rfl ?_ ?_ rfl ?_; (try (simp <;> omega)); (try (simp [maxLen] <;> omega))) | (refine wy rfl rfl rfl rfl rfl rfl ?_ ?_ ?_ ?_; (try (first | trivial | rfl)); (try (simp <;> omega)); (try (simp [maxLen] <;> omega))))
  refine Run.condB rfl rfl (fun h0 => ?_) (fun h0 => ?_)
  · have h0' : rightO l = false := by simpa using h0
    repeat (first | refine wa ?_ | refine wb ?_ | refine wc ?_ | refine wd ?_ | refine we ?_ | refine wf ?_ | refine wg ?_ | refine wh ?_ | refine wi ?_ | ((first | refine wl rfl rfl ?_ ?_ | refine wn (wp rfl rfl rfl rfl rfl ?_) rfl ?_ | refine wn (wq agree rfl rfl rfl ?_) rfl ?_ | refine wm rfl rfl rfl ?_ ?_ | refine wo rfl (wp rfl rfl rfl rfl rfl ?_) rfl ?_ | refine wo rfl (wq agree rfl rfl rfl ?_) rfl ?_ | refine wt rfl ?_ ?_ | refine wu rfl ?_ ?_ | refine wv rfl rfl ?_ rfl rfl ?_ | refine xa agree rfl rfl ?_ ?_ | refine xb agree rfl rfl rfl ?_ ?_); try (first | exact trivial | (rw [hgd] <;> rfl) | (rw [hgd2] <;> rfl) | ((repeat' apply And.intro) <;> first | exact trivial | exact rfl | omega | (simp; done) | (simp; omega)))) | refine wn (wr rfl rfl rfl) rfl ?_ | refine wo rfl (wr rfl rfl rfl) rfl ?_ | refine ws rfl rfl ?_ | refine wj rfl ?_ | refine wk rfl ?_ | refine ww rfl rfl rfl ?_ | refine wz rfl (by decide) rfl rfl rfl ?_ | (refine wx rfl rfl (.vw (vwOf_sound rfl)) rfl rfl ?_ ?_ rfl ?_; (try (simp <;> omega)); (try (simp [maxLen] <;> omega))) | (refine wy rfl rfl rfl rfl rfl rfl ?_ ?_ ?_ ?_; (try (first | trivial | rfl)); (try (simp <;> omega)); (try (simp [maxLen] <;> omega))))
    refine wD (wE rfl rfl ?_)
    rw [h0']
    rfl
  · have h0' : rightO l = true := by simpa using h0
    have hp := rightO_p hl h0'
    rw [if_pos h0']
    obtain ⟨r, hr⟩ : ∃ r, r = rowOf l 32 := ⟨_, rfl⟩
    have hrl : r.length = 32 := by rw [hr, rowOf_len]
    rw [← hr]
    repeat (first | refine wa ?_ | refine wb ?_ | refine wc ?_ | refine wd ?_ | refine we ?_ | refine wf ?_ | refine wg ?_ | refine wh ?_ | refine wi ?_ | ((first | refine wl rfl rfl ?_ ?_ | refine wn (wp rfl rfl rfl rfl rfl ?_) rfl ?_ | refine wn (wq agree rfl rfl rfl ?_) rfl ?_ | refine wm rfl rfl rfl ?_ ?_ | refine wo rfl (wp rfl rfl rfl rfl rfl ?_) rfl ?_ | refine wo rfl (wq agree rfl rfl rfl ?_) rfl ?_ | refine wt rfl ?_ ?_ | refine wu rfl ?_ ?_ | refine wv rfl rfl ?_ rfl rfl ?_ | refine xa agree rfl rfl ?_ ?_ | refine xb agree rfl rfl rfl ?_ ?_); try (first | exact trivial | (rw [hgd] <;> rfl) | (rw [hgd2] <;> rfl) | ((repeat' apply And.intro) <;> first | exact trivial | exact rfl | omega | (simp; done) | (simp; omega)))) | refine wn (wr rfl rfl rfl) rfl ?_ | refine wo rfl (wr rfl rfl rfl) rfl ?_ | refine ws rfl rfl ?_ | refine wj rfl ?_ | refine wk rfl ?_ | refine ww rfl rfl rfl ?_ | refine wz rfl (by decide) rfl rfl rfl ?_ | (refine wx rfl rfl (.vw (vwOf_sound rfl)) rfl rfl ?_ ?_ rfl ?_; (try (simp <;> omega)); (try (simp [maxLen] <;> omega))) | (refine wy rfl rfl rfl rfl rfl rfl ?_ ?_ ?_ ?_; (try (first | trivial | rfl)); (try (simp <;> omega)); (try (simp [maxLen] <;> omega))))
    refine wn (wA rfl rfl rfl (by repeat' (first | exact trivial | exact rfl | assumption | apply And.intro)) (callable (by decide)) (c_Of .any r (by omega))) rfl ?_
    repeat (first | refine wa ?_ | refine wb ?_ | refine wc ?_ | refine wd ?_ | refine we ?_ | refine wf ?_ | refine wg ?_ | refine wh ?_ | refine wi ?_ | ((first | refine wl rfl rfl ?_ ?_ | refine wn (wp rfl rfl rfl rfl rfl ?_) rfl ?_ | refine wn (wq agree rfl rfl rfl ?_) rfl ?_ | refine wm rfl rfl rfl ?_ ?_ | refine wo rfl (wp rfl rfl rfl rfl rfl ?_) rfl ?_ | refine wo rfl (wq agree rfl rfl rfl ?_) rfl ?_ | refine wt rfl ?_ ?_ | refine wu rfl ?_ ?_ | refine wv rfl rfl ?_ rfl rfl ?_ | refine xa agree rfl rfl ?_ ?_ | refine xb agree rfl rfl rfl ?_ ?_); try (first | exact trivial | (rw [hgd] <;> rfl) | (rw [hgd2] <;> rfl) | ((repeat' apply And.intro) <;> first | exact trivial | exact rfl | omega | (simp; done) | (simp; omega)))) | refine wn (wr rfl rfl rfl) rfl ?_ | refine wo rfl (wr rfl rfl rfl) rfl ?_ | refine ws rfl rfl ?_ | refine wj rfl ?_ | refine wk rfl ?_ | refine ww rfl rfl rfl ?_ | refine wz rfl (by decide) rfl rfl rfl ?_ | (refine wx rfl rfl (.vw (vwOf_sound rfl)) rfl rfl ?_ ?_ rfl ?_; (try (simp <;> omega)); (try (simp [maxLen] <;> omega))) | (refine wy rfl rfl rfl rfl rfl rfl ?_ ?_ ?_ ?_; (try (first | trivial | rfl)); (try (simp <;> omega)); (try (simp [maxLen] <;> omega))))
    refine Run.keep [1, 2, 3, 4, 19, 20, 21] rfl ?_
    have hlx : ((ints r).length : Int) = (32 : Nat) := by rw [ints_len, hrl]
    refine Run.at (l' := [(1, .box (ord l)), (2, .d (.v (.bool false))), (3, .d (.lst .any 1 (ints r))), (4, .d (S (ofN r))), (19, .d (.lst .any 1 (ints r))), (20, .d (.v (.int .i64 (32 : Nat)))), (21, .d (.v (.int .i64 (0 : Nat))))]) (by rw [← hlx]; rfl) ?_
    refine Run.loopL (α := Nat) (fun i => i ≤ 32) (fun i => [(1, .box (ord l)), (2, .d (.v (.bool false))), (3, .d (.lst .any 1 (ints r))), (4, .d (S (ofN r))), (19, .d (.lst .any 1 (ints r))), (20, .d (.v (.int .i64 (32 : Nat)))), (21, .d (.v (.int .i64 i)))]) (fun i => 32 - i) 0 (by decide) ?_
    intro i hi ih
    repeat (first | refine wa ?_ | refine wb ?_ | refine wc ?_ | refine wd ?_ | refine we ?_ | refine wf ?_ | refine wg ?_ | refine wh ?_ | refine wi ?_ | ((first | refine wl rfl rfl ?_ ?_ | refine wn (wp rfl rfl rfl rfl rfl ?_) rfl ?_ | refine wn (wq agree rfl rfl rfl ?_) rfl ?_ | refine wm rfl rfl rfl ?_ ?_ | refine wo rfl (wp rfl rfl rfl rfl rfl ?_) rfl ?_ | refine wo rfl (wq agree rfl rfl rfl ?_) rfl ?_ | refine wt rfl ?_ ?_ | refine wu rfl ?_ ?_ | refine wv rfl rfl ?_ rfl rfl ?_ | refine xa agree rfl rfl ?_ ?_ | refine xb agree rfl rfl rfl ?_ ?_); try (first | exact trivial | (rw [hgd] <;> rfl) | (rw [hgd2] <;> rfl) | ((repeat' apply And.intro) <;> first | exact trivial | exact rfl | omega | (simp; done) | (simp; omega)))) | refine wn (wr rfl rfl rfl) rfl ?_ | refine wo rfl (wr rfl rfl rfl) rfl ?_ | refine ws rfl rfl ?_ | refine wj rfl ?_ | refine wk rfl ?_ | refine ww rfl rfl rfl ?_ | refine wz rfl (by decide) rfl rfl rfl ?_ | (refine wx rfl rfl (.vw (vwOf_sound rfl)) rfl rfl ?_ ?_ rfl ?_; (try (simp <;> omega)); (try (simp [maxLen] <;> omega))) | (refine wy rfl rfl rfl rfl rfl rfl ?_ ?_ ?_ ?_; (try (first | trivial | rfl)); (try (simp <;> omega)); (try (simp [maxLen] <;> omega))))
    refine Run.condB rfl rfl (fun hb => ?_) (fun hb => ?_)
    · have hi2 : i < 32 := by simp at hb; omega
      have hat := hp.pl_at hi2
      have hrow := hp.row hi2
      obtain ⟨x, hx⟩ : ∃ x, x = at' l i := ⟨_, rfl⟩
      rw [← hx] at hat hrow
      have hgd : (ints r).getD ((i : Int)).toNat un = .v (.int .i64 (x : Nat)) := by
        rw [← hrow, ← hr]
        simp [ints, hrl, hi2]
      have gx : (ord l).get ([] ++ [((x : Int)).toNat]) = .v (.int .i64 (i : Nat)) := by
        have := (hp.pl_eq hat.2).1
        rw [hat.1] at this
        rw [← this]
        exact ord_at (by omega)
      repeat (first | refine wa ?_ | refine wb ?_ | refine wc ?_ | refine wd ?_ | refine we ?_ | refine wf ?_ | refine wg ?_ | refine wh ?_ | refine wi ?_ | ((first | refine wl rfl rfl ?_ ?_ | refine wn (wp rfl rfl rfl rfl rfl ?_) rfl ?_ | refine wn (wq agree rfl rfl rfl ?_) rfl ?_ | refine wm rfl rfl rfl ?_ ?_ | refine wo rfl (wp rfl rfl rfl rfl rfl ?_) rfl ?_ | refine wo rfl (wq agree rfl rfl rfl ?_) rfl ?_ | refine wt rfl ?_ ?_ | refine wu rfl ?_ ?_ | refine wv rfl rfl ?_ rfl rfl ?_ | refine xa agree rfl rfl ?_ ?_ | refine xb agree rfl rfl rfl ?_ ?_); try (first | exact trivial | (rw [hgd] <;> rfl) | (rw [hgd2] <;> rfl) | ((repeat' apply And.intro) <;> first | exact trivial | exact rfl | omega | (simp; done) | (simp; omega)))) | refine wn (wr rfl rfl rfl) rfl ?_ | refine wo rfl (wr rfl rfl rfl) rfl ?_ | refine ws rfl rfl ?_ | refine wj rfl ?_ | refine wk rfl ?_ | refine ww rfl rfl rfl ?_ | refine wz rfl (by decide) rfl rfl rfl ?_ | (refine wx rfl rfl (.vw (vwOf_sound rfl)) rfl rfl ?_ ?_ rfl ?_; (try (simp <;> omega)); (try (simp [maxLen] <;> omega))) | (refine wy rfl rfl rfl rfl rfl rfl ?_ ?_ ?_ ?_; (try (first | trivial | rfl)); (try (simp <;> omega)); (try (simp [maxLen] <;> omega))))
      first | refine OpsAt.say (d := 25) rfl (y := .v (.int .i64 (x : Nat))) (hgd) ?_ | refine Run.say (d := 25) rfl (y := .v (.int .i64 (x : Nat))) (hgd) ?_ | refine OpsB.say (d := 25) rfl (y := .v (.int .i64 (x : Nat))) (hgd) ?_
      repeat (first | refine wa ?_ | refine wb ?_ | refine wc ?_ | refine wd ?_ | refine we ?_ | refine wf ?_ | refine wg ?_ | refine wh ?_ | refine wi ?_ | ((first | refine wl rfl rfl ?_ ?_ | refine wn (wp rfl rfl rfl rfl rfl ?_) rfl ?_ | refine wn (wq agree rfl rfl rfl ?_) rfl ?_ | refine wm rfl rfl rfl ?_ ?_ | refine wo rfl (wp rfl rfl rfl rfl rfl ?_) rfl ?_ | refine wo rfl (wq agree rfl rfl rfl ?_) rfl ?_ | refine wt rfl ?_ ?_ | refine wu rfl ?_ ?_ | refine wv rfl rfl ?_ rfl rfl ?_ | refine xa agree rfl rfl ?_ ?_ | refine xb agree rfl rfl rfl ?_ ?_); try (first | exact trivial | (rw [hgd] <;> rfl) | (rw [hgd2] <;> rfl) | ((repeat' apply And.intro) <;> first | exact trivial | exact rfl | omega | (simp; done) | (simp; omega)))) | refine wn (wr rfl rfl rfl) rfl ?_ | refine wo rfl (wr rfl rfl rfl) rfl ?_ | refine ws rfl rfl ?_ | refine wj rfl ?_ | refine wk rfl ?_ | refine ww rfl rfl rfl ?_ | refine wz rfl (by decide) rfl rfl rfl ?_ | (refine wx rfl rfl (.vw (vwOf_sound rfl)) rfl rfl ?_ ?_ rfl ?_; (try (simp <;> omega)); (try (simp [maxLen] <;> omega))) | (refine wy rfl rfl rfl rfl rfl rfl ?_ ?_ ?_ ?_; (try (first | trivial | rfl)); (try (simp <;> omega)); (try (simp [maxLen] <;> omega))))
      · exact ⟨rfl, rfl, by rw [ints_len, hl], by omega, by omega⟩
      refine wn (Ev.ldBox rfl (adrOf_sound rfl) (ld_ok (T := 3) gx rfl).1 (ld_ok (T := 3) gx rfl).2) rfl ?_
      first | refine OpsAt.say (d := 28) rfl (y := .v (.int .i64 (i : Nat))) (gx) ?_ | refine Run.say (d := 28) rfl (y := .v (.int .i64 (i : Nat))) (gx) ?_ | refine OpsB.say (d := 28) rfl (y := .v (.int .i64 (i : Nat))) (gx) ?_
      repeat (first | refine wa ?_ | refine wb ?_ | refine wc ?_ | refine wd ?_ | refine we ?_ | refine wf ?_ | refine wg ?_ | refine wh ?_ | refine wi ?_ | ((first | refine wl rfl rfl ?_ ?_ | refine wn (wp rfl rfl rfl rfl rfl ?_) rfl ?_ | refine wn (wq agree rfl rfl rfl ?_) rfl ?_ | refine wm rfl rfl rfl ?_ ?_ | refine wo rfl (wp rfl rfl rfl rfl rfl ?_) rfl ?_ | refine wo rfl (wq agree rfl rfl rfl ?_) rfl ?_ | refine wt rfl ?_ ?_ | refine wu rfl ?_ ?_ | refine wv rfl rfl ?_ rfl rfl ?_ | refine xa agree rfl rfl ?_ ?_ | refine xb agree rfl rfl rfl ?_ ?_); try (first | exact trivial | (rw [hgd] <;> rfl) | (rw [hgd2] <;> rfl) | ((repeat' apply And.intro) <;> first | exact trivial | exact rfl | omega | (simp; done) | (simp; omega)))) | refine wn (wr rfl rfl rfl) rfl ?_ | refine wo rfl (wr rfl rfl rfl) rfl ?_ | refine ws rfl rfl ?_ | refine wj rfl ?_ | refine wk rfl ?_ | refine ww rfl rfl rfl ?_ | refine wz rfl (by decide) rfl rfl rfl ?_ | (refine wx rfl rfl (.vw (vwOf_sound rfl)) rfl rfl ?_ ?_ rfl ?_; (try (simp <;> omega)); (try (simp [maxLen] <;> omega))) | (refine wy rfl rfl rfl rfl rfl rfl ?_ ?_ ?_ ?_; (try (first | trivial | rfl)); (try (simp <;> omega)); (try (simp [maxLen] <;> omega))))
      refine Run.condB rfl rfl (fun hne => ?_) (fun hne => ?_)
      · simp at hne
      · repeat (first | refine wa ?_ | refine wb ?_ | refine wc ?_ | refine wd ?_ | refine we ?_ | refine wf ?_ | refine wg ?_ | refine wh ?_ | refine wi ?_ | ((first | refine wl rfl rfl ?_ ?_ | refine wn (wp rfl rfl rfl rfl rfl ?_) rfl ?_ | refine wn (wq agree rfl rfl rfl ?_) rfl ?_ | refine wm rfl rfl rfl ?_ ?_ | refine wo rfl (wp rfl rfl rfl rfl rfl ?_) rfl ?_ | refine wo rfl (wq agree rfl rfl rfl ?_) rfl ?_ | refine wt rfl ?_ ?_ | refine wu rfl ?_ ?_ | refine wv rfl rfl ?_ rfl rfl ?_ | refine xa agree rfl rfl ?_ ?_ | refine xb agree rfl rfl rfl ?_ ?_); try (first | exact trivial | (rw [hgd] <;> rfl) | (rw [hgd2] <;> rfl) | ((repeat' apply And.intro) <;> first | exact trivial | exact rfl | omega | (simp; done) | (simp; omega)))) | refine wn (wr rfl rfl rfl) rfl ?_ | refine wo rfl (wr rfl rfl rfl) rfl ?_ | refine ws rfl rfl ?_ | refine wj rfl ?_ | refine wk rfl ?_ | refine ww rfl rfl rfl ?_ | refine wz rfl (by decide) rfl rfl rfl ?_ | (refine wx rfl rfl (.vw (vwOf_sound rfl)) rfl rfl ?_ ?_ rfl ?_; (try (simp <;> omega)); (try (simp [maxLen] <;> omega))) | (refine wy rfl rfl rfl rfl rfl rfl ?_ ?_ ?_ ?_; (try (first | trivial | rfl)); (try (simp <;> omega)); (try (simp [maxLen] <;> omega))))
        first | refine OpsAt.say (d := 21) rfl (y := .v (.int .i64 (i + 1 : Nat))) (by rw [wrap64_in ((i : Int) + 1) (by omega)]; simp) ?_ | refine Run.say (d := 21) rfl (y := .v (.int .i64 (i + 1 : Nat))) (by rw [wrap64_in ((i : Int) + 1) (by omega)]; simp) ?_ | refine OpsB.say (d := 21) rfl (y := .v (.int .i64 (i + 1 : Nat))) (by rw [wrap64_in ((i : Int) + 1) (by omega)]; simp) ?_
        refine Run.keep [1, 2, 3, 4, 19, 20, 21] rfl ?_
        exact ih (i + 1) (by omega) (by omega)
    · have hi2 : i = 32 := by simp at hb; omega
      subst hi2
      have hof : ofN r = 4294967295 := by
        have := hp.rowR.right
        rw [← hr] at this
        exact of_decide_eq_true this
      repeat (first | refine wa ?_ | refine wb ?_ | refine wc ?_ | refine wd ?_ | refine we ?_ | refine wf ?_ | refine wg ?_ | refine wh ?_ | refine wi ?_ | ((first | refine wl rfl rfl ?_ ?_ | refine wn (wp rfl rfl rfl rfl rfl ?_) rfl ?_ | refine wn (wq agree rfl rfl rfl ?_) rfl ?_ | refine wm rfl rfl rfl ?_ ?_ | refine wo rfl (wp rfl rfl rfl rfl rfl ?_) rfl ?_ | refine wo rfl (wq agree rfl rfl rfl ?_) rfl ?_ | refine wt rfl ?_ ?_ | refine wu rfl ?_ ?_ | refine wv rfl rfl ?_ rfl rfl ?_ | refine xa agree rfl rfl ?_ ?_ | refine xb agree rfl rfl rfl ?_ ?_); try (first | exact trivial | (rw [hgd] <;> rfl) | (rw [hgd2] <;> rfl) | ((repeat' apply And.intro) <;> first | exact trivial | exact rfl | omega | (simp; done) | (simp; omega)))) | refine wn (wr rfl rfl rfl) rfl ?_ | refine wo rfl (wr rfl rfl rfl) rfl ?_ | refine ws rfl rfl ?_ | refine wj rfl ?_ | refine wk rfl ?_ | refine ww rfl rfl rfl ?_ | refine wz rfl (by decide) rfl rfl rfl ?_ | (refine wx rfl rfl (.vw (vwOf_sound rfl)) rfl rfl ?_ ?_ rfl ?_; (try (simp <;> omega)); (try (simp [maxLen] <;> omega))) | (refine wy rfl rfl rfl rfl rfl rfl ?_ ?_ ?_ ?_; (try (first | trivial | rfl)); (try (simp <;> omega)); (try (simp [maxLen] <;> omega))))
      first | refine OpsAt.say (d := 35) rfl (y := .v (.bool true)) (by rw [hlx]; rfl) ?_ | refine Run.say (d := 35) rfl (y := .v (.bool true)) (by rw [hlx]; rfl) ?_ | refine OpsB.say (d := 35) rfl (y := .v (.bool true)) (by rw [hlx]; rfl) ?_
      repeat (first | refine wa ?_ | refine wb ?_ | refine wc ?_ | refine wd ?_ | refine we ?_ | refine wf ?_ | refine wg ?_ | refine wh ?_ | refine wi ?_ | ((first | refine wl rfl rfl ?_ ?_ | refine wn (wp rfl rfl rfl rfl rfl ?_) rfl ?_ | refine wn (wq agree rfl rfl rfl ?_) rfl ?_ | refine wm rfl rfl rfl ?_ ?_ | refine wo rfl (wp rfl rfl rfl rfl rfl ?_) rfl ?_ | refine wo rfl (wq agree rfl rfl rfl ?_) rfl ?_ | refine wt rfl ?_ ?_ | refine wu rfl ?_ ?_ | refine wv rfl rfl ?_ rfl rfl ?_ | refine xa agree rfl rfl ?_ ?_ | refine xb agree rfl rfl rfl ?_ ?_); try (first | exact trivial | (rw [hgd] <;> rfl) | (rw [hgd2] <;> rfl) | ((repeat' apply And.intro) <;> first | exact trivial | exact rfl | omega | (simp; done) | (simp; omega)))) | refine wn (wr rfl rfl rfl) rfl ?_ | refine wo rfl (wr rfl rfl rfl) rfl ?_ | refine ws rfl rfl ?_ | refine wj rfl ?_ | refine wk rfl ?_ | refine ww rfl rfl rfl ?_ | refine wz rfl (by decide) rfl rfl rfl ?_ | (refine wx rfl rfl (.vw (vwOf_sound rfl)) rfl rfl ?_ ?_ rfl ?_; (try (simp <;> omega)); (try (simp [maxLen] <;> omega))) | (refine wy rfl rfl rfl rfl rfl rfl ?_ ?_ ?_ ?_; (try (first | trivial | rfl)); (try (simp <;> omega)); (try (simp [maxLen] <;> omega))))
      refine wD (wE rfl rfl ?_)
      rw [hof]
      rfl
end Go.Proofs.YthiicbpoahilcaaDoor

namespace Go.Proofs.YthiicbpoahilcaaDoor.rowTopoRows
open Go Go.Dat
open Go.ChangeShapes Go.WideShapes Go.ChangeAt Go.RowKit

theorem same : Rows.topoRowsRow.laid = one := rfl
theorem own : ownKnob Tryd.prog.godebug = none := by kernel_rfl
theorem laidOut : laidOutB Tryd.prog = true := by kernel_rfl

set_option maxRecDepth 100000 in
theorem lifted (os : Os) (started : os.Started) (H : Type) (enc : TypeId × Value → H) :
    ReturnsInHanded {} Tryd.checked os 6 .any (fun w args => (Rows.topoRowsSpec.pre enc Tryd.prog Tryd.f6 [] false w args ∧ laidMetH Tryd.prog one w) ∧ sizedMet enc Tryd.prog Tryd.f6 (OpenSpec.ofChange Rows.topoRowsSpec) false w args)
      (Rows.topoRowsSpec.post enc Tryd.prog Tryd.f6 false true false false) := by
  refine returnsInHanded_of_change_and (C := Tryd.checked) (X := fun w _ => laidMetH Tryd.prog one w) (fun _ _ _ hh h => h.of_heap hh) own started (by kernel_rfl) Tryd.func6
    (ChangeSpec.witness_shaped (enc := enc) (C := Tryd.checked) (os := os) (X := fun w _ => laidMetH Tryd.prog one w) false (World.laidAll Tryd.prog os one) #[(.agg (Array.replicate 32 (.int .i64 0)))] 8 (World.laidAll_os _ _ _) (World.shaped_of_ZipB (by kernel_rfl) (by kernel_rfl)) (by kernel_rfl) (by kernel_rfl) (by kernel_rfl) (one_met os _)) ?_
  intro W base args ds gs before hval0 hW _ _ hL _
  obtain ⟨tdom, tab⟩ := one_gives hL
  have hval : ∀ (j : Nat) t v, Tryd.f6.params[j]? = some t → args[j]? = some v → Value.okWide Tryd.prog W .any base t v := hval0
  have hW' := hW
  obtain ⟨p, q, hA0, hV, rfl, hfz, hnd⟩ := hW
  have hA : DataW.TrodAll enc Tryd.prog W 0 (fun _ => true) true Tryd.f6.params.toList args.toList ds p := hA0
  rw [Tryd.params6] at hA hval
  obtain ⟨v0, vs0, d0, ds0, p0, q0, hargs, rfl, rfl, h0, r0⟩ := trodAll_cons hA
  obtain ⟨rfl, rfl, rfl⟩ := trodAll_nil r0
  obtain rfl : args = #[v0] := by cases args; simp_all
  obtain ⟨rfl, rfl⟩ := trodVars_none hV
  have lt0 : ∀ x ∈ p0, x.block < W.heap.size := by obtain ⟨m, hm⟩ := h0; exact DataW.trod_lt m _ _ _ hm
  obtain ⟨a0, e0⟩ := pOrd.argAr (fun _ => rfl) Tryd.underlying26 (hval 0 26 v0 rfl rfl) h0
  have hrpv : Rpv (fun b => b < W.heap.size) W [ord a0.1] [v0] := (Rpv.ofCons e0 Rpv.ofNil)
  clear hA0 hval0
  refine ((c_TopoRows a0.1 a0.2).walk ⟨tdom, tab⟩ hrpv).mono fun e W' ⟨he, bel⟩ => ?_
  subst he
  exact ⟨_, rfl, _, _, _, [], _, [], hW', trodAll_mk1 (shut_bool Tryd.underlying4 _), (trodAll_cons_mk (Below.trod laidOut (by kernel_rfl) (of_decide_eq_true (by kernel_rfl)) h0 bel lt0) trodAll_mk0), rfl, bel.frame _, fun h => by cases h⟩

theorem over : Rows.topoRowsRow.holds Tryd.pinned (OpenSpec.ofChange Rows.topoRowsSpec) :=
  OpenClaim.holds_of_wide 6 Tryd.f6 rfl rfl rfl rfl rfl rfl rfl ⟨rfl, rfl, rfl, rfl, rfl⟩ rfl rfl rfl rfl rfl (by kernel_rfl) Tryd.func6 (by kernel_rfl)
    (of_decide_eq_true (by kernel_rfl)) (by unfold Func.isWrapper; first | (rw [if_pos (by decide +kernel)]; kernel_rfl) | (rw [if_neg (by decide +kernel)]; exact ⟨rfl, rfl⟩))
    (fun os started H enc _ => lifted os started H enc)

theorem proved : Rows.TopoRowsSaid := over
end Go.Proofs.YthiicbpoahilcaaDoor.rowTopoRows

namespace Go.Proofs.YthiicbpoahilcaaDoor.cardTopoRows
open Go

theorem proved : Rows.TopoRowsCardSaid :=
  Claim7.holds_tied_plain_at .later [] [.data] true (true, "2ac7f718ff3ae261c5bb6cc2845c236982b2770a7b73691c668fa9d0acda450a") false
    rowTopoRows.proved (fun _ h => by cases h) (by kernel_rfl) (fun _ h => by cases h) topoRows_row_tie rfl ⟨rfl, rfl⟩ (by kernel_rfl) rfl
    (fun f fn hf hfn => by
      obtain rfl : f = 6 := Option.some.inj ((show Tryd.prog.funcNamed "warpbeam/warpbeamlaw04.TopoRows" = some 6 by kernel_rfl).symm.trans hf) |>.symm
      obtain rfl : fn = Tryd.f6 := (Option.some.inj (Tryd.func6.symm.trans hfn)).symm
      exact ⟨by kernel_rfl, fun j t ht => by
        rw [Tryd.params6] at ht
        have hm : t ∈ [26] := by simpa using Array.mem_of_getElem? ht
        have hall : ([26].all fun u => !Tryd.prog.wantsStandIn u) = true := by kernel_rfl
        exact (show Tryd.prog.wantsStandIn t = false by simpa using List.all_eq_true.1 hall t hm)⟩)
    (by kernel_rfl)
end Go.Proofs.YthiicbpoahilcaaDoor.cardTopoRows
