/- Texts S20, S21, Lay, Op in one file. No conditions. -/
import Derived.Test.YthiicbpoahilcaaDoorTB
import Derived.Test.YthiicbpoahilcaaDoorKC
import Derived.Test.YthiicbpoahilcaaDoorTA
import Derived.Test.YthiicbpoahilcaaDoorRows
import Derived.Lay
import Derived.Lib.LaidTab
import Derived.LaidLaws
import Derived.LaidMore
import Derived.LaidHandle
import Derived.RowKit
import Derived.Stop.LaidErr
import Derived.ChangeVars
import Derived.WalkKit
import Derived.ProofKit
import Derived.OpenShut
import Derived.MakeChecks
import Derived.Stop.Joined

namespace Go.Proofs.YthiicbpoahilcaaDoor
open Go Go.Dat

theorem putG_ok {g : List Nat} (hg : gok g) (a b : Int) : gok (putG g a b).1 := by
  unfold putG
  split
  · exact hg.set _ (withN_lt _ (hg.at _))
  · exact hg
theorem noOwns_g (g : List Nat) (x : Value) : noOwns [gr g, .v x] = true := by
  show ((gr g).pl && true) = true
  rw [gr_pl]
  rfl

theorem ord_stoAll {T : TypeId} {g z : List Int} (h : g.length = 32) (hz : z.length = 32) (hT : ((Θ T).known && (Θ T).td.isAgg && ((Θ T).n == 32)) = true) :
    ((Θ T).fits (ord g) && ((ord g).size == ((ord z).get []).size) && ((ord z).get []).noOwn) = true := by
  rw [ord_fits h hT, show ((ord z).get []).noOwn = true from ord_pl z]
  simp [D.get, ord, D.size, ints_len, h, hz]

theorem gr_lend (g : List Nat) : (gr g).lend = gr g := by simp only [gr, D.lend, sets_lend]
theorem ord_lend (l : List Int) : (ord l).lend = ord l := by simp only [ord, D.lend, ints_lend]

theorem flatvs_ints : ∀ l : List Int, flatvs (ints l) = true
  | [] => rfl
  | _ :: l => flatvs_ints l

theorem c_Insert (g : List Nat) (l : List Int) (a b : Int) (hg : gok g) (hl : l.length = 32) :
    DFun Tryd.prog 12 [gr g, ord l, .v (.int .i64 a), .v (.int .i64 b)] (.tup [gr (insG g l a b).1, ord (insG g l a b).2.1, .v (.bool (insG g l a b).2.2)]) := by
  refine DFun.ofRun agree mixed Tryd.func12 rfl rfl ?_
  repeat (first | apply wa | apply wb | apply wc | apply wd | apply we | apply wf | apply wg | apply wh | apply wi | ((first | refine wl rfl rfl ?_ ?_ | refine wn (wp rfl rfl rfl rfl rfl ?_) rfl ?_ | refine wn (wq agree rfl rfl rfl ?_) rfl ?_ | refine wm rfl rfl rfl ?_ ?_ | refine wo rfl (wp rfl rfl rfl rfl rfl ?_) rfl ?_ | refine wo rfl (wq agree rfl rfl rfl ?_) rfl ?_ | refine wt rfl ?_ ?_ | refine wu rfl ?_ ?_ | refine wv rfl rfl ?_ rfl rfl ?_ | refine xa agree rfl rfl ?_ ?_ | refine xb agree rfl rfl rfl ?_ ?_); try (first | exact trivial | (rw [hgd] <;> rfl) | ((repeat' apply And.intro) <;> first | exact trivial | exact rfl | omega | (simp; done) | (simp; omega)))) | refine wn (wr rfl rfl rfl) rfl ?_ | refine wo rfl (wr rfl rfl rfl) rfl ?_ | refine ws rfl rfl ?_ | refine wj rfl ?_ | refine wk rfl ?_ | refine ww rfl rfl rfl ?_)
  · exact gr_pl g
  repeat (first | apply wa | apply wb | apply wc | apply wd | apply we | apply wf | apply wg | apply wh | apply wi | ((first | refine wl rfl rfl ?_ ?_ | refine wn (wp rfl rfl rfl rfl rfl ?_) rfl ?_ | refine wn (wq agree rfl rfl rfl ?_) rfl ?_ | refine wm rfl rfl rfl ?_ ?_ | refine wo rfl (wp rfl rfl rfl rfl rfl ?_) rfl ?_ | refine wo rfl (wq agree rfl rfl rfl ?_) rfl ?_ | refine wt rfl ?_ ?_ | refine wu rfl ?_ ?_ | refine wv rfl rfl ?_ rfl rfl ?_ | refine xa agree rfl rfl ?_ ?_ | refine xb agree rfl rfl rfl ?_ ?_); try (first | exact trivial | (rw [hgd] <;> rfl) | ((repeat' apply And.intro) <;> first | exact trivial | exact rfl | omega | (simp; done) | (simp; omega)))) | refine wn (wr rfl rfl rfl) rfl ?_ | refine wo rfl (wr rfl rfl rfl) rfl ?_ | refine ws rfl rfl ?_ | refine wj rfl ?_ | refine wk rfl ?_ | refine ww rfl rfl rfl ?_)
  · exact ord_pl l
  repeat (first | apply wa | apply wb | apply wc | apply wd | apply we | apply wf | apply wg | apply wh | apply wi | ((first | refine wl rfl rfl ?_ ?_ | refine wn (wp rfl rfl rfl rfl rfl ?_) rfl ?_ | refine wn (wq agree rfl rfl rfl ?_) rfl ?_ | refine wm rfl rfl rfl ?_ ?_ | refine wo rfl (wp rfl rfl rfl rfl rfl ?_) rfl ?_ | refine wo rfl (wq agree rfl rfl rfl ?_) rfl ?_ | refine wt rfl ?_ ?_ | refine wu rfl ?_ ?_ | refine wv rfl rfl ?_ rfl rfl ?_ | refine xa agree rfl rfl ?_ ?_ | refine xb agree rfl rfl rfl ?_ ?_); try (first | exact trivial | (rw [hgd] <;> rfl) | ((repeat' apply And.intro) <;> first | exact trivial | exact rfl | omega | (simp; done) | (simp; omega)))) | refine wn (wr rfl rfl rfl) rfl ?_ | refine wo rfl (wr rfl rfl rfl) rfl ?_ | refine ws rfl rfl ?_ | refine wj rfl ?_ | refine wk rfl ?_ | refine ww rfl rfl rfl ?_)
  · exact ⟨gr_fits hg.1 rfl, gr_pl g⟩
  repeat (first | apply wa | apply wb | apply wc | apply wd | apply we | apply wf | apply wg | apply wh | apply wi | ((first | refine wl rfl rfl ?_ ?_ | refine wn (wp rfl rfl rfl rfl rfl ?_) rfl ?_ | refine wn (wq agree rfl rfl rfl ?_) rfl ?_ | refine wm rfl rfl rfl ?_ ?_ | refine wo rfl (wp rfl rfl rfl rfl rfl ?_) rfl ?_ | refine wo rfl (wq agree rfl rfl rfl ?_) rfl ?_ | refine wt rfl ?_ ?_ | refine wu rfl ?_ ?_ | refine wv rfl rfl ?_ rfl rfl ?_ | refine xa agree rfl rfl ?_ ?_ | refine xb agree rfl rfl rfl ?_ ?_); try (first | exact trivial | (rw [hgd] <;> rfl) | ((repeat' apply And.intro) <;> first | exact trivial | exact rfl | omega | (simp; done) | (simp; omega)))) | refine wn (wr rfl rfl rfl) rfl ?_ | refine wo rfl (wr rfl rfl rfl) rfl ?_ | refine ws rfl rfl ?_ | refine wj rfl ?_ | refine wk rfl ?_ | refine ww rfl rfl rfl ?_)
  have hpl : ((gr g).get []).pl = true := gr_pl g
  refine wn (wA rfl rfl rfl (by repeat' (first | exact trivial | exact rfl | assumption | apply And.intro)) (callable (by decide)) (c_Put g a b hg)) rfl ?_
  have hg2 := putG_ok hg a b
  obtain ⟨g2, is, hq⟩ : ∃ g2 is, putG g a b = (g2, is) := ⟨_, _, rfl⟩
  rw [hq] at hg2
  simp only [hq]
  repeat (first | apply wa | apply wb | apply wc | apply wd | apply we | apply wf | apply wg | apply wh | apply wi | ((first | refine wl rfl rfl ?_ ?_ | refine wn (wp rfl rfl rfl rfl rfl ?_) rfl ?_ | refine wn (wq agree rfl rfl rfl ?_) rfl ?_ | refine wm rfl rfl rfl ?_ ?_ | refine wo rfl (wp rfl rfl rfl rfl rfl ?_) rfl ?_ | refine wo rfl (wq agree rfl rfl rfl ?_) rfl ?_ | refine wt rfl ?_ ?_ | refine wu rfl ?_ ?_ | refine wv rfl rfl ?_ rfl rfl ?_ | refine xa agree rfl rfl ?_ ?_ | refine xb agree rfl rfl rfl ?_ ?_); try (first | exact trivial | (rw [hgd] <;> rfl) | ((repeat' apply And.intro) <;> first | exact trivial | exact rfl | omega | (simp; done) | (simp; omega)))) | refine wn (wr rfl rfl rfl) rfl ?_ | refine wo rfl (wr rfl rfl rfl) rfl ?_ | refine ws rfl rfl ?_ | refine wj rfl ?_ | refine wk rfl ?_ | refine ww rfl rfl rfl ?_)
  · exact noOwns_g _ _
  repeat (first | apply wa | apply wb | apply wc | apply wd | apply we | apply wf | apply wg | apply wh | apply wi | ((first | refine wl rfl rfl ?_ ?_ | refine wn (wp rfl rfl rfl rfl rfl ?_) rfl ?_ | refine wn (wq agree rfl rfl rfl ?_) rfl ?_ | refine wm rfl rfl rfl ?_ ?_ | refine wo rfl (wp rfl rfl rfl rfl rfl ?_) rfl ?_ | refine wo rfl (wq agree rfl rfl rfl ?_) rfl ?_ | refine wt rfl ?_ ?_ | refine wu rfl ?_ ?_ | refine wv rfl rfl ?_ rfl rfl ?_ | refine xa agree rfl rfl ?_ ?_ | refine xb agree rfl rfl rfl ?_ ?_); try (first | exact trivial | (rw [hgd] <;> rfl) | ((repeat' apply And.intro) <;> first | exact trivial | exact rfl | omega | (simp; done) | (simp; omega)))) | refine wn (wr rfl rfl rfl) rfl ?_ | refine wo rfl (wr rfl rfl rfl) rfl ?_ | refine ws rfl rfl ?_ | refine wj rfl ?_ | refine wk rfl ?_ | refine ww rfl rfl rfl ?_)
  · exact gr_pl g2
  first | refine OpsAt.say (d := 26) rfl (y := gr g2) (rfl) ?_ | refine Run.say (d := 26) rfl (y := gr g2) (rfl) ?_ | refine OpsB.say (d := 26) rfl (y := gr g2) (rfl) ?_
  repeat (first | apply wa | apply wb | apply wc | apply wd | apply we | apply wf | apply wg | apply wh | apply wi | ((first | refine wl rfl rfl ?_ ?_ | refine wn (wp rfl rfl rfl rfl rfl ?_) rfl ?_ | refine wn (wq agree rfl rfl rfl ?_) rfl ?_ | refine wm rfl rfl rfl ?_ ?_ | refine wo rfl (wp rfl rfl rfl rfl rfl ?_) rfl ?_ | refine wo rfl (wq agree rfl rfl rfl ?_) rfl ?_ | refine wt rfl ?_ ?_ | refine wu rfl ?_ ?_ | refine wv rfl rfl ?_ rfl rfl ?_ | refine xa agree rfl rfl ?_ ?_ | refine xb agree rfl rfl rfl ?_ ?_); try (first | exact trivial | (rw [hgd] <;> rfl) | ((repeat' apply And.intro) <;> first | exact trivial | exact rfl | omega | (simp; done) | (simp; omega)))) | refine wn (wr rfl rfl rfl) rfl ?_ | refine wo rfl (wr rfl rfl rfl) rfl ?_ | refine ws rfl rfl ?_ | refine wj rfl ?_ | refine wk rfl ?_ | refine ww rfl rfl rfl ?_)
  refine wv rfl rfl (gr_pl g2) (gr_stoAll (z := List.replicate 32 0) hg2.1 rfl rfl) rfl ?_
  first | refine OpsAt.sayB (d := 11) rfl (y := gr g2) (rfl) ?_ | refine Run.sayB (d := 11) rfl (y := gr g2) (rfl) ?_
  first | refine OpsAt.say (d := 27) rfl (y := .v (.bool is)) (rfl) ?_ | refine Run.say (d := 27) rfl (y := .v (.bool is)) (rfl) ?_ | refine OpsB.say (d := 27) rfl (y := .v (.bool is)) (rfl) ?_
  repeat (first | apply wa | apply wb | apply wc | apply wd | apply we | apply wf | apply wg | apply wh | apply wi | ((first | refine wl rfl rfl ?_ ?_ | refine wn (wp rfl rfl rfl rfl rfl ?_) rfl ?_ | refine wn (wq agree rfl rfl rfl ?_) rfl ?_ | refine wm rfl rfl rfl ?_ ?_ | refine wo rfl (wp rfl rfl rfl rfl rfl ?_) rfl ?_ | refine wo rfl (wq agree rfl rfl rfl ?_) rfl ?_ | refine wt rfl ?_ ?_ | refine wu rfl ?_ ?_ | refine wv rfl rfl ?_ rfl rfl ?_ | refine xa agree rfl rfl ?_ ?_ | refine xb agree rfl rfl rfl ?_ ?_); try (first | exact trivial | (rw [hgd] <;> rfl) | ((repeat' apply And.intro) <;> first | exact trivial | exact rfl | omega | (simp; done) | (simp; omega)))) | refine wn (wr rfl rfl rfl) rfl ?_ | refine wo rfl (wr rfl rfl rfl) rfl ?_ | refine ws rfl rfl ?_ | refine wj rfl ?_ | refine wk rfl ?_ | refine ww rfl rfl rfl ?_)
  first | refine OpsAt.say (d := 31) rfl (y := .v (.bool (!is))) (rfl) ?_ | refine Run.say (d := 31) rfl (y := .v (.bool (!is))) (rfl) ?_ | refine OpsB.say (d := 31) rfl (y := .v (.bool (!is))) (rfl) ?_
  refine OpsAt.br rfl rfl rfl (fun h0 => ?_) (fun h0 => ?_)
  · have : is = false := by simpa using h0
    subst this
    repeat (first | apply wa | apply wb | apply wc | apply wd | apply we | apply wf | apply wg | apply wh | apply wi | ((first | refine wl rfl rfl ?_ ?_ | refine wn (wp rfl rfl rfl rfl rfl ?_) rfl ?_ | refine wn (wq agree rfl rfl rfl ?_) rfl ?_ | refine wm rfl rfl rfl ?_ ?_ | refine wo rfl (wp rfl rfl rfl rfl rfl ?_) rfl ?_ | refine wo rfl (wq agree rfl rfl rfl ?_) rfl ?_ | refine wt rfl ?_ ?_ | refine wu rfl ?_ ?_ | refine wv rfl rfl ?_ rfl rfl ?_ | refine xa agree rfl rfl ?_ ?_ | refine xb agree rfl rfl rfl ?_ ?_); try (first | exact trivial | (rw [hgd] <;> rfl) | ((repeat' apply And.intro) <;> first | exact trivial | exact rfl | omega | (simp; done) | (simp; omega)))) | refine wn (wr rfl rfl rfl) rfl ?_ | refine wo rfl (wr rfl rfl rfl) rfl ?_ | refine ws rfl rfl ?_ | refine wj rfl ?_ | refine wk rfl ?_ | refine ww rfl rfl rfl ?_)
    refine Run.keep [4, 5, 8, 9, 10] rfl ?_
    refine Run.at (l' := [(4, .box (gr g)), (5, .box (ord l)), (8, .box (gr (List.replicate 32 0))), (9, .box (ord (List.replicate 32 0))), (10, .d (.v (.bool false)))]) rfl ?_
    refine Run.opsB agree mixed rfl rfl ?_
    repeat (first | refine ya ?_ | ((first | refine yb rfl rfl ?_ ?_ | refine yd rfl rfl ?_ rfl ?_ | refine yc (wp rfl rfl rfl rfl rfl ?_) rfl ?_); try (first | exact trivial | (rw [hgd] <;> rfl) | (rw [hgd2] <;> rfl) | ((repeat' apply And.intro) <;> first | exact trivial | exact rfl | omega | (simp; done) | (simp; omega)))) | refine yf rfl rfl ?_)
    · exact ⟨gr_fits hg.1 rfl, gr_pl g⟩
    repeat (first | refine ya ?_ | ((first | refine yb rfl rfl ?_ ?_ | refine yd rfl rfl ?_ rfl ?_ | refine yc (wp rfl rfl rfl rfl rfl ?_) rfl ?_); try (first | exact trivial | (rw [hgd] <;> rfl) | (rw [hgd2] <;> rfl) | ((repeat' apply And.intro) <;> first | exact trivial | exact rfl | omega | (simp; done) | (simp; omega)))) | refine yf rfl rfl ?_)
    · exact ⟨ord_fits hl rfl, ord_pl l⟩
    repeat (first | refine ya ?_ | ((first | refine yb rfl rfl ?_ ?_ | refine yd rfl rfl ?_ rfl ?_ | refine yc (wp rfl rfl rfl rfl rfl ?_) rfl ?_); try (first | exact trivial | (rw [hgd] <;> rfl) | (rw [hgd2] <;> rfl) | ((repeat' apply And.intro) <;> first | exact trivial | exact rfl | omega | (simp; done) | (simp; omega)))) | refine yf rfl rfl ?_)
    refine yd rfl rfl (gr_pl g) (gr_stoAll (z := List.replicate 32 0) hg.1 rfl rfl) ?_
    refine yd rfl rfl (ord_pl l) (ord_stoAll (z := List.replicate 32 0) hl rfl rfl) ?_
    repeat (first | refine ya ?_ | ((first | refine yb rfl rfl ?_ ?_ | refine yd rfl rfl ?_ rfl ?_ | refine yc (wp rfl rfl rfl rfl rfl ?_) rfl ?_); try (first | exact trivial | (rw [hgd] <;> rfl) | (rw [hgd2] <;> rfl) | ((repeat' apply And.intro) <;> first | exact trivial | exact rfl | omega | (simp; done) | (simp; omega)))) | refine yf rfl rfl ?_)
    refine wD (Ends.tupE agree rfl ⟨⟨gr_fits hg.1 rfl, gr_pl g⟩, ⟨ord_fits hl rfl, ord_pl l⟩, rfl, trivial⟩ rfl ?_)
    simp only [insG, hq, Bool.not_false, Bool.true_or, if_true]; rfl
  · have : is = true := by simpa using h0
    subst this
    repeat (first | apply wa | apply wb | apply wc | apply wd | apply we | apply wf | apply wg | apply wh | apply wi | ((first | refine wl rfl rfl ?_ ?_ | refine wn (wp rfl rfl rfl rfl rfl ?_) rfl ?_ | refine wn (wq agree rfl rfl rfl ?_) rfl ?_ | refine wm rfl rfl rfl ?_ ?_ | refine wo rfl (wp rfl rfl rfl rfl rfl ?_) rfl ?_ | refine wo rfl (wq agree rfl rfl rfl ?_) rfl ?_ | refine wt rfl ?_ ?_ | refine wu rfl ?_ ?_ | refine wv rfl rfl ?_ rfl rfl ?_ | refine xa agree rfl rfl ?_ ?_ | refine xb agree rfl rfl rfl ?_ ?_); try (first | exact trivial | (rw [hgd] <;> rfl) | ((repeat' apply And.intro) <;> first | exact trivial | exact rfl | omega | (simp; done) | (simp; omega)))) | refine wn (wr rfl rfl rfl) rfl ?_ | refine wo rfl (wr rfl rfl rfl) rfl ?_ | refine ws rfl rfl ?_ | refine wj rfl ?_ | refine wk rfl ?_ | refine ww rfl rfl rfl ?_)
    · exact ⟨gr_fits hg.1 rfl, gr_pl g⟩
    repeat (first | apply wa | apply wb | apply wc | apply wd | apply we | apply wf | apply wg | apply wh | apply wi | ((first | refine wl rfl rfl ?_ ?_ | refine wn (wp rfl rfl rfl rfl rfl ?_) rfl ?_ | refine wn (wq agree rfl rfl rfl ?_) rfl ?_ | refine wm rfl rfl rfl ?_ ?_ | refine wo rfl (wp rfl rfl rfl rfl rfl ?_) rfl ?_ | refine wo rfl (wq agree rfl rfl rfl ?_) rfl ?_ | refine wt rfl ?_ ?_ | refine wu rfl ?_ ?_ | refine wv rfl rfl ?_ rfl rfl ?_ | refine xa agree rfl rfl ?_ ?_ | refine xb agree rfl rfl rfl ?_ ?_); try (first | exact trivial | (rw [hgd] <;> rfl) | ((repeat' apply And.intro) <;> first | exact trivial | exact rfl | omega | (simp; done) | (simp; omega)))) | refine wn (wr rfl rfl rfl) rfl ?_ | refine wo rfl (wr rfl rfl rfl) rfl ?_ | refine ws rfl rfl ?_ | refine wj rfl ?_ | refine wk rfl ?_ | refine ww rfl rfl rfl ?_)
    · exact ⟨ord_fits hl rfl, ord_pl l⟩
    repeat (first | apply wa | apply wb | apply wc | apply wd | apply we | apply wf | apply wg | apply wh | apply wi | ((first | refine wl rfl rfl ?_ ?_ | refine wn (wp rfl rfl rfl rfl rfl ?_) rfl ?_ | refine wn (wq agree rfl rfl rfl ?_) rfl ?_ | refine wm rfl rfl rfl ?_ ?_ | refine wo rfl (wp rfl rfl rfl rfl rfl ?_) rfl ?_ | refine wo rfl (wq agree rfl rfl rfl ?_) rfl ?_ | refine wt rfl ?_ ?_ | refine wu rfl ?_ ?_ | refine wv rfl rfl ?_ rfl rfl ?_ | refine xa agree rfl rfl ?_ ?_ | refine xb agree rfl rfl rfl ?_ ?_); try (first | exact trivial | (rw [hgd] <;> rfl) | ((repeat' apply And.intro) <;> first | exact trivial | exact rfl | omega | (simp; done) | (simp; omega)))) | refine wn (wr rfl rfl rfl) rfl ?_ | refine wo rfl (wr rfl rfl rfl) rfl ?_ | refine ws rfl rfl ?_ | refine wj rfl ?_ | refine wk rfl ?_ | refine ww rfl rfl rfl ?_)
    have hpl2 : ((ord l).get []).pl = true := ord_pl l
    refine wo rfl (wA rfl rfl rfl (by repeat' (first | exact trivial | exact rfl | assumption | apply And.intro)) (callable (by decide)) (c_Sorted g l hg hl)) rfl ?_
    repeat (first | apply wa | apply wb | apply wc | apply wd | apply we | apply wf | apply wg | apply wh | apply wi | ((first | refine wl rfl rfl ?_ ?_ | refine wn (wp rfl rfl rfl rfl rfl ?_) rfl ?_ | refine wn (wq agree rfl rfl rfl ?_) rfl ?_ | refine wm rfl rfl rfl ?_ ?_ | refine wo rfl (wp rfl rfl rfl rfl rfl ?_) rfl ?_ | refine wo rfl (wq agree rfl rfl rfl ?_) rfl ?_ | refine wt rfl ?_ ?_ | refine wu rfl ?_ ?_ | refine wv rfl rfl ?_ rfl rfl ?_ | refine xa agree rfl rfl ?_ ?_ | refine xb agree rfl rfl rfl ?_ ?_); try (first | exact trivial | (rw [hgd] <;> rfl) | ((repeat' apply And.intro) <;> first | exact trivial | exact rfl | omega | (simp; done) | (simp; omega)))) | refine wn (wr rfl rfl rfl) rfl ?_ | refine wo rfl (wr rfl rfl rfl) rfl ?_ | refine ws rfl rfl ?_ | refine wj rfl ?_ | refine wk rfl ?_ | refine ww rfl rfl rfl ?_)
    refine Run.condB rfl rfl (fun h1 => ?_) (fun h1 => ?_)
    · have h1' : sortedN g l = false := by simpa using h1
      repeat (first | apply wa | apply wb | apply wc | apply wd | apply we | apply wf | apply wg | apply wh | apply wi | ((first | refine wl rfl rfl ?_ ?_ | refine wn (wp rfl rfl rfl rfl rfl ?_) rfl ?_ | refine wn (wq agree rfl rfl rfl ?_) rfl ?_ | refine wm rfl rfl rfl ?_ ?_ | refine wo rfl (wp rfl rfl rfl rfl rfl ?_) rfl ?_ | refine wo rfl (wq agree rfl rfl rfl ?_) rfl ?_ | refine wt rfl ?_ ?_ | refine wu rfl ?_ ?_ | refine wv rfl rfl ?_ rfl rfl ?_ | refine xa agree rfl rfl ?_ ?_ | refine xb agree rfl rfl rfl ?_ ?_); try (first | exact trivial | (rw [hgd] <;> rfl) | ((repeat' apply And.intro) <;> first | exact trivial | exact rfl | omega | (simp; done) | (simp; omega)))) | refine wn (wr rfl rfl rfl) rfl ?_ | refine wo rfl (wr rfl rfl rfl) rfl ?_ | refine ws rfl rfl ?_ | refine wj rfl ?_ | refine wk rfl ?_ | refine ww rfl rfl rfl ?_)
      refine Run.keep [4, 5, 8, 9, 10] rfl ?_
      refine Run.at (l' := [(4, .box (gr g)), (5, .box (ord l)), (8, .box (gr (List.replicate 32 0))), (9, .box (ord (List.replicate 32 0))), (10, .d (.v (.bool false)))]) rfl ?_
      refine Run.opsB agree mixed rfl rfl ?_
      repeat (first | refine ya ?_ | ((first | refine yb rfl rfl ?_ ?_ | refine yd rfl rfl ?_ rfl ?_ | refine yc (wp rfl rfl rfl rfl rfl ?_) rfl ?_); try (first | exact trivial | (rw [hgd] <;> rfl) | (rw [hgd2] <;> rfl) | ((repeat' apply And.intro) <;> first | exact trivial | exact rfl | omega | (simp; done) | (simp; omega)))) | refine yf rfl rfl ?_)
      · exact ⟨gr_fits hg.1 rfl, gr_pl g⟩
      repeat (first | refine ya ?_ | ((first | refine yb rfl rfl ?_ ?_ | refine yd rfl rfl ?_ rfl ?_ | refine yc (wp rfl rfl rfl rfl rfl ?_) rfl ?_); try (first | exact trivial | (rw [hgd] <;> rfl) | (rw [hgd2] <;> rfl) | ((repeat' apply And.intro) <;> first | exact trivial | exact rfl | omega | (simp; done) | (simp; omega)))) | refine yf rfl rfl ?_)
      · exact ⟨ord_fits hl rfl, ord_pl l⟩
      repeat (first | refine ya ?_ | ((first | refine yb rfl rfl ?_ ?_ | refine yd rfl rfl ?_ rfl ?_ | refine yc (wp rfl rfl rfl rfl rfl ?_) rfl ?_); try (first | exact trivial | (rw [hgd] <;> rfl) | (rw [hgd2] <;> rfl) | ((repeat' apply And.intro) <;> first | exact trivial | exact rfl | omega | (simp; done) | (simp; omega)))) | refine yf rfl rfl ?_)
      refine yd rfl rfl (gr_pl g) (gr_stoAll (z := List.replicate 32 0) hg.1 rfl rfl) ?_
      refine yd rfl rfl (ord_pl l) (ord_stoAll (z := List.replicate 32 0) hl rfl rfl) ?_
      repeat (first | refine ya ?_ | ((first | refine yb rfl rfl ?_ ?_ | refine yd rfl rfl ?_ rfl ?_ | refine yc (wp rfl rfl rfl rfl rfl ?_) rfl ?_); try (first | exact trivial | (rw [hgd] <;> rfl) | (rw [hgd2] <;> rfl) | ((repeat' apply And.intro) <;> first | exact trivial | exact rfl | omega | (simp; done) | (simp; omega)))) | refine yf rfl rfl ?_)
      refine wD (Ends.tupE agree rfl ⟨⟨gr_fits hg.1 rfl, gr_pl g⟩, ⟨ord_fits hl rfl, ord_pl l⟩, rfl, trivial⟩ rfl ?_)
      simp only [insG, hq, h1', Bool.not_false, Bool.or_true, if_true]; rfl
    · have h1' : sortedN g l = true := by simpa using h1
      obtain ⟨hp, hs⟩ := (sorted_iff hl).1 h1'
      have hab : nodeN a = true ∧ nodeN b = true ∧ a ≠ b := by
        unfold putG at hq
        split at hq
        · next h => simpa [and_assoc] using h
        · cases hq
      obtain ⟨a, rfl, ha⟩ := node_nat hab.1
      obtain ⟨b, rfl, hb⟩ := node_nat hab.2.1
      have g1 : (ord l).get ([] ++ [((a : Int)).toNat]) = .v (.int .i64 (l.getD a 0)) := ord_at (by omega)
      have g2' : (ord l).get ([] ++ [((b : Int)).toNat]) = .v (.int .i64 (l.getD b 0)) := ord_at (by omega)
      refine Run.keep [4, 5, 6, 7, 8, 9, 10, 11] rfl ?_
      refine Run.at (l' := [(4, .box (gr g)), (5, .box (ord l)), (6, .box (.v (.int .i64 (a : Nat)))), (7, .box (.v (.int .i64 (b : Nat)))), (8, .box (gr (List.replicate 32 0))), (9, .box (ord (List.replicate 32 0))), (10, .d (.v (.bool false))), (11, .box (gr g2))]) rfl ?_
      repeat (first | apply wa | apply wb | apply wc | apply wd | apply we | apply wf | apply wg | apply wh | apply wi | ((first | refine wl rfl rfl ?_ ?_ | refine wn (wp rfl rfl rfl rfl rfl ?_) rfl ?_ | refine wn (wq agree rfl rfl rfl ?_) rfl ?_ | refine wm rfl rfl rfl ?_ ?_ | refine wo rfl (wp rfl rfl rfl rfl rfl ?_) rfl ?_ | refine wo rfl (wq agree rfl rfl rfl ?_) rfl ?_ | refine wt rfl ?_ ?_ | refine wu rfl ?_ ?_ | refine wv rfl rfl ?_ rfl rfl ?_ | refine xa agree rfl rfl ?_ ?_ | refine xb agree rfl rfl rfl ?_ ?_); try (first | exact trivial | (rw [hgd] <;> rfl) | ((repeat' apply And.intro) <;> first | exact trivial | exact rfl | omega | (simp; done) | (simp; omega)))) | refine wn (wr rfl rfl rfl) rfl ?_ | refine wo rfl (wr rfl rfl rfl) rfl ?_ | refine ws rfl rfl ?_ | refine wj rfl ?_ | refine wk rfl ?_ | refine ww rfl rfl rfl ?_)
      refine Run.ops1 (ld := []) rfl ?_
      repeat (first | apply wa | apply wb | apply wc | apply wd | apply we | apply wf | apply wg | apply wh | apply wi | ((first | refine wl rfl rfl ?_ ?_ | refine wn (wp rfl rfl rfl rfl rfl ?_) rfl ?_ | refine wn (wq agree rfl rfl rfl ?_) rfl ?_ | refine wm rfl rfl rfl ?_ ?_ | refine wo rfl (wp rfl rfl rfl rfl rfl ?_) rfl ?_ | refine wo rfl (wq agree rfl rfl rfl ?_) rfl ?_ | refine wt rfl ?_ ?_ | refine wu rfl ?_ ?_ | refine wv rfl rfl ?_ rfl rfl ?_ | refine xa agree rfl rfl ?_ ?_ | refine xb agree rfl rfl rfl ?_ ?_); try (first | exact trivial | (rw [hgd] <;> rfl) | ((repeat' apply And.intro) <;> first | exact trivial | exact rfl | omega | (simp; done) | (simp; omega)))) | refine wn (wr rfl rfl rfl) rfl ?_ | refine wo rfl (wr rfl rfl rfl) rfl ?_ | refine ws rfl rfl ?_ | refine wj rfl ?_ | refine wk rfl ?_ | refine ww rfl rfl rfl ?_)
      · exact ⟨rfl, rfl, by rw [ints_len, hl], by omega, by omega⟩
      refine wn (Ev.ldBox rfl (adrOf_sound rfl) (ld_ok (T := 3) g1 rfl).1 (ld_ok (T := 3) g1 rfl).2) rfl ?_
      first | refine OpsAt.say (d := 42) rfl (y := .v (.int .i64 (l.getD a 0))) (g1) ?_ | refine Run.say (d := 42) rfl (y := .v (.int .i64 (l.getD a 0))) (g1) ?_ | refine OpsB.say (d := 42) rfl (y := .v (.int .i64 (l.getD a 0))) (g1) ?_
      repeat (first | apply wa | apply wb | apply wc | apply wd | apply we | apply wf | apply wg | apply wh | apply wi | ((first | refine wl rfl rfl ?_ ?_ | refine wn (wp rfl rfl rfl rfl rfl ?_) rfl ?_ | refine wn (wq agree rfl rfl rfl ?_) rfl ?_ | refine wm rfl rfl rfl ?_ ?_ | refine wo rfl (wp rfl rfl rfl rfl rfl ?_) rfl ?_ | refine wo rfl (wq agree rfl rfl rfl ?_) rfl ?_ | refine wt rfl ?_ ?_ | refine wu rfl ?_ ?_ | refine wv rfl rfl ?_ rfl rfl ?_ | refine xa agree rfl rfl ?_ ?_ | refine xb agree rfl rfl rfl ?_ ?_); try (first | exact trivial | (rw [hgd] <;> rfl) | ((repeat' apply And.intro) <;> first | exact trivial | exact rfl | omega | (simp; done) | (simp; omega)))) | refine wn (wr rfl rfl rfl) rfl ?_ | refine wo rfl (wr rfl rfl rfl) rfl ?_ | refine ws rfl rfl ?_ | refine wj rfl ?_ | refine wk rfl ?_ | refine ww rfl rfl rfl ?_)
      · exact ⟨rfl, rfl, by rw [ints_len, hl], by omega, by omega⟩
      refine wn (Ev.ldBox rfl (adrOf_sound rfl) (ld_ok (T := 3) g2' rfl).1 (ld_ok (T := 3) g2' rfl).2) rfl ?_
      first | refine OpsAt.say (d := 45) rfl (y := .v (.int .i64 (l.getD b 0))) (g2') ?_ | refine Run.say (d := 45) rfl (y := .v (.int .i64 (l.getD b 0))) (g2') ?_ | refine OpsB.say (d := 45) rfl (y := .v (.int .i64 (l.getD b 0))) (g2') ?_
      repeat (first | apply wa | apply wb | apply wc | apply wd | apply we | apply wf | apply wg | apply wh | apply wi | ((first | refine wl rfl rfl ?_ ?_ | refine wn (wp rfl rfl rfl rfl rfl ?_) rfl ?_ | refine wn (wq agree rfl rfl rfl ?_) rfl ?_ | refine wm rfl rfl rfl ?_ ?_ | refine wo rfl (wp rfl rfl rfl rfl rfl ?_) rfl ?_ | refine wo rfl (wq agree rfl rfl rfl ?_) rfl ?_ | refine wt rfl ?_ ?_ | refine wu rfl ?_ ?_ | refine wv rfl rfl ?_ rfl rfl ?_ | refine xa agree rfl rfl ?_ ?_ | refine xb agree rfl rfl rfl ?_ ?_); try (first | exact trivial | (rw [hgd] <;> rfl) | ((repeat' apply And.intro) <;> first | exact trivial | exact rfl | omega | (simp; done) | (simp; omega)))) | refine wn (wr rfl rfl rfl) rfl ?_ | refine wo rfl (wr rfl rfl rfl) rfl ?_ | refine ws rfl rfl ?_ | refine wj rfl ?_ | refine wk rfl ?_ | refine ww rfl rfl rfl ?_)
      refine Run.condB rfl rfl (fun h2 => ?_) (fun h2 => ?_)
      · have h2' : l.getD a 0 < l.getD b 0 := of_decide_eq_true h2
        repeat (first | apply wa | apply wb | apply wc | apply wd | apply we | apply wf | apply wg | apply wh | apply wi | ((first | refine wl rfl rfl ?_ ?_ | refine wn (wp rfl rfl rfl rfl rfl ?_) rfl ?_ | refine wn (wq agree rfl rfl rfl ?_) rfl ?_ | refine wm rfl rfl rfl ?_ ?_ | refine wo rfl (wp rfl rfl rfl rfl rfl ?_) rfl ?_ | refine wo rfl (wq agree rfl rfl rfl ?_) rfl ?_ | refine wt rfl ?_ ?_ | refine wu rfl ?_ ?_ | refine wv rfl rfl ?_ rfl rfl ?_ | refine xa agree rfl rfl ?_ ?_ | refine xb agree rfl rfl rfl ?_ ?_); try (first | exact trivial | (rw [hgd] <;> rfl) | ((repeat' apply And.intro) <;> first | exact trivial | exact rfl | omega | (simp; done) | (simp; omega)))) | refine wn (wr rfl rfl rfl) rfl ?_ | refine wo rfl (wr rfl rfl rfl) rfl ?_ | refine ws rfl rfl ?_ | refine wj rfl ?_ | refine wk rfl ?_ | refine ww rfl rfl rfl ?_)
        refine Run.keep [11, 5, 8, 9, 10] rfl ?_
        refine Run.at (l' := [(11, .box (gr g2)), (5, .box (ord l)), (8, .box (gr (List.replicate 32 0))), (9, .box (ord (List.replicate 32 0))), (10, .d (.v (.bool false)))]) rfl ?_
        refine Run.opsB agree mixed rfl rfl ?_
        repeat (first | refine ya ?_ | ((first | refine yb rfl rfl ?_ ?_ | refine yd rfl rfl ?_ rfl ?_ | refine yc (wp rfl rfl rfl rfl rfl ?_) rfl ?_); try (first | exact trivial | (rw [hgd] <;> rfl) | (rw [hgd2] <;> rfl) | ((repeat' apply And.intro) <;> first | exact trivial | exact rfl | omega | (simp; done) | (simp; omega)))) | refine yf rfl rfl ?_)
        · exact ⟨gr_fits hg2.1 rfl, gr_pl g2⟩
        repeat (first | refine ya ?_ | ((first | refine yb rfl rfl ?_ ?_ | refine yd rfl rfl ?_ rfl ?_ | refine yc (wp rfl rfl rfl rfl rfl ?_) rfl ?_); try (first | exact trivial | (rw [hgd] <;> rfl) | (rw [hgd2] <;> rfl) | ((repeat' apply And.intro) <;> first | exact trivial | exact rfl | omega | (simp; done) | (simp; omega)))) | refine yf rfl rfl ?_)
        · exact ⟨ord_fits hl rfl, ord_pl l⟩
        repeat (first | refine ya ?_ | ((first | refine yb rfl rfl ?_ ?_ | refine yd rfl rfl ?_ rfl ?_ | refine yc (wp rfl rfl rfl rfl rfl ?_) rfl ?_); try (first | exact trivial | (rw [hgd] <;> rfl) | (rw [hgd2] <;> rfl) | ((repeat' apply And.intro) <;> first | exact trivial | exact rfl | omega | (simp; done) | (simp; omega)))) | refine yf rfl rfl ?_)
        refine yd rfl rfl (gr_pl g2) (gr_stoAll (z := List.replicate 32 0) hg2.1 rfl rfl) ?_
        refine yd rfl rfl (ord_pl l) (ord_stoAll (z := List.replicate 32 0) hl rfl rfl) ?_
        repeat (first | refine ya ?_ | ((first | refine yb rfl rfl ?_ ?_ | refine yd rfl rfl ?_ rfl ?_ | refine yc (wp rfl rfl rfl rfl rfl ?_) rfl ?_); try (first | exact trivial | (rw [hgd] <;> rfl) | (rw [hgd2] <;> rfl) | ((repeat' apply And.intro) <;> first | exact trivial | exact rfl | omega | (simp; done) | (simp; omega)))) | refine yf rfl rfl ?_)
        refine wD (Ends.tupE agree rfl ⟨⟨gr_fits hg2.1 rfl, gr_pl g2⟩, ⟨ord_fits hl rfl, ord_pl l⟩, rfl, trivial⟩ rfl ?_)
        simp only [insG, hq, h1', Bool.not_true, Bool.or_false, Bool.false_eq_true, if_false, Int.toNat_natCast, if_pos h2']; rfl
      · have h2' : ¬ l.getD a 0 < l.getD b 0 := of_decide_eq_false h2
        have hle : pl l b ≤ pl l a := by have e1 := (hp.pl_eq ha).1; have e2 := (hp.pl_eq hb).1; omega
        repeat (first | apply wa | apply wb | apply wc | apply wd | apply we | apply wf | apply wg | apply wh | apply wi | ((first | refine wl rfl rfl ?_ ?_ | refine wn (wp rfl rfl rfl rfl rfl ?_) rfl ?_ | refine wn (wq agree rfl rfl rfl ?_) rfl ?_ | refine wm rfl rfl rfl ?_ ?_ | refine wo rfl (wp rfl rfl rfl rfl rfl ?_) rfl ?_ | refine wo rfl (wq agree rfl rfl rfl ?_) rfl ?_ | refine wt rfl ?_ ?_ | refine wu rfl ?_ ?_ | refine wv rfl rfl ?_ rfl rfl ?_ | refine xa agree rfl rfl ?_ ?_ | refine xb agree rfl rfl rfl ?_ ?_); try (first | exact trivial | (rw [hgd] <;> rfl) | ((repeat' apply And.intro) <;> first | exact trivial | exact rfl | omega | (simp; done) | (simp; omega)))) | refine wn (wr rfl rfl rfl) rfl ?_ | refine wo rfl (wr rfl rfl rfl) rfl ?_ | refine ws rfl rfl ?_ | refine wj rfl ?_ | refine wk rfl ?_ | refine ww rfl rfl rfl ?_)
        refine wn (xc rfl rfl rfl rfl (by repeat' (first | exact trivial | exact rfl | assumption | apply And.intro)) (callable (by decide)) (c_near 29 31 [.pt (gr g).lend] [.pt (ord l).lend, .pt (D.v (.int .i64 (a : Nat))).lend] (fun i => outsN g (i : Int)) (fun k => decide (l.getD k 0 ≤ l.getD a 0)) b hb (outs32 g) (callable (by decide)) (callable (by decide)) (fun i _ => by rw [gr_lend]; exact c_In1 g i hg) (fun k hk => by rw [ord_lend]; exact c_In2 l k a hl hk ha))) rfl ?_
        first | refine OpsAt.say (d := 52) rfl (y := S (foreN g l a b)) (rfl) ?_ | refine Run.say (d := 52) rfl (y := S (foreN g l a b)) (rfl) ?_ | refine OpsB.say (d := 52) rfl (y := S (foreN g l a b)) (rfl) ?_
        repeat (first | apply wa | apply wb | apply wc | apply wd | apply we | apply wf | apply wg | apply wh | apply wi | ((first | refine wl rfl rfl ?_ ?_ | refine wn (wp rfl rfl rfl rfl rfl ?_) rfl ?_ | refine wn (wq agree rfl rfl rfl ?_) rfl ?_ | refine wm rfl rfl rfl ?_ ?_ | refine wo rfl (wp rfl rfl rfl rfl rfl ?_) rfl ?_ | refine wo rfl (wq agree rfl rfl rfl ?_) rfl ?_ | refine wt rfl ?_ ?_ | refine wu rfl ?_ ?_ | refine wv rfl rfl ?_ rfl rfl ?_ | refine xa agree rfl rfl ?_ ?_ | refine xb agree rfl rfl rfl ?_ ?_); try (first | exact trivial | (rw [hgd] <;> rfl) | ((repeat' apply And.intro) <;> first | exact trivial | exact rfl | omega | (simp; done) | (simp; omega)))) | refine wn (wr rfl rfl rfl) rfl ?_ | refine wo rfl (wr rfl rfl rfl) rfl ?_ | refine ws rfl rfl ?_ | refine wj rfl ?_ | refine wk rfl ?_ | refine ww rfl rfl rfl ?_)
        refine wn (wA rfl rfl rfl (by repeat' (first | exact trivial | exact rfl | assumption | apply And.intro)) (callable (by decide)) (c_Has (foreN g l a b) a (setOf_lt _))) rfl ?_
        repeat (first | apply wa | apply wb | apply wc | apply wd | apply we | apply wf | apply wg | apply wh | apply wi | ((first | refine wl rfl rfl ?_ ?_ | refine wn (wp rfl rfl rfl rfl rfl ?_) rfl ?_ | refine wn (wq agree rfl rfl rfl ?_) rfl ?_ | refine wm rfl rfl rfl ?_ ?_ | refine wo rfl (wp rfl rfl rfl rfl rfl ?_) rfl ?_ | refine wo rfl (wq agree rfl rfl rfl ?_) rfl ?_ | refine wt rfl ?_ ?_ | refine wu rfl ?_ ?_ | refine wv rfl rfl ?_ rfl rfl ?_ | refine xa agree rfl rfl ?_ ?_ | refine xb agree rfl rfl rfl ?_ ?_); try (first | exact trivial | (rw [hgd] <;> rfl) | ((repeat' apply And.intro) <;> first | exact trivial | exact rfl | omega | (simp; done) | (simp; omega)))) | refine wn (wr rfl rfl rfl) rfl ?_ | refine wo rfl (wr rfl rfl rfl) rfl ?_ | refine ws rfl rfl ?_ | refine wj rfl ?_ | refine wk rfl ?_ | refine ww rfl rfl rfl ?_)
        refine Run.condB rfl rfl (fun h3 => ?_) (fun h3 => ?_)
        · repeat (first | apply wa | apply wb | apply wc | apply wd | apply we | apply wf | apply wg | apply wh | apply wi | ((first | refine wl rfl rfl ?_ ?_ | refine wn (wp rfl rfl rfl rfl rfl ?_) rfl ?_ | refine wn (wq agree rfl rfl rfl ?_) rfl ?_ | refine wm rfl rfl rfl ?_ ?_ | refine wo rfl (wp rfl rfl rfl rfl rfl ?_) rfl ?_ | refine wo rfl (wq agree rfl rfl rfl ?_) rfl ?_ | refine wt rfl ?_ ?_ | refine wu rfl ?_ ?_ | refine wv rfl rfl ?_ rfl rfl ?_ | refine xa agree rfl rfl ?_ ?_ | refine xb agree rfl rfl rfl ?_ ?_); try (first | exact trivial | (rw [hgd] <;> rfl) | ((repeat' apply And.intro) <;> first | exact trivial | exact rfl | omega | (simp; done) | (simp; omega)))) | refine wn (wr rfl rfl rfl) rfl ?_ | refine wo rfl (wr rfl rfl rfl) rfl ?_ | refine ws rfl rfl ?_ | refine wj rfl ?_ | refine wk rfl ?_ | refine ww rfl rfl rfl ?_)
          refine Run.keep [4, 5, 8, 9, 10] rfl ?_
          refine Run.at (l' := [(4, .box (gr g)), (5, .box (ord l)), (8, .box (gr (List.replicate 32 0))), (9, .box (ord (List.replicate 32 0))), (10, .d (.v (.bool false)))]) rfl ?_
          refine Run.opsB agree mixed rfl rfl ?_
          repeat (first | refine ya ?_ | ((first | refine yb rfl rfl ?_ ?_ | refine yd rfl rfl ?_ rfl ?_ | refine yc (wp rfl rfl rfl rfl rfl ?_) rfl ?_); try (first | exact trivial | (rw [hgd] <;> rfl) | (rw [hgd2] <;> rfl) | ((repeat' apply And.intro) <;> first | exact trivial | exact rfl | omega | (simp; done) | (simp; omega)))) | refine yf rfl rfl ?_)
          · exact ⟨gr_fits hg.1 rfl, gr_pl g⟩
          repeat (first | refine ya ?_ | ((first | refine yb rfl rfl ?_ ?_ | refine yd rfl rfl ?_ rfl ?_ | refine yc (wp rfl rfl rfl rfl rfl ?_) rfl ?_); try (first | exact trivial | (rw [hgd] <;> rfl) | (rw [hgd2] <;> rfl) | ((repeat' apply And.intro) <;> first | exact trivial | exact rfl | omega | (simp; done) | (simp; omega)))) | refine yf rfl rfl ?_)
          · exact ⟨ord_fits hl rfl, ord_pl l⟩
          repeat (first | refine ya ?_ | ((first | refine yb rfl rfl ?_ ?_ | refine yd rfl rfl ?_ rfl ?_ | refine yc (wp rfl rfl rfl rfl rfl ?_) rfl ?_); try (first | exact trivial | (rw [hgd] <;> rfl) | (rw [hgd2] <;> rfl) | ((repeat' apply And.intro) <;> first | exact trivial | exact rfl | omega | (simp; done) | (simp; omega)))) | refine yf rfl rfl ?_)
          refine yd rfl rfl (gr_pl g) (gr_stoAll (z := List.replicate 32 0) hg.1 rfl rfl) ?_
          refine yd rfl rfl (ord_pl l) (ord_stoAll (z := List.replicate 32 0) hl rfl rfl) ?_
          repeat (first | refine ya ?_ | ((first | refine yb rfl rfl ?_ ?_ | refine yd rfl rfl ?_ rfl ?_ | refine yc (wp rfl rfl rfl rfl rfl ?_) rfl ?_); try (first | exact trivial | (rw [hgd] <;> rfl) | (rw [hgd2] <;> rfl) | ((repeat' apply And.intro) <;> first | exact trivial | exact rfl | omega | (simp; done) | (simp; omega)))) | refine yf rfl rfl ?_)
          refine wD (Ends.tupE agree rfl ⟨⟨gr_fits hg.1 rfl, gr_pl g⟩, ⟨ord_fits hl rfl, ord_pl l⟩, rfl, trivial⟩ rfl ?_)
          simp only [insG, hq, h1', Bool.not_true, Bool.or_false, Bool.false_eq_true, if_false, Int.toNat_natCast, if_neg h2', h3, if_true]; rfl
        · have hno : ¬ (foreN g l a b).testBit a = true := by
            have : small (a : Int) = true := by simp [small]; omega
            simpa [hasN, this] using h3
          repeat (first | apply wa | apply wb | apply wc | apply wd | apply we | apply wf | apply wg | apply wh | apply wi | ((first | refine wl rfl rfl ?_ ?_ | refine wn (wp rfl rfl rfl rfl rfl ?_) rfl ?_ | refine wn (wq agree rfl rfl rfl ?_) rfl ?_ | refine wm rfl rfl rfl ?_ ?_ | refine wo rfl (wp rfl rfl rfl rfl rfl ?_) rfl ?_ | refine wo rfl (wq agree rfl rfl rfl ?_) rfl ?_ | refine wt rfl ?_ ?_ | refine wu rfl ?_ ?_ | refine wv rfl rfl ?_ rfl rfl ?_ | refine xa agree rfl rfl ?_ ?_ | refine xb agree rfl rfl rfl ?_ ?_); try (first | exact trivial | (rw [hgd] <;> rfl) | ((repeat' apply And.intro) <;> first | exact trivial | exact rfl | omega | (simp; done) | (simp; omega)))) | refine wn (wr rfl rfl rfl) rfl ?_ | refine wo rfl (wr rfl rfl rfl) rfl ?_ | refine ws rfl rfl ?_ | refine wj rfl ?_ | refine wk rfl ?_ | refine ww rfl rfl rfl ?_)
          refine wn (xc rfl rfl rfl rfl (by repeat' (first | exact trivial | exact rfl | assumption | apply And.intro)) (callable (by decide)) (c_near 33 35 [.pt (gr g).lend] [.pt (ord l).lend, .pt (D.v (.int .i64 (b : Nat))).lend] (fun i => insN g (i : Int)) (fun k => decide (l.getD b 0 ≤ l.getD k 0)) a ha (ins32 g) (callable (by decide)) (callable (by decide)) (fun i _ => by rw [gr_lend]; exact c_In3 g i hg) (fun k hk => by rw [ord_lend]; exact c_In4 l k b hl hk hb))) rfl ?_
          first | refine OpsAt.say (d := 61) rfl (y := S (hindN g l a b)) (rfl) ?_ | refine Run.say (d := 61) rfl (y := S (hindN g l a b)) (rfl) ?_ | refine OpsB.say (d := 61) rfl (y := S (hindN g l a b)) (rfl) ?_
          have hF : foreN g l a b < 4294967296 := lt32_of (setOf_lt _) fun k hk => Bool.eq_false_iff.2 fun h => by have := (fore_lt hp hs ha hb hle (setOf_bit.1 h).2).1; omega
          have hH : hindN g l a b < 4294967296 := lt32_of (setOf_lt _) fun k hk => Bool.eq_false_iff.2 fun h => by have := (hind_lt hp hs ha hb hle (setOf_bit.1 h).2).1; omega
          have hres : insG g l (a : Int) (b : Int) = (g2, newO l (hindN g l a b) (foreN g l a b), true) := by
            simp only [insG, hq, h1', Bool.not_true, Bool.or_false, Bool.false_eq_true, if_false, Int.toNat_natCast, if_neg h2', h3]
          have hap := apart hp hs ha hb hle hno
          rw [hres]
          obtain ⟨F, hFe⟩ : ∃ F, F = foreN g l a b := ⟨_, rfl⟩
          obtain ⟨H, hHe⟩ : ∃ H, H = hindN g l a b := ⟨_, rfl⟩
          rw [← hFe] at hF hap
          rw [← hHe] at hH hap
          simp only [← hFe, ← hHe]
          repeat (first | apply wa | apply wb | apply wc | apply wd | apply we | apply wf | apply wg | apply wh | apply wi | ((first | refine wl rfl rfl ?_ ?_ | refine wn (wp rfl rfl rfl rfl rfl ?_) rfl ?_ | refine wn (wq agree rfl rfl rfl ?_) rfl ?_ | refine wm rfl rfl rfl ?_ ?_ | refine wo rfl (wp rfl rfl rfl rfl rfl ?_) rfl ?_ | refine wo rfl (wq agree rfl rfl rfl ?_) rfl ?_ | refine wt rfl ?_ ?_ | refine wu rfl ?_ ?_ | refine wv rfl rfl ?_ rfl rfl ?_ | refine xa agree rfl rfl ?_ ?_ | refine xb agree rfl rfl rfl ?_ ?_); try (first | exact trivial | (rw [hgd] <;> rfl) | ((repeat' apply And.intro) <;> first | exact trivial | exact rfl | omega | (simp; done) | (simp; omega)))) | refine wn (wr rfl rfl rfl) rfl ?_ | refine wo rfl (wr rfl rfl rfl) rfl ?_ | refine ws rfl rfl ?_ | refine wj rfl ?_ | refine wk rfl ?_ | refine ww rfl rfl rfl ?_)
          · exact ⟨ord_fits hl rfl, ord_pl l⟩
          repeat (first | apply wa | apply wb | apply wc | apply wd | apply we | apply wf | apply wg | apply wh | apply wi | ((first | refine wl rfl rfl ?_ ?_ | refine wn (wp rfl rfl rfl rfl rfl ?_) rfl ?_ | refine wn (wq agree rfl rfl rfl ?_) rfl ?_ | refine wm rfl rfl rfl ?_ ?_ | refine wo rfl (wp rfl rfl rfl rfl rfl ?_) rfl ?_ | refine wo rfl (wq agree rfl rfl rfl ?_) rfl ?_ | refine wt rfl ?_ ?_ | refine wu rfl ?_ ?_ | refine wv rfl rfl ?_ rfl rfl ?_ | refine xa agree rfl rfl ?_ ?_ | refine xb agree rfl rfl rfl ?_ ?_); try (first | exact trivial | (rw [hgd] <;> rfl) | ((repeat' apply And.intro) <;> first | exact trivial | exact rfl | omega | (simp; done) | (simp; omega)))) | refine wn (wr rfl rfl rfl) rfl ?_ | refine wo rfl (wr rfl rfl rfl) rfl ?_ | refine ws rfl rfl ?_ | refine wj rfl ?_ | refine wk rfl ?_ | refine ww rfl rfl rfl ?_)
          have hor : F ||| H < 4294967296 := Nat.or_lt_two_pow (n := 32) hF hH
          first | refine OpsAt.say (d := 65) rfl (y := S (F ||| H)) (congrArg (fun z => D.v (.int .u64 z)) (or64 (Nat.lt_trans hF (by decide)) (Nat.lt_trans hH (by decide)))) ?_ | refine Run.say (d := 65) rfl (y := S (F ||| H)) (congrArg (fun z => D.v (.int .u64 z)) (or64 (Nat.lt_trans hF (by decide)) (Nat.lt_trans hH (by decide)))) ?_ | refine OpsB.say (d := 65) rfl (y := S (F ||| H)) (congrArg (fun z => D.v (.int .u64 z)) (or64 (Nat.lt_trans hF (by decide)) (Nat.lt_trans hH (by decide)))) ?_
          refine wn (wA rfl rfl rfl (by repeat' (first | exact trivial | exact rfl | assumption | apply And.intro)) (callable (by decide)) (c_sorted l (F ||| H) hp hor)) rfl ?_
          repeat (first | apply wa | apply wb | apply wc | apply wd | apply we | apply wf | apply wg | apply wh | apply wi | ((first | refine wl rfl rfl ?_ ?_ | refine wn (wp rfl rfl rfl rfl rfl ?_) rfl ?_ | refine wn (wq agree rfl rfl rfl ?_) rfl ?_ | refine wm rfl rfl rfl ?_ ?_ | refine wo rfl (wp rfl rfl rfl rfl rfl ?_) rfl ?_ | refine wo rfl (wq agree rfl rfl rfl ?_) rfl ?_ | refine wt rfl ?_ ?_ | refine wu rfl ?_ ?_ | refine wv rfl rfl ?_ rfl rfl ?_ | refine xa agree rfl rfl ?_ ?_ | refine xb agree rfl rfl rfl ?_ ?_); try (first | exact trivial | (rw [hgd] <;> rfl) | ((repeat' apply And.intro) <;> first | exact trivial | exact rfl | omega | (simp; done) | (simp; omega)))) | refine wn (wr rfl rfl rfl) rfl ?_ | refine wo rfl (wr rfl rfl rfl) rfl ?_ | refine ws rfl rfl ?_ | refine wj rfl ?_ | refine wk rfl ?_ | refine ww rfl rfl rfl ?_)
          obtain ⟨xs, hxs⟩ : ∃ xs, xs = byO l (F ||| H) := ⟨_, rfl⟩
          have hx32 : ∀ x ∈ xs, x < 32 := fun x hx => by rw [hxs, hp.byO_mem] at hx; exact hx.1
          have hxl : xs.length ≤ 32 := by rw [hxs]; unfold byO; refine Nat.le_trans (List.length_filter_le _ _) ?_; simp
          rw [← hxs]
          obtain ⟨nl, hnl⟩ : ∃ nl, nl = xs.isEmpty := ⟨_, rfl⟩
          rw [← hnl]
          refine Run.keep [5, 8, 9, 10, 11, 13, 14, 15, 67, 68, 69] rfl ?_
          have hlx : ((ints (natI xs)).length : Int) = xs.length := by rw [ints_len, natI_len]
          refine Run.at (l' := [(5, .box (ord l)), (8, .box (gr (List.replicate 32 0))), (9, .box (ord (List.replicate 32 0))), (10, .d (.v (.bool false))), (11, .box (gr g2)), (13, .d (S F)), (14, .d (S H)), (15, .d (.own nl 3 1 (ints (natI xs)))), (67, .view 15 []), (68, .d (.v (.int .i64 xs.length))), (69, .d (.v (.int .i64 (0 : Nat))))]) (by rw [← hlx]; rfl) ?_
          refine Run.loopL (α := List Nat × List Nat) (fun q => xs = q.1 ++ q.2) (fun q => [(5, .box (ord l)), (8, .box (gr (List.replicate 32 0))), (9, .box (ord (List.replicate 32 0))), (10, .d (.v (.bool false))), (11, .box (gr g2)), (13, .d (S F)), (14, .d (S H)), (15, .d (.own nl 3 1 (ints (natI (q.1.map (pl l) ++ q.2))))), (67, .view 15 []), (68, .d (.v (.int .i64 xs.length))), (69, .d (.v (.int .i64 q.1.length)))]) (fun q => q.2.length) ([], xs) rfl ?_
          rintro ⟨pre, post⟩ hpp ih
          simp only at hpp
          have hlen : xs.length = pre.length + post.length := by rw [hpp]; simp
          refine Run.at (l' := [(5, .box (ord l)), (8, .box (gr (List.replicate 32 0))), (9, .box (ord (List.replicate 32 0))), (10, .d (.v (.bool false))), (11, .box (gr g2)), (13, .d (S F)), (14, .d (S H)), (15, .d (.own nl 3 1 (ints (natI (pre.map (pl l) ++ post))))), (67, .view 15 []), (68, .d (.v (.int .i64 xs.length))), (69, .d (.v (.int .i64 pre.length)))]) rfl ?_
          repeat (first | apply wa | apply wb | apply wc | apply wd | apply we | apply wf | apply wg | apply wh | apply wi | ((first | refine wl rfl rfl ?_ ?_ | refine wn (wp rfl rfl rfl rfl rfl ?_) rfl ?_ | refine wn (wq agree rfl rfl rfl ?_) rfl ?_ | refine wm rfl rfl rfl ?_ ?_ | refine wo rfl (wp rfl rfl rfl rfl rfl ?_) rfl ?_ | refine wo rfl (wq agree rfl rfl rfl ?_) rfl ?_ | refine wt rfl ?_ ?_ | refine wu rfl ?_ ?_ | refine wv rfl rfl ?_ rfl rfl ?_ | refine xa agree rfl rfl ?_ ?_ | refine xb agree rfl rfl rfl ?_ ?_); try (first | exact trivial | (rw [hgd] <;> rfl) | ((repeat' apply And.intro) <;> first | exact trivial | exact rfl | omega | (simp; done) | (simp; omega)))) | refine wn (wr rfl rfl rfl) rfl ?_ | refine wo rfl (wr rfl rfl rfl) rfl ?_ | refine ws rfl rfl ?_ | refine wj rfl ?_ | refine wk rfl ?_ | refine ww rfl rfl rfl ?_)
          refine Run.condB rfl rfl (fun hb2 => ?_) (fun hb2 => ?_)
          · cases post with
            | nil => simp at hlen hb2; omega
            | cons x post =>
              have hx := hx32 x (by rw [hpp]; simp)
              have hgd : (ints (natI (pre.map (pl l) ++ x :: post))).getD ((pre.length : Int)).toNat un = .v (.int .i64 (x : Nat)) := by
                have := ints_pre (pre.map (pl l)) post x
                rwa [List.length_map] at this
              have gx : (ord l).get ([] ++ [((x : Int)).toNat]) = .v (.int .i64 (pl l x : Nat)) := by rw [← (hp.pl_eq hx).1]; exact ord_at (by omega)
              repeat (first | apply wa | apply wb | apply wc | apply wd | apply we | apply wf | apply wg | apply wh | apply wi | ((first | refine wl rfl rfl ?_ ?_ | refine wn (wp rfl rfl rfl rfl rfl ?_) rfl ?_ | refine wn (wq agree rfl rfl rfl ?_) rfl ?_ | refine wm rfl rfl rfl ?_ ?_ | refine wo rfl (wp rfl rfl rfl rfl rfl ?_) rfl ?_ | refine wo rfl (wq agree rfl rfl rfl ?_) rfl ?_ | refine wt rfl ?_ ?_ | refine wu rfl ?_ ?_ | refine wv rfl rfl ?_ rfl rfl ?_ | refine xa agree rfl rfl ?_ ?_ | refine xb agree rfl rfl rfl ?_ ?_); try (first | exact trivial | (rw [hgd] <;> rfl) | ((repeat' apply And.intro) <;> first | exact trivial | exact rfl | omega | (simp; done) | (simp; omega)))) | refine wn (wr rfl rfl rfl) rfl ?_ | refine wo rfl (wr rfl rfl rfl) rfl ?_ | refine ws rfl rfl ?_ | refine wj rfl ?_ | refine wk rfl ?_ | refine ww rfl rfl rfl ?_)
              · exact ⟨rfl, rfl, by omega, by rw [ints_len, natI_len]; simp⟩
              repeat (first | apply wa | apply wb | apply wc | apply wd | apply we | apply wf | apply wg | apply wh | apply wi | ((first | refine wl rfl rfl ?_ ?_ | refine wn (wp rfl rfl rfl rfl rfl ?_) rfl ?_ | refine wn (wq agree rfl rfl rfl ?_) rfl ?_ | refine wm rfl rfl rfl ?_ ?_ | refine wo rfl (wp rfl rfl rfl rfl rfl ?_) rfl ?_ | refine wo rfl (wq agree rfl rfl rfl ?_) rfl ?_ | refine wt rfl ?_ ?_ | refine wu rfl ?_ ?_ | refine wv rfl rfl ?_ rfl rfl ?_ | refine xa agree rfl rfl ?_ ?_ | refine xb agree rfl rfl rfl ?_ ?_); try (first | exact trivial | (rw [hgd] <;> rfl) | ((repeat' apply And.intro) <;> first | exact trivial | exact rfl | omega | (simp; done) | (simp; omega)))) | refine wn (wr rfl rfl rfl) rfl ?_ | refine wo rfl (wr rfl rfl rfl) rfl ?_ | refine ws rfl rfl ?_ | refine wj rfl ?_ | refine wk rfl ?_ | refine ww rfl rfl rfl ?_)
              first | refine OpsAt.say (d := 73) rfl (y := .v (.int .i64 (x : Nat))) (hgd) ?_ | refine Run.say (d := 73) rfl (y := .v (.int .i64 (x : Nat))) (hgd) ?_ | refine OpsB.say (d := 73) rfl (y := .v (.int .i64 (x : Nat))) (hgd) ?_
              repeat (first | apply wa | apply wb | apply wc | apply wd | apply we | apply wf | apply wg | apply wh | apply wi | ((first | refine wl rfl rfl ?_ ?_ | refine wn (wp rfl rfl rfl rfl rfl ?_) rfl ?_ | refine wn (wq agree rfl rfl rfl ?_) rfl ?_ | refine wm rfl rfl rfl ?_ ?_ | refine wo rfl (wp rfl rfl rfl rfl rfl ?_) rfl ?_ | refine wo rfl (wq agree rfl rfl rfl ?_) rfl ?_ | refine wt rfl ?_ ?_ | refine wu rfl ?_ ?_ | refine wv rfl rfl ?_ rfl rfl ?_ | refine xa agree rfl rfl ?_ ?_ | refine xb agree rfl rfl rfl ?_ ?_); try (first | exact trivial | (rw [hgd] <;> rfl) | ((repeat' apply And.intro) <;> first | exact trivial | exact rfl | omega | (simp; done) | (simp; omega)))) | refine wn (wr rfl rfl rfl) rfl ?_ | refine wo rfl (wr rfl rfl rfl) rfl ?_ | refine ws rfl rfl ?_ | refine wj rfl ?_ | refine wk rfl ?_ | refine ww rfl rfl rfl ?_)
              · exact ⟨rfl, rfl, by rw [ints_len, hl], by omega, by omega⟩
              refine wn (Ev.ldBox rfl (adrOf_sound rfl) (ld_ok (T := 3) gx rfl).1 (ld_ok (T := 3) gx rfl).2) rfl ?_
              first | refine OpsAt.say (d := 78) rfl (y := .v (.int .i64 (pl l x : Nat))) (gx) ?_ | refine Run.say (d := 78) rfl (y := .v (.int .i64 (pl l x : Nat))) (gx) ?_ | refine OpsB.say (d := 78) rfl (y := .v (.int .i64 (pl l x : Nat))) (gx) ?_
              repeat (first | apply wa | apply wb | apply wc | apply wd | apply we | apply wf | apply wg | apply wh | apply wi | ((first | refine wl rfl rfl ?_ ?_ | refine wn (wp rfl rfl rfl rfl rfl ?_) rfl ?_ | refine wn (wq agree rfl rfl rfl ?_) rfl ?_ | refine wm rfl rfl rfl ?_ ?_ | refine wo rfl (wp rfl rfl rfl rfl rfl ?_) rfl ?_ | refine wo rfl (wq agree rfl rfl rfl ?_) rfl ?_ | refine wt rfl ?_ ?_ | refine wu rfl ?_ ?_ | refine wv rfl rfl ?_ rfl rfl ?_ | refine xa agree rfl rfl ?_ ?_ | refine xb agree rfl rfl rfl ?_ ?_); try (first | exact trivial | (rw [hgd] <;> rfl) | ((repeat' apply And.intro) <;> first | exact trivial | exact rfl | omega | (simp; done) | (simp; omega)))) | refine wn (wr rfl rfl rfl) rfl ?_ | refine wo rfl (wr rfl rfl rfl) rfl ?_ | refine ws rfl rfl ?_ | refine wj rfl ?_ | refine wk rfl ?_ | refine ww rfl rfl rfl ?_)
              · exact ⟨rfl, rfl, by omega, by rw [ints_len, natI_len]; simp⟩
              refine OpsAt.elt rfl rfl rfl rfl rfl ?_ rfl ?_
              · rw [hgd]; rfl
              repeat (first | apply wa | apply wb | apply wc | apply wd | apply we | apply wf | apply wg | apply wh | apply wi | ((first | refine wl rfl rfl ?_ ?_ | refine wn (wp rfl rfl rfl rfl rfl ?_) rfl ?_ | refine wn (wq agree rfl rfl rfl ?_) rfl ?_ | refine wm rfl rfl rfl ?_ ?_ | refine wo rfl (wp rfl rfl rfl rfl rfl ?_) rfl ?_ | refine wo rfl (wq agree rfl rfl rfl ?_) rfl ?_ | refine wt rfl ?_ ?_ | refine wu rfl ?_ ?_ | refine wv rfl rfl ?_ rfl rfl ?_ | refine xa agree rfl rfl ?_ ?_ | refine xb agree rfl rfl rfl ?_ ?_); try (first | exact trivial | (rw [hgd] <;> rfl) | ((repeat' apply And.intro) <;> first | exact trivial | exact rfl | omega | (simp; done) | (simp; omega)))) | refine wn (wr rfl rfl rfl) rfl ?_ | refine wo rfl (wr rfl rfl rfl) rfl ?_ | refine ws rfl rfl ?_ | refine wj rfl ?_ | refine wk rfl ?_ | refine ww rfl rfl rfl ?_)
              first | refine OpsAt.say (d := 15) rfl (y := .own nl 3 1 (ints (natI ((pre ++ [x]).map (pl l) ++ post)))) (by simp [ints, natI, D.set]) ?_ | refine Run.say (d := 15) rfl (y := .own nl 3 1 (ints (natI ((pre ++ [x]).map (pl l) ++ post)))) (by simp [ints, natI, D.set]) ?_ | refine OpsB.say (d := 15) rfl (y := .own nl 3 1 (ints (natI ((pre ++ [x]).map (pl l) ++ post)))) (by simp [ints, natI, D.set]) ?_
              first | refine OpsAt.say (d := 69) rfl (y := .v (.int .i64 ((pre ++ [x]).length : Nat))) (by rw [wrap64_in ((pre.length : Int) + 1) (by omega)]; simp) ?_ | refine Run.say (d := 69) rfl (y := .v (.int .i64 ((pre ++ [x]).length : Nat))) (by rw [wrap64_in ((pre.length : Int) + 1) (by omega)]; simp) ?_ | refine OpsB.say (d := 69) rfl (y := .v (.int .i64 ((pre ++ [x]).length : Nat))) (by rw [wrap64_in ((pre.length : Int) + 1) (by omega)]; simp) ?_
              refine Run.keep [5, 8, 9, 10, 11, 13, 14, 15, 67, 68, 69] rfl ?_
              exact ih (pre ++ [x], post) (by simp [hpp]) (by simp)
          · have h0 : post = [] := by cases post with | nil => rfl | cons x post => simp at hlen hb2; omega
            subst h0
            rw [List.append_nil] at hpp
            subst hpp
            first | refine OpsAt.say (d := 15) rfl (y := .own nl 3 1 (ints (natI (List.map (pl l) xs)))) (by rw [List.append_nil]) ?_ | refine Run.say (d := 15) rfl (y := .own nl 3 1 (ints (natI (List.map (pl l) xs)))) (by rw [List.append_nil]) ?_ | refine OpsB.say (d := 15) rfl (y := .own nl 3 1 (ints (natI (List.map (pl l) xs)))) (by rw [List.append_nil]) ?_
            repeat (first | apply wa | apply wb | apply wc | apply wd | apply we | apply wf | apply wg | apply wh | apply wi | ((first | refine wl rfl rfl ?_ ?_ | refine wn (wp rfl rfl rfl rfl rfl ?_) rfl ?_ | refine wn (wq agree rfl rfl rfl ?_) rfl ?_ | refine wm rfl rfl rfl ?_ ?_ | refine wo rfl (wp rfl rfl rfl rfl rfl ?_) rfl ?_ | refine wo rfl (wq agree rfl rfl rfl ?_) rfl ?_ | refine wt rfl ?_ ?_ | refine wu rfl ?_ ?_ | refine wv rfl rfl ?_ rfl rfl ?_ | refine xa agree rfl rfl ?_ ?_ | refine xb agree rfl rfl rfl ?_ ?_); try (first | exact trivial | (rw [hgd] <;> rfl) | ((repeat' apply And.intro) <;> first | exact trivial | exact rfl | omega | (simp; done) | (simp; omega)))) | refine wn (wr rfl rfl rfl) rfl ?_ | refine wo rfl (wr rfl rfl rfl) rfl ?_ | refine ws rfl rfl ?_ | refine wj rfl ?_ | refine wk rfl ?_ | refine ww rfl rfl rfl ?_)
            refine Run.ops1 (ld := [8]) rfl ?_
            repeat (first | apply wa | apply wb | apply wc | apply wd | apply we | apply wf | apply wg | apply wh | apply wi | ((first | refine wl rfl rfl ?_ ?_ | refine wn (wp rfl rfl rfl rfl rfl ?_) rfl ?_ | refine wn (wq agree rfl rfl rfl ?_) rfl ?_ | refine wm rfl rfl rfl ?_ ?_ | refine wo rfl (wp rfl rfl rfl rfl rfl ?_) rfl ?_ | refine wo rfl (wq agree rfl rfl rfl ?_) rfl ?_ | refine wt rfl ?_ ?_ | refine wu rfl ?_ ?_ | refine wv rfl rfl ?_ rfl rfl ?_ | refine xa agree rfl rfl ?_ ?_ | refine xb agree rfl rfl rfl ?_ ?_); try (first | exact trivial | (rw [hgd] <;> rfl) | ((repeat' apply And.intro) <;> first | exact trivial | exact rfl | omega | (simp; done) | (simp; omega)))) | refine wn (wr rfl rfl rfl) rfl ?_ | refine wo rfl (wr rfl rfl rfl) rfl ?_ | refine ws rfl rfl ?_ | refine wj rfl ?_ | refine wk rfl ?_ | refine ww rfl rfl rfl ?_)
            · exact ⟨ord_fits hl rfl, ord_pl l⟩
            repeat (first | apply wa | apply wb | apply wc | apply wd | apply we | apply wf | apply wg | apply wh | apply wi | ((first | refine wl rfl rfl ?_ ?_ | refine wn (wp rfl rfl rfl rfl rfl ?_) rfl ?_ | refine wn (wq agree rfl rfl rfl ?_) rfl ?_ | refine wm rfl rfl rfl ?_ ?_ | refine wo rfl (wp rfl rfl rfl rfl rfl ?_) rfl ?_ | refine wo rfl (wq agree rfl rfl rfl ?_) rfl ?_ | refine wt rfl ?_ ?_ | refine wu rfl ?_ ?_ | refine wv rfl rfl ?_ rfl rfl ?_ | refine xa agree rfl rfl ?_ ?_ | refine xb agree rfl rfl rfl ?_ ?_); try (first | exact trivial | (rw [hgd] <;> rfl) | ((repeat' apply And.intro) <;> first | exact trivial | exact rfl | omega | (simp; done) | (simp; omega)))) | refine wn (wr rfl rfl rfl) rfl ?_ | refine wo rfl (wr rfl rfl rfl) rfl ?_ | refine ws rfl rfl ?_ | refine wj rfl ?_ | refine wk rfl ?_ | refine ww rfl rfl rfl ?_)
            have hpl3 : ((ord l).get []).pl = true := ord_pl l
            refine wn (wA rfl rfl rfl (by repeat' (first | exact trivial | exact rfl | assumption | apply And.intro)) (callable (by decide)) (c_sortedF l H hp hH)) rfl ?_
            repeat (first | apply wa | apply wb | apply wc | apply wd | apply we | apply wf | apply wg | apply wh | apply wi | ((first | refine wl rfl rfl ?_ ?_ | refine wn (wp rfl rfl rfl rfl rfl ?_) rfl ?_ | refine wn (wq agree rfl rfl rfl ?_) rfl ?_ | refine wm rfl rfl rfl ?_ ?_ | refine wo rfl (wp rfl rfl rfl rfl rfl ?_) rfl ?_ | refine wo rfl (wq agree rfl rfl rfl ?_) rfl ?_ | refine wt rfl ?_ ?_ | refine wu rfl ?_ ?_ | refine wv rfl rfl ?_ rfl rfl ?_ | refine xa agree rfl rfl ?_ ?_ | refine xb agree rfl rfl rfl ?_ ?_); try (first | exact trivial | (rw [hgd] <;> rfl) | ((repeat' apply And.intro) <;> first | exact trivial | exact rfl | omega | (simp; done) | (simp; omega)))) | refine wn (wr rfl rfl rfl) rfl ?_ | refine wo rfl (wr rfl rfl rfl) rfl ?_ | refine ws rfl rfl ?_ | refine wj rfl ?_ | refine wk rfl ?_ | refine ww rfl rfl rfl ?_)
            · exact ⟨ord_fits hl rfl, ord_pl l⟩
            repeat (first | apply wa | apply wb | apply wc | apply wd | apply we | apply wf | apply wg | apply wh | apply wi | ((first | refine wl rfl rfl ?_ ?_ | refine wn (wp rfl rfl rfl rfl rfl ?_) rfl ?_ | refine wn (wq agree rfl rfl rfl ?_) rfl ?_ | refine wm rfl rfl rfl ?_ ?_ | refine wo rfl (wp rfl rfl rfl rfl rfl ?_) rfl ?_ | refine wo rfl (wq agree rfl rfl rfl ?_) rfl ?_ | refine wt rfl ?_ ?_ | refine wu rfl ?_ ?_ | refine wv rfl rfl ?_ rfl rfl ?_ | refine xa agree rfl rfl ?_ ?_ | refine xb agree rfl rfl rfl ?_ ?_); try (first | exact trivial | (rw [hgd] <;> rfl) | ((repeat' apply And.intro) <;> first | exact trivial | exact rfl | omega | (simp; done) | (simp; omega)))) | refine wn (wr rfl rfl rfl) rfl ?_ | refine wo rfl (wr rfl rfl rfl) rfl ?_ | refine ws rfl rfl ?_ | refine wj rfl ?_ | refine wk rfl ?_ | refine ww rfl rfl rfl ?_)
            refine wn (wA rfl rfl rfl (by repeat' (first | exact trivial | exact rfl | assumption | apply And.intro)) (callable (by decide)) (c_sortedF l F hp hF)) rfl ?_
            repeat (first | apply wa | apply wb | apply wc | apply wd | apply we | apply wf | apply wg | apply wh | apply wi | ((first | refine wl rfl rfl ?_ ?_ | refine wn (wp rfl rfl rfl rfl rfl ?_) rfl ?_ | refine wn (wq agree rfl rfl rfl ?_) rfl ?_ | refine wm rfl rfl rfl ?_ ?_ | refine wo rfl (wp rfl rfl rfl rfl rfl ?_) rfl ?_ | refine wo rfl (wq agree rfl rfl rfl ?_) rfl ?_ | refine wt rfl ?_ ?_ | refine wu rfl ?_ ?_ | refine wv rfl rfl ?_ rfl rfl ?_ | refine xa agree rfl rfl ?_ ?_ | refine xb agree rfl rfl rfl ?_ ?_); try (first | exact trivial | (rw [hgd] <;> rfl) | ((repeat' apply And.intro) <;> first | exact trivial | exact rfl | omega | (simp; done) | (simp; omega)))) | refine wn (wr rfl rfl rfl) rfl ?_ | refine wo rfl (wr rfl rfl rfl) rfl ?_ | refine ws rfl rfl ?_ | refine wj rfl ?_ | refine wk rfl ?_ | refine ww rfl rfl rfl ?_)
            have flv : (D.own ([byO l H, byO l F].flatten.length == 0) 3 1 (ints (natI [byO l H, byO l F].flatten))).fl = true := flatvs_ints _
            have hcnt := byO_or (l := l) hap
            rw [← hxs] at hcnt
            refine wn (xc rfl rfl rfl flv (by repeat' (first | exact trivial | exact rfl | assumption | apply And.intro)) (callable (by decide)) (c_Concat [byO l H, byO l F] (by simp) (by simp; omega))) rfl ?_
            have hfl : [byO l H, byO l F].flatten = byO l H ++ byO l F := by simp
            repeat (first | apply wa | apply wb | apply wc | apply wd | apply we | apply wf | apply wg | apply wh | apply wi | ((first | refine wl rfl rfl ?_ ?_ | refine wn (wp rfl rfl rfl rfl rfl ?_) rfl ?_ | refine wn (wq agree rfl rfl rfl ?_) rfl ?_ | refine wm rfl rfl rfl ?_ ?_ | refine wo rfl (wp rfl rfl rfl rfl rfl ?_) rfl ?_ | refine wo rfl (wq agree rfl rfl rfl ?_) rfl ?_ | refine wt rfl ?_ ?_ | refine wu rfl ?_ ?_ | refine wv rfl rfl ?_ rfl rfl ?_ | refine xa agree rfl rfl ?_ ?_ | refine xb agree rfl rfl rfl ?_ ?_); try (first | exact trivial | (rw [hgd] <;> rfl) | ((repeat' apply And.intro) <;> first | exact trivial | exact rfl | omega | (simp; done) | (simp; omega)))) | refine wn (wr rfl rfl rfl) rfl ?_ | refine wo rfl (wr rfl rfl rfl) rfl ?_ | refine ws rfl rfl ?_ | refine wj rfl ?_ | refine wk rfl ?_ | refine ww rfl rfl rfl ?_)
            obtain ⟨ys, hys⟩ : ∃ ys, ys = [byO l H, byO l F].flatten := ⟨_, rfl⟩
            obtain ⟨ps, hps⟩ : ∃ ps, ps = xs.map (pl l) := ⟨_, rfl⟩
            have hyp : ys.length = ps.length := by rw [hys, hps, hfl, List.length_append, List.length_map, hcnt]
            have hy32 : ∀ x ∈ ys, x < 32 := fun x hx => by
              rw [hys, hfl, List.mem_append, hp.byO_mem, hp.byO_mem] at hx
              rcases hx with h | h <;> exact h.1
            have hyl : ys.length ≤ 32 := by rw [hyp, hps, List.length_map]; exact hxl
            have hnew : newO l H F = assign l ys ps := by rw [newO, ← hxs, hys, hps, hfl]
            rw [← hys]
            obtain ⟨nl2, hnl2⟩ : ∃ nl2, nl2 = (ys.length == 0) := ⟨_, rfl⟩
            rw [← hnl2]
            refine Run.keep [5, 8, 9, 10, 11, 15, 18, 89, 90, 91] rfl ?_
            have hly : ((ints (natI ys)).length : Int) = ys.length := by rw [ints_len, natI_len]
            refine Run.at (l' := [(5, .box (ord l)), (8, .box (gr (List.replicate 32 0))), (9, .box (ord (List.replicate 32 0))), (10, .d (.v (.bool false))), (11, .box (gr g2)), (15, .d (.own nl 3 1 (ints (natI ps)))), (18, .d (.own nl2 3 1 (ints (natI ys)))), (89, .view 18 []), (90, .d (.v (.int .i64 ys.length))), (91, .d (.v (.int .i64 (0 : Nat))))]) (by rw [← hly, hps]; rfl) ?_
            refine Run.loopL (α := (List Nat × List Nat) × (List Nat × List Nat)) (fun q => ys = q.1.1 ++ q.1.2 ∧ ps = q.2.1 ++ q.2.2 ∧ q.1.1.length = q.2.1.length) (fun q => [(5, .box (ord (assign l q.1.1 q.2.1))), (8, .box (gr (List.replicate 32 0))), (9, .box (ord (List.replicate 32 0))), (10, .d (.v (.bool false))), (11, .box (gr g2)), (15, .d (.own nl 3 1 (ints (natI ps)))), (18, .d (.own nl2 3 1 (ints (natI ys)))), (89, .view 18 []), (90, .d (.v (.int .i64 ys.length))), (91, .d (.v (.int .i64 q.1.1.length)))]) (fun q => q.1.2.length) (([], ys), ([], ps)) ⟨rfl, rfl, rfl⟩ ?_
            rintro ⟨⟨pre, post⟩, ⟨qre, qost⟩⟩ ⟨hpp, hqq, hpq⟩ ih
            simp only at hpp hqq hpq
            have hlen : ys.length = pre.length + post.length := by rw [hpp]; simp
            have hleq : ps.length = qre.length + qost.length := by rw [hqq]; simp
            have hla : (assign l pre qre).length = 32 := by rw [assign_len, hl]
            refine Run.at (l' := [(5, .box (ord (assign l pre qre))), (8, .box (gr (List.replicate 32 0))), (9, .box (ord (List.replicate 32 0))), (10, .d (.v (.bool false))), (11, .box (gr g2)), (15, .d (.own nl 3 1 (ints (natI ps)))), (18, .d (.own nl2 3 1 (ints (natI ys)))), (89, .view 18 []), (90, .d (.v (.int .i64 ys.length))), (91, .d (.v (.int .i64 pre.length)))]) rfl ?_
            repeat (first | apply wa | apply wb | apply wc | apply wd | apply we | apply wf | apply wg | apply wh | apply wi | ((first | refine wl rfl rfl ?_ ?_ | refine wn (wp rfl rfl rfl rfl rfl ?_) rfl ?_ | refine wn (wq agree rfl rfl rfl ?_) rfl ?_ | refine wm rfl rfl rfl ?_ ?_ | refine wo rfl (wp rfl rfl rfl rfl rfl ?_) rfl ?_ | refine wo rfl (wq agree rfl rfl rfl ?_) rfl ?_ | refine wt rfl ?_ ?_ | refine wu rfl ?_ ?_ | refine wv rfl rfl ?_ rfl rfl ?_ | refine xa agree rfl rfl ?_ ?_ | refine xb agree rfl rfl rfl ?_ ?_); try (first | exact trivial | (rw [hgd] <;> rfl) | ((repeat' apply And.intro) <;> first | exact trivial | exact rfl | omega | (simp; done) | (simp; omega)))) | refine wn (wr rfl rfl rfl) rfl ?_ | refine wo rfl (wr rfl rfl rfl) rfl ?_ | refine ws rfl rfl ?_ | refine wj rfl ?_ | refine wk rfl ?_ | refine ww rfl rfl rfl ?_)
            refine Run.condB rfl rfl (fun hb4 => ?_) (fun hb4 => ?_)
            · cases post with
              | nil => simp at hlen hb4; omega
              | cons x post =>
                cases qost with
                | nil => simp at hlen hleq; omega
                | cons p qost =>
                  have hx := hy32 x (by rw [hpp]; simp)
                  have hgd : (ints (natI ys)).getD ((pre.length : Int)).toNat un = .v (.int .i64 (x : Nat)) := by rw [hpp]; exact ints_pre pre post x
                  have hgp : (ints (natI ps)).getD ((pre.length : Int)).toNat un = .v (.int .i64 (p : Nat)) := by rw [hqq, hpq]; exact ints_pre qre qost p
                  repeat (first | apply wa | apply wb | apply wc | apply wd | apply we | apply wf | apply wg | apply wh | apply wi | ((first | refine wl rfl rfl ?_ ?_ | refine wn (wp rfl rfl rfl rfl rfl ?_) rfl ?_ | refine wn (wq agree rfl rfl rfl ?_) rfl ?_ | refine wm rfl rfl rfl ?_ ?_ | refine wo rfl (wp rfl rfl rfl rfl rfl ?_) rfl ?_ | refine wo rfl (wq agree rfl rfl rfl ?_) rfl ?_ | refine wt rfl ?_ ?_ | refine wu rfl ?_ ?_ | refine wv rfl rfl ?_ rfl rfl ?_ | refine xa agree rfl rfl ?_ ?_ | refine xb agree rfl rfl rfl ?_ ?_); try (first | exact trivial | (rw [hgd] <;> rfl) | ((repeat' apply And.intro) <;> first | exact trivial | exact rfl | omega | (simp; done) | (simp; omega)))) | refine wn (wr rfl rfl rfl) rfl ?_ | refine wo rfl (wr rfl rfl rfl) rfl ?_ | refine ws rfl rfl ?_ | refine wj rfl ?_ | refine wk rfl ?_ | refine ww rfl rfl rfl ?_)
                  · exact ⟨rfl, rfl, by omega, by rw [ints_len, natI_len, hpp]; simp⟩
                  repeat (first | apply wa | apply wb | apply wc | apply wd | apply we | apply wf | apply wg | apply wh | apply wi | ((first | refine wl rfl rfl ?_ ?_ | refine wn (wp rfl rfl rfl rfl rfl ?_) rfl ?_ | refine wn (wq agree rfl rfl rfl ?_) rfl ?_ | refine wm rfl rfl rfl ?_ ?_ | refine wo rfl (wp rfl rfl rfl rfl rfl ?_) rfl ?_ | refine wo rfl (wq agree rfl rfl rfl ?_) rfl ?_ | refine wt rfl ?_ ?_ | refine wu rfl ?_ ?_ | refine wv rfl rfl ?_ rfl rfl ?_ | refine xa agree rfl rfl ?_ ?_ | refine xb agree rfl rfl rfl ?_ ?_); try (first | exact trivial | (rw [hgd] <;> rfl) | ((repeat' apply And.intro) <;> first | exact trivial | exact rfl | omega | (simp; done) | (simp; omega)))) | refine wn (wr rfl rfl rfl) rfl ?_ | refine wo rfl (wr rfl rfl rfl) rfl ?_ | refine ws rfl rfl ?_ | refine wj rfl ?_ | refine wk rfl ?_ | refine ww rfl rfl rfl ?_)
                  first | refine OpsAt.say (d := 95) rfl (y := .v (.int .i64 (x : Nat))) (hgd) ?_ | refine Run.say (d := 95) rfl (y := .v (.int .i64 (x : Nat))) (hgd) ?_ | refine OpsB.say (d := 95) rfl (y := .v (.int .i64 (x : Nat))) (hgd) ?_
                  repeat (first | apply wa | apply wb | apply wc | apply wd | apply we | apply wf | apply wg | apply wh | apply wi | ((first | refine wl rfl rfl ?_ ?_ | refine wn (wp rfl rfl rfl rfl rfl ?_) rfl ?_ | refine wn (wq agree rfl rfl rfl ?_) rfl ?_ | refine wm rfl rfl rfl ?_ ?_ | refine wo rfl (wp rfl rfl rfl rfl rfl ?_) rfl ?_ | refine wo rfl (wq agree rfl rfl rfl ?_) rfl ?_ | refine wt rfl ?_ ?_ | refine wu rfl ?_ ?_ | refine wv rfl rfl ?_ rfl rfl ?_ | refine xa agree rfl rfl ?_ ?_ | refine xb agree rfl rfl rfl ?_ ?_); try (first | exact trivial | (rw [hgd] <;> rfl) | ((repeat' apply And.intro) <;> first | exact trivial | exact rfl | omega | (simp; done) | (simp; omega)))) | refine wn (wr rfl rfl rfl) rfl ?_ | refine wo rfl (wr rfl rfl rfl) rfl ?_ | refine ws rfl rfl ?_ | refine wj rfl ?_ | refine wk rfl ?_ | refine ww rfl rfl rfl ?_)
                  · exact ⟨rfl, rfl, by omega, by rw [ints_len, natI_len, hqq, hpq]; simp⟩
                  refine wl rfl rfl (by rw [hgp]; rfl) ?_
                  first | refine OpsAt.say (d := 100) rfl (y := .v (.int .i64 (p : Nat))) (hgp) ?_ | refine Run.say (d := 100) rfl (y := .v (.int .i64 (p : Nat))) (hgp) ?_ | refine OpsB.say (d := 100) rfl (y := .v (.int .i64 (p : Nat))) (hgp) ?_
                  repeat (first | apply wa | apply wb | apply wc | apply wd | apply we | apply wf | apply wg | apply wh | apply wi | ((first | refine wl rfl rfl ?_ ?_ | refine wn (wp rfl rfl rfl rfl rfl ?_) rfl ?_ | refine wn (wq agree rfl rfl rfl ?_) rfl ?_ | refine wm rfl rfl rfl ?_ ?_ | refine wo rfl (wp rfl rfl rfl rfl rfl ?_) rfl ?_ | refine wo rfl (wq agree rfl rfl rfl ?_) rfl ?_ | refine wt rfl ?_ ?_ | refine wu rfl ?_ ?_ | refine wv rfl rfl ?_ rfl rfl ?_ | refine xa agree rfl rfl ?_ ?_ | refine xb agree rfl rfl rfl ?_ ?_); try (first | exact trivial | (rw [hgd] <;> rfl) | ((repeat' apply And.intro) <;> first | exact trivial | exact rfl | omega | (simp; done) | (simp; omega)))) | refine wn (wr rfl rfl rfl) rfl ?_ | refine wo rfl (wr rfl rfl rfl) rfl ?_ | refine ws rfl rfl ?_ | refine wj rfl ?_ | refine wk rfl ?_ | refine ww rfl rfl rfl ?_)
                  · exact ⟨rfl, rfl, by rw [ints_len, hla], by omega, by omega⟩
                  refine wv rfl rfl rfl (ord_sto (by rw [hla]; exact hx) rfl) rfl ?_
                  repeat (first | apply wa | apply wb | apply wc | apply wd | apply we | apply wf | apply wg | apply wh | apply wi | ((first | refine wl rfl rfl ?_ ?_ | refine wn (wp rfl rfl rfl rfl rfl ?_) rfl ?_ | refine wn (wq agree rfl rfl rfl ?_) rfl ?_ | refine wm rfl rfl rfl ?_ ?_ | refine wo rfl (wp rfl rfl rfl rfl rfl ?_) rfl ?_ | refine wo rfl (wq agree rfl rfl rfl ?_) rfl ?_ | refine wt rfl ?_ ?_ | refine wu rfl ?_ ?_ | refine wv rfl rfl ?_ rfl rfl ?_ | refine xa agree rfl rfl ?_ ?_ | refine xb agree rfl rfl rfl ?_ ?_); try (first | exact trivial | (rw [hgd] <;> rfl) | ((repeat' apply And.intro) <;> first | exact trivial | exact rfl | omega | (simp; done) | (simp; omega)))) | refine wn (wr rfl rfl rfl) rfl ?_ | refine wo rfl (wr rfl rfl rfl) rfl ?_ | refine ws rfl rfl ?_ | refine wj rfl ?_ | refine wk rfl ?_ | refine ww rfl rfl rfl ?_)
                  first | refine OpsAt.sayB (d := 5) rfl (y := ord (assign l (pre ++ [x]) (qre ++ [p]))) ((ord_set (assign l pre qre) x p).trans (by rw [assign_snoc pre qre l x p hpq])) ?_ | refine Run.sayB (d := 5) rfl (y := ord (assign l (pre ++ [x]) (qre ++ [p]))) ((ord_set (assign l pre qre) x p).trans (by rw [assign_snoc pre qre l x p hpq])) ?_
                  first | refine OpsAt.say (d := 91) rfl (y := .v (.int .i64 ((pre ++ [x]).length : Nat))) (by rw [wrap64_in ((pre.length : Int) + 1) (by omega)]; simp) ?_ | refine Run.say (d := 91) rfl (y := .v (.int .i64 ((pre ++ [x]).length : Nat))) (by rw [wrap64_in ((pre.length : Int) + 1) (by omega)]; simp) ?_ | refine OpsB.say (d := 91) rfl (y := .v (.int .i64 ((pre ++ [x]).length : Nat))) (by rw [wrap64_in ((pre.length : Int) + 1) (by omega)]; simp) ?_
                  refine Run.keep [5, 8, 9, 10, 11, 15, 18, 89, 90, 91] rfl ?_
                  exact ih ((pre ++ [x], post), (qre ++ [p], qost)) ⟨by simp [hpp], by simp [hqq], by simp [hpq]⟩ (by simp)
            · have h0 : post = [] := by cases post with | nil => rfl | cons x post => simp at hlen hb4; omega
              subst h0
              have h0 : qost = [] := by cases qost with | nil => rfl | cons x qost => simp at hlen hleq; omega
              subst h0
              rw [List.append_nil] at hpp hqq
              subst hpp hqq
              repeat (first | apply wa | apply wb | apply wc | apply wd | apply we | apply wf | apply wg | apply wh | apply wi | ((first | refine wl rfl rfl ?_ ?_ | refine wn (wp rfl rfl rfl rfl rfl ?_) rfl ?_ | refine wn (wq agree rfl rfl rfl ?_) rfl ?_ | refine wm rfl rfl rfl ?_ ?_ | refine wo rfl (wp rfl rfl rfl rfl rfl ?_) rfl ?_ | refine wo rfl (wq agree rfl rfl rfl ?_) rfl ?_ | refine wt rfl ?_ ?_ | refine wu rfl ?_ ?_ | refine wv rfl rfl ?_ rfl rfl ?_ | refine xa agree rfl rfl ?_ ?_ | refine xb agree rfl rfl rfl ?_ ?_); try (first | exact trivial | (rw [hgd] <;> rfl) | ((repeat' apply And.intro) <;> first | exact trivial | exact rfl | omega | (simp; done) | (simp; omega)))) | refine wn (wr rfl rfl rfl) rfl ?_ | refine wo rfl (wr rfl rfl rfl) rfl ?_ | refine ws rfl rfl ?_ | refine wj rfl ?_ | refine wk rfl ?_ | refine ww rfl rfl rfl ?_)
              refine Run.keep [11, 5, 8, 9, 10] rfl ?_
              refine Run.at (l' := [(11, .box (gr g2)), (5, .box (ord (assign l ys ps))), (8, .box (gr (List.replicate 32 0))), (9, .box (ord (List.replicate 32 0))), (10, .d (.v (.bool false)))]) rfl ?_
              refine Run.opsB agree mixed rfl rfl ?_
              repeat (first | refine ya ?_ | ((first | refine yb rfl rfl ?_ ?_ | refine yd rfl rfl ?_ rfl ?_ | refine yc (wp rfl rfl rfl rfl rfl ?_) rfl ?_); try (first | exact trivial | (rw [hgd] <;> rfl) | (rw [hgd2] <;> rfl) | ((repeat' apply And.intro) <;> first | exact trivial | exact rfl | omega | (simp; done) | (simp; omega)))) | refine yf rfl rfl ?_)
              · exact ⟨gr_fits hg2.1 rfl, gr_pl g2⟩
              repeat (first | refine ya ?_ | ((first | refine yb rfl rfl ?_ ?_ | refine yd rfl rfl ?_ rfl ?_ | refine yc (wp rfl rfl rfl rfl rfl ?_) rfl ?_); try (first | exact trivial | (rw [hgd] <;> rfl) | (rw [hgd2] <;> rfl) | ((repeat' apply And.intro) <;> first | exact trivial | exact rfl | omega | (simp; done) | (simp; omega)))) | refine yf rfl rfl ?_)
              · exact ⟨ord_fits hla rfl, ord_pl (assign l ys ps)⟩
              repeat (first | refine ya ?_ | ((first | refine yb rfl rfl ?_ ?_ | refine yd rfl rfl ?_ rfl ?_ | refine yc (wp rfl rfl rfl rfl rfl ?_) rfl ?_); try (first | exact trivial | (rw [hgd] <;> rfl) | (rw [hgd2] <;> rfl) | ((repeat' apply And.intro) <;> first | exact trivial | exact rfl | omega | (simp; done) | (simp; omega)))) | refine yf rfl rfl ?_)
              refine yd rfl rfl (gr_pl g2) (gr_stoAll (z := List.replicate 32 0) hg2.1 rfl rfl) ?_
              refine yd rfl rfl (ord_pl (assign l ys ps)) (ord_stoAll (z := List.replicate 32 0) hla rfl rfl) ?_
              repeat (first | refine ya ?_ | ((first | refine yb rfl rfl ?_ ?_ | refine yd rfl rfl ?_ rfl ?_ | refine yc (wp rfl rfl rfl rfl rfl ?_) rfl ?_); try (first | exact trivial | (rw [hgd] <;> rfl) | (rw [hgd2] <;> rfl) | ((repeat' apply And.intro) <;> first | exact trivial | exact rfl | omega | (simp; done) | (simp; omega)))) | refine yf rfl rfl ?_)
              refine wD (Ends.tupE agree rfl ⟨⟨gr_fits hg2.1 rfl, gr_pl g2⟩, ⟨ord_fits hla rfl, ord_pl (assign l ys ps)⟩, rfl, trivial⟩ rfl ?_)
              rw [hnew]; rfl

end Go.Proofs.YthiicbpoahilcaaDoor

namespace Go.Proofs.YthiicbpoahilcaaDoor
open Go Go.Dat

def G0 : List Nat := List.replicate 32 0
def G1 : List Nat := [0, 0, 0, 0, 0, 4, 0, 0, 0, 0, 0, 0, 0, 0, 0, 0, 0, 0, 0, 0, 0, 0, 0, 0, 0, 0, 0, 0, 0, 0, 0, 0]
def L1 : List Int := [0, 1, 5, 3, 4, 2, 6, 7, 8, 9, 10, 11, 12, 13, 14, 15, 16, 17, 18, 19, 20, 21, 22, 23, 24, 25, 26, 27, 28, 29, 30, 31]

theorem gok0 : gok G0 := ⟨rfl, fun s hs => by rw [List.eq_of_mem_replicate hs]; decide⟩
theorem gok1 : gok G1 := ⟨rfl, by decide⟩
theorem one_set {nx : Nat → Nat → Bool} {a s : Nat} (hs : s < M64) (h1 : ∀ j, s.testBit j = true ↔ j = a) (h : ∀ k, nx a k = false) : setOf (Comes nx a) = s := by
  refine (setOf_eq hs fun j h64 => ?_).symm
  clear h64
  rw [h1]
  constructor
  · rintro rfl; exact .base
  · intro hc
    induction hc with
    | base => rfl
    | step _ hn ih => rw [ih, h] at hn; cases hn
theorem bit_only {j a : Nat} : (2 ^ a).testBit j = true ↔ j = a := by
  rw [Nat.testBit_two_pow]
  simp only [decide_eq_true_eq]
  exact ⟨fun h => h.symm, fun h => h.symm⟩
theorem edge0 (i k : Nat) : edge G0 i k = false := by
  have : G0.getD i 0 = 0 := by
    unfold G0
    rw [List.getD_eq_getElem?_getD, List.getElem?_replicate]
    split <;> rfl
  unfold edge
  rw [this]
  simp

theorem al1 : insG G0 (upto 32) 5 2 = (G1, L1, true) := by
  have h1 : putG G0 5 2 = (G1, true) := by decide +kernel
  have h2 : sortedN G0 (upto 32) = true := by decide +kernel
  have h3 : ¬ (upto 32).getD (5 : Int).toNat 0 < (upto 32).getD (2 : Int).toNat 0 := by decide +kernel
  have h4 : foreN G0 (upto 32) (5 : Int).toNat (2 : Int).toNat = 4 := one_set (by decide) (fun j => bit_only (a := 2)) fun k => by
    unfold nxF nxf
    simp only [outs_bit, edge0, Bool.false_and]
  have h5 : hindN G0 (upto 32) (5 : Int).toNat (2 : Int).toNat = 32 := one_set (by decide) (fun j => bit_only (a := 5)) fun k => by
    unfold nxH nxf
    simp only [ins_bit, edge0, Bool.false_and]
  have h6 : newO (upto 32) 32 4 = L1 := by decide +kernel
  unfold insG
  rw [h1, h2, if_neg (by decide), if_neg h3, h4, h5, h6]
  rfl
theorem al2 : insG G1 L1 2 5 = (G1, L1, false) := by
  have h1 : (putG G1 2 5).2 = true := by decide +kernel
  have h2 : sortedN G1 L1 = true := by decide +kernel
  have h3 : ¬ L1.getD (2 : Int).toNat 0 < L1.getD (5 : Int).toNat 0 := by decide +kernel
  have h4 : hasN (foreN G1 L1 (2 : Int).toNat (5 : Int).toNat) 2 = true := by
    have : (foreN G1 L1 2 5).testBit 2 = true := setOf_bit.2 ⟨by decide, Comes.base.step (by decide +kernel)⟩
    show (small 2 && (foreN G1 L1 2 5).testBit 2) = true
    rw [this]
    rfl
  unfold insG
  rw [h1, h2, if_neg (by decide), if_neg h3, if_pos h4]

theorem c_alive : DFun Tryd.prog 10 [] (.v (.bool true)) := by
  refine DFun.ofRun agree mixed Tryd.func10 rfl rfl ?_
  repeat (first | apply wa | apply wb | apply wc | apply wd | apply we | apply wf | apply wg | apply wh | apply wi | ((first | refine wl rfl rfl ?_ ?_ | refine wn (wp rfl rfl rfl rfl rfl ?_) rfl ?_ | refine wn (wq agree rfl rfl rfl ?_) rfl ?_ | refine wm rfl rfl rfl ?_ ?_ | refine wo rfl (wp rfl rfl rfl rfl rfl ?_) rfl ?_ | refine wo rfl (wq agree rfl rfl rfl ?_) rfl ?_ | refine wt rfl ?_ ?_ | refine wu rfl ?_ ?_ | refine wv rfl rfl ?_ rfl rfl ?_ | refine xa agree rfl rfl ?_ ?_ | refine xb agree rfl rfl rfl ?_ ?_); try (first | exact trivial | (rw [hgd] <;> rfl) | ((repeat' apply And.intro) <;> first | exact trivial | exact rfl | omega | (simp; done) | (simp; omega)))) | refine wn (wr rfl rfl rfl) rfl ?_ | refine wo rfl (wr rfl rfl rfl) rfl ?_ | refine ws rfl rfl ?_ | refine wj rfl ?_ | refine wk rfl ?_ | refine ww rfl rfl rfl ?_)
  refine wn (Ev.buildZ agree rfl rfl rfl) rfl ?_
  first | refine OpsAt.say (d := 9) rfl (y := gr G0) (rfl) ?_ | refine Run.say (d := 9) rfl (y := gr G0) (rfl) ?_ | refine OpsB.say (d := 9) rfl (y := gr G0) (rfl) ?_
  repeat (first | apply wa | apply wb | apply wc | apply wd | apply we | apply wf | apply wg | apply wh | apply wi | ((first | refine wl rfl rfl ?_ ?_ | refine wn (wp rfl rfl rfl rfl rfl ?_) rfl ?_ | refine wn (wq agree rfl rfl rfl ?_) rfl ?_ | refine wm rfl rfl rfl ?_ ?_ | refine wo rfl (wp rfl rfl rfl rfl rfl ?_) rfl ?_ | refine wo rfl (wq agree rfl rfl rfl ?_) rfl ?_ | refine wt rfl ?_ ?_ | refine wu rfl ?_ ?_ | refine wv rfl rfl ?_ rfl rfl ?_ | refine xa agree rfl rfl ?_ ?_ | refine xb agree rfl rfl rfl ?_ ?_); try (first | exact trivial | (rw [hgd] <;> rfl) | ((repeat' apply And.intro) <;> first | exact trivial | exact rfl | omega | (simp; done) | (simp; omega)))) | refine wn (wr rfl rfl rfl) rfl ?_ | refine wo rfl (wr rfl rfl rfl) rfl ?_ | refine ws rfl rfl ?_ | refine wj rfl ?_ | refine wk rfl ?_ | refine ww rfl rfl rfl ?_)
  refine wn (wA rfl rfl rfl (by repeat' (first | exact trivial | exact rfl | assumption | apply And.intro)) (callable (by decide)) (c_New)) rfl ?_
  repeat (first | apply wa | apply wb | apply wc | apply wd | apply we | apply wf | apply wg | apply wh | apply wi | ((first | refine wl rfl rfl ?_ ?_ | refine wn (wp rfl rfl rfl rfl rfl ?_) rfl ?_ | refine wn (wq agree rfl rfl rfl ?_) rfl ?_ | refine wm rfl rfl rfl ?_ ?_ | refine wo rfl (wp rfl rfl rfl rfl rfl ?_) rfl ?_ | refine wo rfl (wq agree rfl rfl rfl ?_) rfl ?_ | refine wt rfl ?_ ?_ | refine wu rfl ?_ ?_ | refine wv rfl rfl ?_ rfl rfl ?_ | refine xa agree rfl rfl ?_ ?_ | refine xb agree rfl rfl rfl ?_ ?_); try (first | exact trivial | (rw [hgd] <;> rfl) | ((repeat' apply And.intro) <;> first | exact trivial | exact rfl | omega | (simp; done) | (simp; omega)))) | refine wn (wr rfl rfl rfl) rfl ?_ | refine wo rfl (wr rfl rfl rfl) rfl ?_ | refine ws rfl rfl ?_ | refine wj rfl ?_ | refine wk rfl ?_ | refine ww rfl rfl rfl ?_)
  have hp0 : (gr G0).pl = true := gr_pl G0
  have hp1 : (ord (upto 32)).pl = true := ord_pl _
  refine wn (wA rfl rfl rfl (by repeat' (first | exact trivial | exact rfl | assumption | apply And.intro)) (callable (by decide)) (c_Insert G0 (upto 32) 5 2 gok0 (upto_len 32))) rfl ?_
  first | refine OpsAt.say (d := 11) rfl (y := .tup [gr G1, ord L1, .v (.bool true)]) (by rw [al1]) ?_ | refine Run.say (d := 11) rfl (y := .tup [gr G1, ord L1, .v (.bool true)]) (by rw [al1]) ?_ | refine OpsB.say (d := 11) rfl (y := .tup [gr G1, ord L1, .v (.bool true)]) (by rw [al1]) ?_
  repeat (first | apply wa | apply wb | apply wc | apply wd | apply we | apply wf | apply wg | apply wh | apply wi | ((first | refine wl rfl rfl ?_ ?_ | refine wn (wp rfl rfl rfl rfl rfl ?_) rfl ?_ | refine wn (wq agree rfl rfl rfl ?_) rfl ?_ | refine wm rfl rfl rfl ?_ ?_ | refine wo rfl (wp rfl rfl rfl rfl rfl ?_) rfl ?_ | refine wo rfl (wq agree rfl rfl rfl ?_) rfl ?_ | refine wt rfl ?_ ?_ | refine wu rfl ?_ ?_ | refine wv rfl rfl ?_ rfl rfl ?_ | refine xa agree rfl rfl ?_ ?_ | refine xb agree rfl rfl rfl ?_ ?_); try (first | exact trivial | (rw [hgd] <;> rfl) | ((repeat' apply And.intro) <;> first | exact trivial | exact rfl | omega | (simp; done) | (simp; omega)))) | refine wn (wr rfl rfl rfl) rfl ?_ | refine wo rfl (wr rfl rfl rfl) rfl ?_ | refine ws rfl rfl ?_ | refine wj rfl ?_ | refine wk rfl ?_ | refine ww rfl rfl rfl ?_)
  refine wn (wA rfl rfl rfl (by repeat' (first | exact trivial | exact rfl | assumption | apply And.intro)) (callable (by decide)) (c_Insert G1 L1 2 5 gok1 rfl)) rfl ?_
  first | refine OpsAt.say (d := 18) rfl (y := .tup [gr G1, ord L1, .v (.bool false)]) (by rw [al2]) ?_ | refine Run.say (d := 18) rfl (y := .tup [gr G1, ord L1, .v (.bool false)]) (by rw [al2]) ?_ | refine OpsB.say (d := 18) rfl (y := .tup [gr G1, ord L1, .v (.bool false)]) (by rw [al2]) ?_
  repeat (first | apply wa | apply wb | apply wc | apply wd | apply we | apply wf | apply wg | apply wh | apply wi | ((first | refine wl rfl rfl ?_ ?_ | refine wn (wp rfl rfl rfl rfl rfl ?_) rfl ?_ | refine wn (wq agree rfl rfl rfl ?_) rfl ?_ | refine wm rfl rfl rfl ?_ ?_ | refine wo rfl (wp rfl rfl rfl rfl rfl ?_) rfl ?_ | refine wo rfl (wq agree rfl rfl rfl ?_) rfl ?_ | refine wt rfl ?_ ?_ | refine wu rfl ?_ ?_ | refine wv rfl rfl ?_ rfl rfl ?_ | refine xa agree rfl rfl ?_ ?_ | refine xb agree rfl rfl rfl ?_ ?_); try (first | exact trivial | (rw [hgd] <;> rfl) | ((repeat' apply And.intro) <;> first | exact trivial | exact rfl | omega | (simp; done) | (simp; omega)))) | refine wn (wr rfl rfl rfl) rfl ?_ | refine wo rfl (wr rfl rfl rfl) rfl ?_ | refine ws rfl rfl ?_ | refine wj rfl ?_ | refine wk rfl ?_ | refine ww rfl rfl rfl ?_)
  refine wn (wA rfl rfl rfl (by repeat' (first | exact trivial | exact rfl | assumption | apply And.intro)) (callable (by decide)) (c_New)) rfl ?_
  repeat (first | apply wa | apply wb | apply wc | apply wd | apply we | apply wf | apply wg | apply wh | apply wi | ((first | refine wl rfl rfl ?_ ?_ | refine wn (wp rfl rfl rfl rfl rfl ?_) rfl ?_ | refine wn (wq agree rfl rfl rfl ?_) rfl ?_ | refine wm rfl rfl rfl ?_ ?_ | refine wo rfl (wp rfl rfl rfl rfl rfl ?_) rfl ?_ | refine wo rfl (wq agree rfl rfl rfl ?_) rfl ?_ | refine wt rfl ?_ ?_ | refine wu rfl ?_ ?_ | refine wv rfl rfl ?_ rfl rfl ?_ | refine xa agree rfl rfl ?_ ?_ | refine xb agree rfl rfl rfl ?_ ?_); try (first | exact trivial | (rw [hgd] <;> rfl) | ((repeat' apply And.intro) <;> first | exact trivial | exact rfl | omega | (simp; done) | (simp; omega)))) | refine wn (wr rfl rfl rfl) rfl ?_ | refine wo rfl (wr rfl rfl rfl) rfl ?_ | refine ws rfl rfl ?_ | refine wj rfl ?_ | refine wk rfl ?_ | refine ww rfl rfl rfl ?_)
  refine wn (wA rfl rfl rfl (by repeat' (first | exact trivial | exact rfl | assumption | apply And.intro)) (callable (by decide)) (c_Row (upto 32) (upto_len 32) (fun _ => by decide +kernel))) rfl ?_
  first | refine OpsAt.say (d := 23) rfl (y := .lst .any 1 (ints (upto 32))) (by rw [show (if rightO (upto 32) then rowOf (upto 32) 32 else []) = upto 32 by decide +kernel]) ?_ | refine Run.say (d := 23) rfl (y := .lst .any 1 (ints (upto 32))) (by rw [show (if rightO (upto 32) then rowOf (upto 32) 32 else []) = upto 32 by decide +kernel]) ?_ | refine OpsB.say (d := 23) rfl (y := .lst .any 1 (ints (upto 32))) (by rw [show (if rightO (upto 32) then rowOf (upto 32) 32 else []) = upto 32 by decide +kernel]) ?_
  repeat (first | apply wa | apply wb | apply wc | apply wd | apply we | apply wf | apply wg | apply wh | apply wi | ((first | refine wl rfl rfl ?_ ?_ | refine wn (wp rfl rfl rfl rfl rfl ?_) rfl ?_ | refine wn (wq agree rfl rfl rfl ?_) rfl ?_ | refine wm rfl rfl rfl ?_ ?_ | refine wo rfl (wp rfl rfl rfl rfl rfl ?_) rfl ?_ | refine wo rfl (wq agree rfl rfl rfl ?_) rfl ?_ | refine wt rfl ?_ ?_ | refine wu rfl ?_ ?_ | refine wv rfl rfl ?_ rfl rfl ?_ | refine xa agree rfl rfl ?_ ?_ | refine xb agree rfl rfl rfl ?_ ?_); try (first | exact trivial | (rw [hgd] <;> rfl) | ((repeat' apply And.intro) <;> first | exact trivial | exact rfl | omega | (simp; done) | (simp; omega)))) | refine wn (wr rfl rfl rfl) rfl ?_ | refine wo rfl (wr rfl rfl rfl) rfl ?_ | refine ws rfl rfl ?_ | refine wj rfl ?_ | refine wk rfl ?_ | refine ww rfl rfl rfl ?_)
  refine Run.keep [1, 2, 3, 6, 7] rfl ?_
  refine Run.at (l' := [(1, .box (gr G1)), (2, .box (ord L1)), (3, .d (.v (.bool true))), (6, .d (.v (.bool false))), (7, .d (.lst .any 1 (ints (upto 32))))]) rfl ?_
  refine Run.ops1 (ld := []) rfl ?_
  repeat (first | apply wa | apply wb | apply wc | apply wd | apply we | apply wf | apply wg | apply wh | apply wi | ((first | refine wl rfl rfl ?_ ?_ | refine wn (wp rfl rfl rfl rfl rfl ?_) rfl ?_ | refine wn (wq agree rfl rfl rfl ?_) rfl ?_ | refine wm rfl rfl rfl ?_ ?_ | refine wo rfl (wp rfl rfl rfl rfl rfl ?_) rfl ?_ | refine wo rfl (wq agree rfl rfl rfl ?_) rfl ?_ | refine wt rfl ?_ ?_ | refine wu rfl ?_ ?_ | refine wv rfl rfl ?_ rfl rfl ?_ | refine xa agree rfl rfl ?_ ?_ | refine xb agree rfl rfl rfl ?_ ?_); try (first | exact trivial | (rw [hgd] <;> rfl) | ((repeat' apply And.intro) <;> first | exact trivial | exact rfl | omega | (simp; done) | (simp; omega)))) | refine wn (wr rfl rfl rfl) rfl ?_ | refine wo rfl (wr rfl rfl rfl) rfl ?_ | refine ws rfl rfl ?_ | refine wj rfl ?_ | refine wk rfl ?_ | refine ww rfl rfl rfl ?_)
  · exact ⟨trivial, rfl, by decide, by decide⟩
  repeat (first | apply wa | apply wb | apply wc | apply wd | apply we | apply wf | apply wg | apply wh | apply wi | ((first | refine wl rfl rfl ?_ ?_ | refine wn (wp rfl rfl rfl rfl rfl ?_) rfl ?_ | refine wn (wq agree rfl rfl rfl ?_) rfl ?_ | refine wm rfl rfl rfl ?_ ?_ | refine wo rfl (wp rfl rfl rfl rfl rfl ?_) rfl ?_ | refine wo rfl (wq agree rfl rfl rfl ?_) rfl ?_ | refine wt rfl ?_ ?_ | refine wu rfl ?_ ?_ | refine wv rfl rfl ?_ rfl rfl ?_ | refine xa agree rfl rfl ?_ ?_ | refine xb agree rfl rfl rfl ?_ ?_); try (first | exact trivial | (rw [hgd] <;> rfl) | ((repeat' apply And.intro) <;> first | exact trivial | exact rfl | omega | (simp; done) | (simp; omega)))) | refine wn (wr rfl rfl rfl) rfl ?_ | refine wo rfl (wr rfl rfl rfl) rfl ?_ | refine ws rfl rfl ?_ | refine wj rfl ?_ | refine wk rfl ?_ | refine ww rfl rfl rfl ?_)
  have hp2 : (ord L1).pl = true := ord_pl L1
  have hp3 : (gr G1).pl = true := gr_pl G1
  refine wo rfl (wA rfl rfl rfl (by repeat' (first | exact trivial | exact rfl | assumption | apply And.intro)) (callable (by decide)) (c_Right L1 rfl)) rfl ?_
  first | refine OpsAt.say (d := 52) rfl (y := .v (.bool true)) (by rw [show rightO L1 = true by decide +kernel]) ?_ | refine Run.say (d := 52) rfl (y := .v (.bool true)) (by rw [show rightO L1 = true by decide +kernel]) ?_ | refine OpsB.say (d := 52) rfl (y := .v (.bool true)) (by rw [show rightO L1 = true by decide +kernel]) ?_
  repeat (first | apply wa | apply wb | apply wc | apply wd | apply we | apply wf | apply wg | apply wh | apply wi | ((first | refine wl rfl rfl ?_ ?_ | refine wn (wp rfl rfl rfl rfl rfl ?_) rfl ?_ | refine wn (wq agree rfl rfl rfl ?_) rfl ?_ | refine wm rfl rfl rfl ?_ ?_ | refine wo rfl (wp rfl rfl rfl rfl rfl ?_) rfl ?_ | refine wo rfl (wq agree rfl rfl rfl ?_) rfl ?_ | refine wt rfl ?_ ?_ | refine wu rfl ?_ ?_ | refine wv rfl rfl ?_ rfl rfl ?_ | refine xa agree rfl rfl ?_ ?_ | refine xb agree rfl rfl rfl ?_ ?_); try (first | exact trivial | (rw [hgd] <;> rfl) | ((repeat' apply And.intro) <;> first | exact trivial | exact rfl | omega | (simp; done) | (simp; omega)))) | refine wn (wr rfl rfl rfl) rfl ?_ | refine wo rfl (wr rfl rfl rfl) rfl ?_ | refine ws rfl rfl ?_ | refine wj rfl ?_ | refine wk rfl ?_ | refine ww rfl rfl rfl ?_)
  refine wo rfl (wA rfl rfl rfl (by repeat' (first | exact trivial | exact rfl | assumption | apply And.intro)) (callable (by decide)) (c_Sorted G1 L1 gok1 rfl)) rfl ?_
  first | refine OpsAt.say (d := 57) rfl (y := .v (.bool true)) (by rw [show sortedN G1 L1 = true by decide +kernel]) ?_ | refine Run.say (d := 57) rfl (y := .v (.bool true)) (by rw [show sortedN G1 L1 = true by decide +kernel]) ?_ | refine OpsB.say (d := 57) rfl (y := .v (.bool true)) (by rw [show sortedN G1 L1 = true by decide +kernel]) ?_
  repeat (first | apply wa | apply wb | apply wc | apply wd | apply we | apply wf | apply wg | apply wh | apply wi | ((first | refine wl rfl rfl ?_ ?_ | refine wn (wp rfl rfl rfl rfl rfl ?_) rfl ?_ | refine wn (wq agree rfl rfl rfl ?_) rfl ?_ | refine wm rfl rfl rfl ?_ ?_ | refine wo rfl (wp rfl rfl rfl rfl rfl ?_) rfl ?_ | refine wo rfl (wq agree rfl rfl rfl ?_) rfl ?_ | refine wt rfl ?_ ?_ | refine wu rfl ?_ ?_ | refine wv rfl rfl ?_ rfl rfl ?_ | refine xa agree rfl rfl ?_ ?_ | refine xb agree rfl rfl rfl ?_ ?_); try (first | exact trivial | (rw [hgd] <;> rfl) | ((repeat' apply And.intro) <;> first | exact trivial | exact rfl | omega | (simp; done) | (simp; omega)))) | refine wn (wr rfl rfl rfl) rfl ?_ | refine wo rfl (wr rfl rfl rfl) rfl ?_ | refine ws rfl rfl ?_ | refine wj rfl ?_ | refine wk rfl ?_ | refine ww rfl rfl rfl ?_)
  refine wo rfl (wA rfl rfl rfl (by repeat' (first | exact trivial | exact rfl | assumption | apply And.intro)) (callable (by decide)) (c_New)) rfl ?_
  repeat (first | apply wa | apply wb | apply wc | apply wd | apply we | apply wf | apply wg | apply wh | apply wi | ((first | refine wl rfl rfl ?_ ?_ | refine wn (wp rfl rfl rfl rfl rfl ?_) rfl ?_ | refine wn (wq agree rfl rfl rfl ?_) rfl ?_ | refine wm rfl rfl rfl ?_ ?_ | refine wo rfl (wp rfl rfl rfl rfl rfl ?_) rfl ?_ | refine wo rfl (wq agree rfl rfl rfl ?_) rfl ?_ | refine wt rfl ?_ ?_ | refine wu rfl ?_ ?_ | refine wv rfl rfl ?_ rfl rfl ?_ | refine xa agree rfl rfl ?_ ?_ | refine xb agree rfl rfl rfl ?_ ?_); try (first | exact trivial | (rw [hgd] <;> rfl) | ((repeat' apply And.intro) <;> first | exact trivial | exact rfl | omega | (simp; done) | (simp; omega)))) | refine wn (wr rfl rfl rfl) rfl ?_ | refine wo rfl (wr rfl rfl rfl) rfl ?_ | refine ws rfl rfl ?_ | refine wj rfl ?_ | refine wk rfl ?_ | refine ww rfl rfl rfl ?_)
  refine wo rfl (wA rfl rfl rfl (by repeat' (first | exact trivial | exact rfl | assumption | apply And.intro)) (callable (by decide)) (c_Sorted G1 (upto 32) gok1 (upto_len 32))) rfl ?_
  first | refine OpsAt.say (d := 62) rfl (y := .v (.bool false)) (by rw [show sortedN G1 (upto 32) = false by decide +kernel]) ?_ | refine Run.say (d := 62) rfl (y := .v (.bool false)) (by rw [show sortedN G1 (upto 32) = false by decide +kernel]) ?_ | refine OpsB.say (d := 62) rfl (y := .v (.bool false)) (by rw [show sortedN G1 (upto 32) = false by decide +kernel]) ?_
  repeat (first | apply wa | apply wb | apply wc | apply wd | apply we | apply wf | apply wg | apply wh | apply wi | ((first | refine wl rfl rfl ?_ ?_ | refine wn (wp rfl rfl rfl rfl rfl ?_) rfl ?_ | refine wn (wq agree rfl rfl rfl ?_) rfl ?_ | refine wm rfl rfl rfl ?_ ?_ | refine wo rfl (wp rfl rfl rfl rfl rfl ?_) rfl ?_ | refine wo rfl (wq agree rfl rfl rfl ?_) rfl ?_ | refine wt rfl ?_ ?_ | refine wu rfl ?_ ?_ | refine wv rfl rfl ?_ rfl rfl ?_ | refine xa agree rfl rfl ?_ ?_ | refine xb agree rfl rfl rfl ?_ ?_); try (first | exact trivial | (rw [hgd] <;> rfl) | ((repeat' apply And.intro) <;> first | exact trivial | exact rfl | omega | (simp; done) | (simp; omega)))) | refine wn (wr rfl rfl rfl) rfl ?_ | refine wo rfl (wr rfl rfl rfl) rfl ?_ | refine ws rfl rfl ?_ | refine wj rfl ?_ | refine wk rfl ?_ | refine ww rfl rfl rfl ?_)
  refine wo rfl (Ev.buildZ agree rfl rfl rfl) rfl ?_
  first | refine OpsAt.say (d := 66) rfl (y := ord (List.replicate 32 0)) (rfl) ?_ | refine Run.say (d := 66) rfl (y := ord (List.replicate 32 0)) (rfl) ?_ | refine OpsB.say (d := 66) rfl (y := ord (List.replicate 32 0)) (rfl) ?_
  have hp4 : (ord (List.replicate 32 0)).pl = true := ord_pl _
  refine wo rfl (wA rfl rfl rfl (by repeat' (first | exact trivial | exact rfl | assumption | apply And.intro)) (callable (by decide)) (c_Right (List.replicate 32 0) rfl)) rfl ?_
  first | refine OpsAt.say (d := 67) rfl (y := .v (.bool false)) (by rw [show rightO (List.replicate 32 0) = false by decide +kernel]) ?_ | refine Run.say (d := 67) rfl (y := .v (.bool false)) (by rw [show rightO (List.replicate 32 0) = false by decide +kernel]) ?_ | refine OpsB.say (d := 67) rfl (y := .v (.bool false)) (by rw [show rightO (List.replicate 32 0) = false by decide +kernel]) ?_
  repeat (first | apply wa | apply wb | apply wc | apply wd | apply we | apply wf | apply wg | apply wh | apply wi | ((first | refine wl rfl rfl ?_ ?_ | refine wn (wp rfl rfl rfl rfl rfl ?_) rfl ?_ | refine wn (wq agree rfl rfl rfl ?_) rfl ?_ | refine wm rfl rfl rfl ?_ ?_ | refine wo rfl (wp rfl rfl rfl rfl rfl ?_) rfl ?_ | refine wo rfl (wq agree rfl rfl rfl ?_) rfl ?_ | refine wt rfl ?_ ?_ | refine wu rfl ?_ ?_ | refine wv rfl rfl ?_ rfl rfl ?_ | refine xa agree rfl rfl ?_ ?_ | refine xb agree rfl rfl rfl ?_ ?_); try (first | exact trivial | (rw [hgd] <;> rfl) | ((repeat' apply And.intro) <;> first | exact trivial | exact rfl | omega | (simp; done) | (simp; omega)))) | refine wn (wr rfl rfl rfl) rfl ?_ | refine wo rfl (wr rfl rfl rfl) rfl ?_ | refine ws rfl rfl ?_ | refine wj rfl ?_ | refine wk rfl ?_ | refine ww rfl rfl rfl ?_)
  exact wD (wE rfl rfl rfl)
end Go.Proofs.YthiicbpoahilcaaDoor

namespace Go.Proofs.YthiicbpoahilcaaDoor
open Go Go.Dat

def one : List (String × DataW Unit) := [("math/bits.deBruijn64tab", Rows.laid_math_bits_deBruijn64tab)]

theorem one_met (os : Os) (args : Array Value) : laidMetH Tryd.prog one ((World.laidAll Tryd.prog os one).forCall (fun _ _ => 0) ⟨#[], args, []⟩).memory := by
  rw [MakeChecks.laidMetH_plain _ _ _ (by kernel_rfl)]
  exact laidMet_laidAll _ (by kernel_rfl) (by kernel_rfl)

theorem heap_of_var {P : Program} {W : World} {name : String} {g : Nat} {cs : Array Value} (hg : P.globalNamed name = some g) (h : W.var? P name = some cs) : g < W.heap.size := by
  unfold World.var? at h
  rw [hg] at h
  refine Classical.byContradiction fun hn => ?_
  simp [Array.getElem?_eq_none (Nat.le_of_not_lt hn)] at h

theorem one_gives {W : World} (h : laidMetH Tryd.prog one W) : (∀ b, tabs.dom b → b < W.heap.size) ∧ tabs.holds W := by
  rw [MakeChecks.laidMetH_plain _ _ _ (by kernel_rfl)] at h
  have h1 : laidMet Tryd.prog (("math/bits.deBruijn64tab", Lib.tabData .u8 (Lib.deBruijn64tab.map Int.ofNat)) :: one.tail) W := h
  have g64 : Tryd.prog.globalNamed "math/bits.deBruijn64tab" = some 0 := by kernel_rfl
  have e64 := Lib.tabIs_of_head g64 (t := 101) (by kernel_rfl) Tryd.underlying101 Tryd.underlying5 (by kernel_rfl) (by kernel_rfl) h1
  have hlt := heap_of_var g64 e64
  refine ⟨fun b hb => ?_, fun j hj => ?_⟩
  · have : b = 0 := hb
    rw [this]
    exact hlt
  · have := Lib.TabIs.cell e64 g64 j (by simpa using hj)
    rw [this]
    simp [List.getD, hj]
end Go.Proofs.YthiicbpoahilcaaDoor

namespace Go.Proofs.YthiicbpoahilcaaDoor
open Go Go.Dat

theorem pIr : Opens Tryd.prog 3 (fun n : {n : Int // IntKind.i64.min ≤ n ∧ n ≤ IntKind.i64.max} => D.v (.int .i64 n.1)) := Opens.intR Tryd.underlying3
theorem pU8 : Opens Tryd.prog 5 (fun n : {n : Int // IntKind.u8.min ≤ n ∧ n ≤ IntKind.u8.max} => D.v (.int .u8 n.1)) := Opens.intR Tryd.underlying5
theorem pU64 : Opens Tryd.prog 22 (fun n : {n : Int // IntKind.u64.min ≤ n ∧ n ≤ IntKind.u64.max} => D.v (.int .u64 n.1)) := Opens.intR Tryd.underlying22
theorem okU {n : Int} (h : IntKind.u64.min ≤ n ∧ n ≤ IntKind.u64.max) : 0 ≤ n ∧ n < 18446744073709551616 := by
  have h1 : IntKind.u64.min = 0 := by decide
  have h2 : IntKind.u64.max = 18446744073709551615 := by decide
  rw [h1, h2] at h
  omega
/-- An order. -/
def OrdT : Type := {l : List Int // l.length = 32}
theorem pOrd : Opens Tryd.prog 26 (fun l : OrdT => ord l.1) := by
  refine Opens.as (Opens.arr (n := 32) (es := 1) Tryd.underlying26 pIr (by kernel_rfl) (by kernel_rfl)) fun l => ⟨⟨l.1.map (·.1), by simp [l.2]⟩, ?_⟩
  simp [ord, ints]
/-- A graph. -/
def MatT : Type := {g : List Nat // gok g}
theorem pMat : Opens Tryd.prog 24 (fun g : MatT => gr g.1) := by
  refine Opens.as (Opens.arr (n := 32) (es := 1) Tryd.underlying24 pU64 (by kernel_rfl) (by kernel_rfl)) fun l => ?_
  have hg : gok (l.1.map fun x => x.1.toNat) := by
    refine ⟨by rw [List.length_map]; exact l.2, fun s hs => ?_⟩
    obtain ⟨x, _, rfl⟩ := List.mem_map.1 hs
    have := okU x.2
    show x.1.toNat < M64
    simp only [M64]
    omega
  refine ⟨⟨_, hg⟩, ?_⟩
  simp only [gr, sets, List.map_map]
  congr 1
  refine List.map_congr_left fun x _ => ?_
  have := okU x.2
  show D.v (.int .u64 x.1) = D.v (.int .u64 ((x.1.toNat : Nat) : Int))
  rw [Int.toNat_of_nonneg this.1]
end Go.Proofs.YthiicbpoahilcaaDoor
