/- Texts S20, S21, S24, S25, S26, S30, S31, Cut, P1, P2, P3, P4, P5, P6, P7, Lay in one file. No conditions. -/
import Derived.Test.YtaflihoopnjcgaaDoorTB
import Derived.Test.YtaflihoopnjcgaaDoorKC
import Derived.Test.YtaflihoopnjcgaaDoorKD
import Derived.Test.YtaflihoopnjcgaaDoorTA
import Derived.Test.YtaflihoopnjcgaaDoorRows
import Derived.Lay
import Derived.Lib.LaidTab
import Derived.LaidLaws
import Derived.LaidMore
import Derived.LaidHandle
import Derived.RowKit
import Derived.Stop.LaidErr
import Derived.ChangeVars
import Derived.WalkKit
import Derived.ProofKit
import Derived.OpenShut
import Derived.MakeChecks
import Derived.Stop.Joined

namespace Go.Proofs.YtaflihoopnjcgaaDoor
open Go Go.Dat

theorem putG_ok {g : List Nat} (hg : gok g) (a b : Int) : gok (putG g a b).1 := by
  unfold putG
  split
  · exact hg.set _ (withN_lt _ (hg.at _))
  · exact hg
theorem noOwns_g (g : List Nat) (x : Value) : noOwns [gr g, .v x] = true := by
  show ((gr g).pl && true) = true
  rw [gr_pl]
  rfl

theorem ord_stoAll {T : TypeId} {g z : List Int} (h : g.length = 32) (hz : z.length = 32) (hT : ((Θ T).known && (Θ T).td.isAgg && ((Θ T).n == 32)) = true) :
    ((Θ T).fits (ord g) && ((ord g).size == ((ord z).get []).size) && ((ord z).get []).noOwn) = true := by
  rw [ord_fits h hT, show ((ord z).get []).noOwn = true from ord_pl z]
  simp [D.get, ord, D.size, ints_len, h, hz]

theorem gr_lend (g : List Nat) : (gr g).lend = gr g := by simp only [gr, D.lend, sets_lend]
theorem ord_lend (l : List Int) : (ord l).lend = ord l := by simp only [ord, D.lend, ints_lend]

theorem flatvs_ints : ∀ l : List Int, flatvs (ints l) = true
  | [] => rfl
  | _ :: l => flatvs_ints l

theorem c_Insert (g : List Nat) (l : List Int) (a b : Int) (hg : gok g) (hl : l.length = 32) :
    DFun Tryd.prog 64 [gr g, ord l, .v (.int .i64 a), .v (.int .i64 b)] (.tup [gr (insG g l a b).1, ord (insG g l a b).2.1, .v (.bool (insG g l a b).2.2)]) := by
  refine DFun.ofRun agree mixed Tryd.func64 rfl rfl ?_
  repeat (first | refine wa ?_ | refine wc ?_ | ((refine wl rfl rfl ?_ ?_)))
  · exact gr_pl g
  repeat (first | ((refine wl rfl rfl ?_ ?_)))
  · exact ord_pl l
  repeat (first | refine wa ?_ | refine wb ?_ | refine wc ?_ | ((refine wl rfl rfl ?_ ?_); try (first | exact trivial | ((repeat' apply And.intro) <;> first | exact trivial | exact rfl | omega | (simp; done) | (simp; omega)))))
  · exact ⟨gr_fits hg.1 rfl, gr_pl g⟩
  repeat (first | ((refine wl rfl rfl ?_ ?_); try (first | ((repeat' apply And.intro) <;> first | exact trivial | exact rfl | omega | (simp; done) | (simp; omega)))))
  have hpl : ((gr g).get []).pl = true := gr_pl g
  refine wn (wA rfl rfl rfl (by repeat' (first | exact trivial | exact rfl | assumption | apply And.intro)) (callable (by decide)) (c_Put g a b hg)) rfl ?_
  have hg2 := putG_ok hg a b
  obtain ⟨g2, is, hq⟩ : ∃ g2 is, putG g a b = (g2, is) := ⟨_, _, rfl⟩
  rw [hq] at hg2
  simp only [hq]
  repeat (first | ((refine wl rfl rfl ?_ ?_)))
  · exact noOwns_g _ _
  repeat (first | ((refine wl rfl rfl ?_ ?_)))
  · exact gr_pl g2
  first | refine OpsAt.say (d := 26) rfl (y := gr g2) (rfl) ?_ | refine Run.say (d := 26) rfl (y := gr g2) (rfl) ?_ | refine OpsR.say (q := 26) rfl (y := gr g2) (rfl) ?_ | refine OpsB.say (d := 26) rfl (y := gr g2) (rfl) ?_
  repeat (first | ((refine wl rfl rfl ?_ ?_); try (first | ((repeat' apply And.intro) <;> first | exact trivial | exact rfl | omega | (simp; done) | (simp; omega)))))
  refine wv rfl rfl (gr_pl g2) (gr_stoAll (z := List.replicate 32 0) hg2.1 rfl rfl) rfl ?_
  first | refine OpsAt.sayB (d := 11) rfl (y := gr g2) (rfl) ?_ | refine Run.sayB (d := 11) rfl (y := gr g2) (rfl) ?_
  first | refine OpsAt.say (d := 27) rfl (y := .v (.bool is)) (rfl) ?_ | refine Run.say (d := 27) rfl (y := .v (.bool is)) (rfl) ?_ | refine OpsR.say (q := 27) rfl (y := .v (.bool is)) (rfl) ?_ | refine OpsB.say (d := 27) rfl (y := .v (.bool is)) (rfl) ?_
  repeat (first | refine wa ?_ | refine wb ?_ | refine wc ?_ | refine wd ?_ | ((refine wl rfl rfl ?_ ?_); try (first | ((repeat' apply And.intro) <;> first | exact trivial | exact rfl | omega | (simp; done) | (simp; omega)))))
  first | refine OpsAt.say (d := 31) rfl (y := .v (.bool (!is))) (rfl) ?_ | refine Run.say (d := 31) rfl (y := .v (.bool (!is))) (rfl) ?_ | refine OpsR.say (q := 31) rfl (y := .v (.bool (!is))) (rfl) ?_ | refine OpsB.say (d := 31) rfl (y := .v (.bool (!is))) (rfl) ?_
  refine OpsAt.br rfl rfl rfl (fun h0 => ?_) (fun h0 => ?_)
  · have : is = false := by simpa using h0
    subst this
    repeat (first | refine wa ?_ | refine wb ?_ | ((first | refine wl rfl rfl ?_ ?_ | refine wt rfl ?_ ?_); try (first | ((repeat' apply And.intro) <;> first | exact trivial | exact rfl | omega | (simp; done) | (simp; omega)))) | refine ws rfl rfl ?_)
    refine Run.keep [4, 5, 8, 9, 10] rfl ?_
    refine Run.at (l' := [(4, .box (gr g)), (5, .box (ord l)), (8, .box (gr (List.replicate 32 0))), (9, .box (ord (List.replicate 32 0))), (10, .d (.v (.bool false)))]) rfl ?_
    refine Run.opsB agree mixed rfl rfl ?_
    repeat (first | ((refine yb rfl rfl ?_ ?_)))
    · exact ⟨gr_fits hg.1 rfl, gr_pl g⟩
    repeat (first | ((refine yb rfl rfl ?_ ?_)))
    · exact ⟨ord_fits hl rfl, ord_pl l⟩
    skip
    refine yd rfl rfl (gr_pl g) (gr_stoAll (z := List.replicate 32 0) hg.1 rfl rfl) ?_
    refine yd rfl rfl (ord_pl l) (ord_stoAll (z := List.replicate 32 0) hl rfl rfl) ?_
    repeat (first | refine ya ?_ | ((refine yb rfl rfl ?_ ?_); try (first | exact trivial)))
    refine wD (Ends.tupE agree rfl ⟨⟨gr_fits hg.1 rfl, gr_pl g⟩, ⟨ord_fits hl rfl, ord_pl l⟩, rfl, trivial⟩ rfl ?_)
    simp only [insG, hq, Bool.not_false, Bool.true_or, if_true]; rfl
  · have : is = true := by simpa using h0
    subst this
    repeat (first | ((refine wm rfl rfl rfl ?_ ?_)))
    · exact ⟨gr_fits hg.1 rfl, gr_pl g⟩
    repeat (first | ((refine wm rfl rfl rfl ?_ ?_)))
    · exact ⟨ord_fits hl rfl, ord_pl l⟩
    skip
    have hpl2 : ((ord l).get []).pl = true := ord_pl l
    refine wo rfl (wA rfl rfl rfl (by repeat' (first | exact trivial | exact rfl | assumption | apply And.intro)) (callable (by decide)) (c_Sorted g l hg hl)) rfl ?_
    repeat (first | refine wb ?_ | ((first | refine wl rfl rfl ?_ ?_ | refine wm rfl rfl rfl ?_ ?_); try (first | ((repeat' apply And.intro) <;> first | exact trivial | exact rfl | omega | (simp; done) | (simp; omega)))))
    refine Run.condB rfl rfl (fun h1 => ?_) (fun h1 => ?_)
    · have h1' : sortedN g l = false := by simpa using h1
      repeat (first | refine wa ?_)
      refine Run.keep [4, 5, 8, 9, 10] rfl ?_
      refine Run.at (l' := [(4, .box (gr g)), (5, .box (ord l)), (8, .box (gr (List.replicate 32 0))), (9, .box (ord (List.replicate 32 0))), (10, .d (.v (.bool false)))]) rfl ?_
      refine Run.opsB agree mixed rfl rfl ?_
      repeat (first | ((refine yb rfl rfl ?_ ?_)))
      · exact ⟨gr_fits hg.1 rfl, gr_pl g⟩
      repeat (first | ((refine yb rfl rfl ?_ ?_)))
      · exact ⟨ord_fits hl rfl, ord_pl l⟩
      skip
      refine yd rfl rfl (gr_pl g) (gr_stoAll (z := List.replicate 32 0) hg.1 rfl rfl) ?_
      refine yd rfl rfl (ord_pl l) (ord_stoAll (z := List.replicate 32 0) hl rfl rfl) ?_
      repeat (first | refine ya ?_ | ((refine yb rfl rfl ?_ ?_); try (first | exact trivial)))
      refine wD (Ends.tupE agree rfl ⟨⟨gr_fits hg.1 rfl, gr_pl g⟩, ⟨ord_fits hl rfl, ord_pl l⟩, rfl, trivial⟩ rfl ?_)
      simp only [insG, hq, h1', Bool.not_false, Bool.or_true, if_true]; rfl
    · have h1' : sortedN g l = true := by simpa using h1
      obtain ⟨hp, hs⟩ := (sorted_iff hl).1 h1'
      have hab : nodeN a = true ∧ nodeN b = true ∧ a ≠ b := by
        unfold putG at hq
        split at hq
        · next h => simpa [and_assoc] using h
        · cases hq
      obtain ⟨a, rfl, ha⟩ := node_nat hab.1
      obtain ⟨b, rfl, hb⟩ := node_nat hab.2.1
      have g1 : (ord l).get ([] ++ [((a : Int)).toNat]) = .v (.int .i64 (l.getD a 0)) := ord_at (by omega)
      have g2' : (ord l).get ([] ++ [((b : Int)).toNat]) = .v (.int .i64 (l.getD b 0)) := ord_at (by omega)
      refine Run.keep [4, 5, 6, 7, 8, 9, 10, 11] rfl ?_
      refine Run.at (l' := [(4, .box (gr g)), (5, .box (ord l)), (6, .box (.v (.int .i64 (a : Nat)))), (7, .box (.v (.int .i64 (b : Nat)))), (8, .box (gr (List.replicate 32 0))), (9, .box (ord (List.replicate 32 0))), (10, .d (.v (.bool false))), (11, .box (gr g2))]) rfl ?_
      repeat (first | refine wa ?_)
      refine Run.ops1 (ld := []) rfl ?_
      repeat (first | ((refine wl rfl rfl ?_ ?_); try (first | ((repeat' apply And.intro) <;> first | exact trivial | exact rfl | omega | (simp; done) | (simp; omega)))))
      · exact ⟨rfl, rfl, by rw [ints_len, hl], by omega, by omega⟩
      refine wn (Ev.ldBox rfl (adrOf_sound rfl) (ld_ok (T := 3) g1 rfl).1 (ld_ok (T := 3) g1 rfl).2) rfl ?_
      first | refine OpsAt.say (d := 42) rfl (y := .v (.int .i64 (l.getD a 0))) (g1) ?_ | refine Run.say (d := 42) rfl (y := .v (.int .i64 (l.getD a 0))) (g1) ?_ | refine OpsR.say (q := 42) rfl (y := .v (.int .i64 (l.getD a 0))) (g1) ?_ | refine OpsB.say (d := 42) rfl (y := .v (.int .i64 (l.getD a 0))) (g1) ?_
      repeat (first | ((refine wl rfl rfl ?_ ?_); try (first | ((repeat' apply And.intro) <;> first | exact trivial | exact rfl | omega | (simp; done) | (simp; omega)))))
      · exact ⟨rfl, rfl, by rw [ints_len, hl], by omega, by omega⟩
      refine wn (Ev.ldBox rfl (adrOf_sound rfl) (ld_ok (T := 3) g2' rfl).1 (ld_ok (T := 3) g2' rfl).2) rfl ?_
      first | refine OpsAt.say (d := 45) rfl (y := .v (.int .i64 (l.getD b 0))) (g2') ?_ | refine Run.say (d := 45) rfl (y := .v (.int .i64 (l.getD b 0))) (g2') ?_ | refine OpsR.say (q := 45) rfl (y := .v (.int .i64 (l.getD b 0))) (g2') ?_ | refine OpsB.say (d := 45) rfl (y := .v (.int .i64 (l.getD b 0))) (g2') ?_
      repeat (first | refine wb ?_ | ((first | refine wl rfl rfl ?_ ?_ | refine wn (wp rfl rfl rfl rfl rfl ?_) rfl ?_); try (first | ((repeat' apply And.intro) <;> first | exact trivial | exact rfl | omega | (simp; done) | (simp; omega)))))
      refine Run.condB rfl rfl (fun h2 => ?_) (fun h2 => ?_)
      · have h2' : l.getD a 0 < l.getD b 0 := of_decide_eq_true h2
        repeat (first | refine wa ?_)
        refine Run.keep [11, 5, 8, 9, 10] rfl ?_
        refine Run.at (l' := [(11, .box (gr g2)), (5, .box (ord l)), (8, .box (gr (List.replicate 32 0))), (9, .box (ord (List.replicate 32 0))), (10, .d (.v (.bool false)))]) rfl ?_
        refine Run.opsB agree mixed rfl rfl ?_
        repeat (first | ((refine yb rfl rfl ?_ ?_)))
        · exact ⟨gr_fits hg2.1 rfl, gr_pl g2⟩
        repeat (first | ((refine yb rfl rfl ?_ ?_)))
        · exact ⟨ord_fits hl rfl, ord_pl l⟩
        skip
        refine yd rfl rfl (gr_pl g2) (gr_stoAll (z := List.replicate 32 0) hg2.1 rfl rfl) ?_
        refine yd rfl rfl (ord_pl l) (ord_stoAll (z := List.replicate 32 0) hl rfl rfl) ?_
        repeat (first | refine ya ?_ | ((refine yb rfl rfl ?_ ?_); try (first | exact trivial)))
        refine wD (Ends.tupE agree rfl ⟨⟨gr_fits hg2.1 rfl, gr_pl g2⟩, ⟨ord_fits hl rfl, ord_pl l⟩, rfl, trivial⟩ rfl ?_)
        simp only [insG, hq, h1', Bool.not_true, Bool.or_false, Bool.false_eq_true, if_false, Int.toNat_natCast, if_pos h2']; rfl
      · have h2' : ¬ l.getD a 0 < l.getD b 0 := of_decide_eq_false h2
        have hle : pl l b ≤ pl l a := by have e1 := (hp.pl_eq ha).1; have e2 := (hp.pl_eq hb).1; omega
        repeat (first | refine wa ?_ | refine wc ?_ | refine we ?_ | refine wf ?_ | ((first | refine wl rfl rfl ?_ ?_ | refine xa agree rfl rfl ?_ ?_); try (first | ((repeat' apply And.intro) <;> first | exact trivial | exact rfl | omega | (simp; done) | (simp; omega)))))
        refine wn (xc rfl rfl rfl rfl (by repeat' (first | exact trivial | exact rfl | assumption | apply And.intro)) (callable (by decide)) (c_near 74 75 [.pt (gr g).lend] [.pt (ord l).lend, .pt (D.v (.int .i64 (a : Nat))).lend] (fun i => outsN g (i : Int)) (fun k => decide (l.getD k 0 ≤ l.getD a 0)) b hb (outs32 g) (callable (by decide)) (callable (by decide)) (fun i _ => by rw [gr_lend]; exact c_In1 g i hg) (fun k hk => by rw [ord_lend]; exact c_In2 l k a hl hk ha))) rfl ?_
        first | refine OpsAt.say (d := 52) rfl (y := S (foreN g l a b)) (rfl) ?_ | refine Run.say (d := 52) rfl (y := S (foreN g l a b)) (rfl) ?_ | refine OpsR.say (q := 52) rfl (y := S (foreN g l a b)) (rfl) ?_ | refine OpsB.say (d := 52) rfl (y := S (foreN g l a b)) (rfl) ?_
        repeat (first | refine wa ?_ | refine wb ?_ | refine wc ?_ | ((refine wl rfl rfl ?_ ?_); try (first | ((repeat' apply And.intro) <;> first | exact trivial | exact rfl | omega | (simp; done) | (simp; omega)))))
        refine wn (wA rfl rfl rfl (by repeat' (first | exact trivial | exact rfl | assumption | apply And.intro)) (callable (by decide)) (c_Has (foreN g l a b) a (setOf_lt _))) rfl ?_
        repeat (first | refine wb ?_)
        refine Run.condB rfl rfl (fun h3 => ?_) (fun h3 => ?_)
        · repeat (first | refine wa ?_)
          refine Run.keep [4, 5, 8, 9, 10] rfl ?_
          refine Run.at (l' := [(4, .box (gr g)), (5, .box (ord l)), (8, .box (gr (List.replicate 32 0))), (9, .box (ord (List.replicate 32 0))), (10, .d (.v (.bool false)))]) rfl ?_
          refine Run.opsB agree mixed rfl rfl ?_
          repeat (first | ((refine yb rfl rfl ?_ ?_)))
          · exact ⟨gr_fits hg.1 rfl, gr_pl g⟩
          repeat (first | ((refine yb rfl rfl ?_ ?_)))
          · exact ⟨ord_fits hl rfl, ord_pl l⟩
          skip
          refine yd rfl rfl (gr_pl g) (gr_stoAll (z := List.replicate 32 0) hg.1 rfl rfl) ?_
          refine yd rfl rfl (ord_pl l) (ord_stoAll (z := List.replicate 32 0) hl rfl rfl) ?_
          repeat (first | refine ya ?_ | ((refine yb rfl rfl ?_ ?_); try (first | exact trivial)))
          refine wD (Ends.tupE agree rfl ⟨⟨gr_fits hg.1 rfl, gr_pl g⟩, ⟨ord_fits hl rfl, ord_pl l⟩, rfl, trivial⟩ rfl ?_)
          simp only [insG, hq, h1', Bool.not_true, Bool.or_false, Bool.false_eq_true, if_false, Int.toNat_natCast, if_neg h2', h3, if_true]; rfl
        · have hno : ¬ (foreN g l a b).testBit a = true := by
            have : small (a : Int) = true := by simp [small]; omega
            simpa [hasN, this] using h3
          repeat (first | refine wa ?_ | refine wc ?_ | refine wf ?_ | ((first | refine wl rfl rfl ?_ ?_ | refine xa agree rfl rfl ?_ ?_); try (first | ((repeat' apply And.intro) <;> first | exact trivial | exact rfl | omega | (simp; done) | (simp; omega)))))
          refine wn (xc rfl rfl rfl rfl (by repeat' (first | exact trivial | exact rfl | assumption | apply And.intro)) (callable (by decide)) (c_near 76 77 [.pt (gr g).lend] [.pt (ord l).lend, .pt (D.v (.int .i64 (b : Nat))).lend] (fun i => insN g (i : Int)) (fun k => decide (l.getD b 0 ≤ l.getD k 0)) a ha (ins32 g) (callable (by decide)) (callable (by decide)) (fun i _ => by rw [gr_lend]; exact c_In3 g i hg) (fun k hk => by rw [ord_lend]; exact c_In4 l k b hl hk hb))) rfl ?_
          first | refine OpsAt.say (d := 61) rfl (y := S (hindN g l a b)) (rfl) ?_ | refine Run.say (d := 61) rfl (y := S (hindN g l a b)) (rfl) ?_ | refine OpsR.say (q := 61) rfl (y := S (hindN g l a b)) (rfl) ?_ | refine OpsB.say (d := 61) rfl (y := S (hindN g l a b)) (rfl) ?_
          have hF : foreN g l a b < 4294967296 := lt32_of (setOf_lt _) fun k hk => Bool.eq_false_iff.2 fun h => by have := (fore_lt hp hs ha hb hle (setOf_bit.1 h).2).1; omega
          have hH : hindN g l a b < 4294967296 := lt32_of (setOf_lt _) fun k hk => Bool.eq_false_iff.2 fun h => by have := (hind_lt hp hs ha hb hle (setOf_bit.1 h).2).1; omega
          have hres : insG g l (a : Int) (b : Int) = (g2, newO l (hindN g l a b) (foreN g l a b), true) := by
            simp only [insG, hq, h1', Bool.not_true, Bool.or_false, Bool.false_eq_true, if_false, Int.toNat_natCast, if_neg h2', h3]
          have hap := apart hp hs ha hb hle hno
          rw [hres]
          obtain ⟨F, hFe⟩ : ∃ F, F = foreN g l a b := ⟨_, rfl⟩
          obtain ⟨H, hHe⟩ : ∃ H, H = hindN g l a b := ⟨_, rfl⟩
          rw [← hFe] at hF hap
          rw [← hHe] at hH hap
          simp only [← hFe, ← hHe]
          repeat (first | refine wa ?_ | refine wb ?_ | refine wc ?_ | ((refine wl rfl rfl ?_ ?_); try (first | ((repeat' apply And.intro) <;> first | exact trivial | exact rfl | omega | (simp; done) | (simp; omega)))))
          · exact ⟨ord_fits hl rfl, ord_pl l⟩
          repeat (first | ((first | refine wl rfl rfl ?_ ?_ | refine wn (wp rfl rfl rfl rfl rfl ?_) rfl ?_); try (first | ((repeat' apply And.intro) <;> first | exact trivial | exact rfl | omega | (simp; done) | (simp; omega)))))
          have hor : F ||| H < 4294967296 := Nat.or_lt_two_pow (n := 32) hF hH
          first | refine OpsAt.say (d := 65) rfl (y := S (F ||| H)) (congrArg (fun z => D.v (.int .u64 z)) (or64 (Nat.lt_trans hF (by decide)) (Nat.lt_trans hH (by decide)))) ?_ | refine Run.say (d := 65) rfl (y := S (F ||| H)) (congrArg (fun z => D.v (.int .u64 z)) (or64 (Nat.lt_trans hF (by decide)) (Nat.lt_trans hH (by decide)))) ?_ | refine OpsR.say (q := 65) rfl (y := S (F ||| H)) (congrArg (fun z => D.v (.int .u64 z)) (or64 (Nat.lt_trans hF (by decide)) (Nat.lt_trans hH (by decide)))) ?_ | refine OpsB.say (d := 65) rfl (y := S (F ||| H)) (congrArg (fun z => D.v (.int .u64 z)) (or64 (Nat.lt_trans hF (by decide)) (Nat.lt_trans hH (by decide)))) ?_
          refine wn (wA rfl rfl rfl (by repeat' (first | exact trivial | exact rfl | assumption | apply And.intro)) (callable (by decide)) (c_sorted l (F ||| H) hp hor)) rfl ?_
          repeat (first | refine wa ?_ | refine wb ?_ | refine wc ?_ | refine wd ?_ | ((first | refine wl rfl rfl ?_ ?_ | refine xa agree rfl rfl ?_ ?_); try (first | exact trivial)) | refine ww rfl rfl rfl ?_)
          obtain ⟨xs, hxs⟩ : ∃ xs, xs = byO l (F ||| H) := ⟨_, rfl⟩
          have hx32 : ∀ x ∈ xs, x < 32 := fun x hx => by rw [hxs, hp.byO_mem] at hx; exact hx.1
          have hxl : xs.length ≤ 32 := by rw [hxs]; unfold byO; refine Nat.le_trans (List.length_filter_le _ _) ?_; simp
          rw [← hxs]
          obtain ⟨nl, hnl⟩ : ∃ nl, nl = xs.isEmpty := ⟨_, rfl⟩
          rw [← hnl]
          refine Run.keep [5, 8, 9, 10, 11, 13, 14, 15, 67, 68, 69] rfl ?_
          have hlx : ((ints (natI xs)).length : Int) = xs.length := by rw [ints_len, natI_len]
          refine Run.at (l' := [(5, .box (ord l)), (8, .box (gr (List.replicate 32 0))), (9, .box (ord (List.replicate 32 0))), (10, .d (.v (.bool false))), (11, .box (gr g2)), (13, .d (S F)), (14, .d (S H)), (15, .d (.own nl 3 1 (ints (natI xs)))), (67, .view 15 []), (68, .d (.v (.int .i64 xs.length))), (69, .d (.v (.int .i64 (0 : Nat))))]) (by rw [← hlx]; rfl) ?_
          refine Run.loopL (α := List Nat × List Nat) (fun q => xs = q.1 ++ q.2) (fun q => [(5, .box (ord l)), (8, .box (gr (List.replicate 32 0))), (9, .box (ord (List.replicate 32 0))), (10, .d (.v (.bool false))), (11, .box (gr g2)), (13, .d (S F)), (14, .d (S H)), (15, .d (.own nl 3 1 (ints (natI (q.1.map (pl l) ++ q.2))))), (67, .view 15 []), (68, .d (.v (.int .i64 xs.length))), (69, .d (.v (.int .i64 q.1.length)))]) (fun q => q.2.length) ([], xs) rfl ?_
          rintro ⟨pre, post⟩ hpp ih
          simp only at hpp
          have hlen : xs.length = pre.length + post.length := by rw [hpp]; simp
          refine Run.at (l' := [(5, .box (ord l)), (8, .box (gr (List.replicate 32 0))), (9, .box (ord (List.replicate 32 0))), (10, .d (.v (.bool false))), (11, .box (gr g2)), (13, .d (S F)), (14, .d (S H)), (15, .d (.own nl 3 1 (ints (natI (pre.map (pl l) ++ post))))), (67, .view 15 []), (68, .d (.v (.int .i64 xs.length))), (69, .d (.v (.int .i64 pre.length)))]) rfl ?_
          repeat (first | refine wa ?_ | refine wb ?_ | refine wc ?_ | ((refine wn (wp rfl rfl rfl rfl rfl ?_) rfl ?_); try (first | ((repeat' apply And.intro) <;> first | exact trivial | exact rfl | omega | (simp; done) | (simp; omega)))))
          refine Run.condB rfl rfl (fun hb2 => ?_) (fun hb2 => ?_)
          · cases post with
            | nil => simp at hlen hb2; omega
            | cons x post =>
              have hx := hx32 x (by rw [hpp]; simp)
              have hgd : (ints (natI (pre.map (pl l) ++ x :: post))).getD ((pre.length : Int)).toNat un = .v (.int .i64 (x : Nat)) := by
                have := ints_pre (pre.map (pl l)) post x
                rwa [List.length_map] at this
              have gx : (ord l).get ([] ++ [((x : Int)).toNat]) = .v (.int .i64 (pl l x : Nat)) := by rw [← (hp.pl_eq hx).1]; exact ord_at (by omega)
              repeat (first | refine wa ?_ | refine wc ?_ | refine wd ?_ | refine wf ?_ | ((refine wl rfl rfl ?_ ?_); try (first | ((repeat' apply And.intro) <;> first | exact trivial | exact rfl | omega | (simp; done) | (simp; omega)))))
              · exact ⟨rfl, rfl, by omega, by rw [ints_len, natI_len]; simp⟩
              repeat (first | ((refine wl rfl rfl ?_ ?_); try (first | (rw [hgd] <;> rfl) | ((repeat' apply And.intro) <;> first | exact trivial | exact rfl | omega | (simp; done) | (simp; omega)))))
              first | refine OpsAt.say (d := 73) rfl (y := .v (.int .i64 (x : Nat))) (hgd) ?_ | refine Run.say (d := 73) rfl (y := .v (.int .i64 (x : Nat))) (hgd) ?_ | refine OpsR.say (q := 73) rfl (y := .v (.int .i64 (x : Nat))) (hgd) ?_ | refine OpsB.say (d := 73) rfl (y := .v (.int .i64 (x : Nat))) (hgd) ?_
              repeat (first | refine wb ?_ | refine wc ?_ | ((refine wl rfl rfl ?_ ?_); try (first | exact trivial | ((repeat' apply And.intro) <;> first | exact trivial | exact rfl | omega | (simp; done) | (simp; omega)))))
              · exact ⟨rfl, rfl, by rw [ints_len, hl], by omega, by omega⟩
              refine wn (Ev.ldBox rfl (adrOf_sound rfl) (ld_ok (T := 3) gx rfl).1 (ld_ok (T := 3) gx rfl).2) rfl ?_
              first | refine OpsAt.say (d := 78) rfl (y := .v (.int .i64 (pl l x : Nat))) (gx) ?_ | refine Run.say (d := 78) rfl (y := .v (.int .i64 (pl l x : Nat))) (gx) ?_ | refine OpsR.say (q := 78) rfl (y := .v (.int .i64 (pl l x : Nat))) (gx) ?_ | refine OpsB.say (d := 78) rfl (y := .v (.int .i64 (pl l x : Nat))) (gx) ?_
              repeat (first | ((refine wl rfl rfl ?_ ?_)))
              · exact ⟨rfl, rfl, by omega, by rw [ints_len, natI_len]; simp⟩
              refine OpsAt.elt rfl rfl rfl rfl rfl ?_ rfl ?_
              · rw [hgd]; rfl
              repeat (first | refine wb ?_ | refine wc ?_ | refine we ?_ | ((first | refine wl rfl rfl ?_ ?_ | refine wn (wp rfl rfl rfl rfl rfl ?_) rfl ?_); try (first | ((repeat' apply And.intro) <;> first | exact trivial | exact rfl | omega | (simp; done) | (simp; omega)))))
              first | refine OpsAt.say (d := 15) rfl (y := .own nl 3 1 (ints (natI ((pre ++ [x]).map (pl l) ++ post)))) (by simp [ints, natI, D.set]) ?_ | refine Run.say (d := 15) rfl (y := .own nl 3 1 (ints (natI ((pre ++ [x]).map (pl l) ++ post)))) (by simp [ints, natI, D.set]) ?_ | refine OpsR.say (q := 15) rfl (y := .own nl 3 1 (ints (natI ((pre ++ [x]).map (pl l) ++ post)))) (by simp [ints, natI, D.set]) ?_ | refine OpsB.say (d := 15) rfl (y := .own nl 3 1 (ints (natI ((pre ++ [x]).map (pl l) ++ post)))) (by simp [ints, natI, D.set]) ?_
              first | refine OpsAt.say (d := 69) rfl (y := .v (.int .i64 ((pre ++ [x]).length : Nat))) (by rw [wrap64_in ((pre.length : Int) + 1) (by omega)]; simp) ?_ | refine Run.say (d := 69) rfl (y := .v (.int .i64 ((pre ++ [x]).length : Nat))) (by rw [wrap64_in ((pre.length : Int) + 1) (by omega)]; simp) ?_ | refine OpsR.say (q := 69) rfl (y := .v (.int .i64 ((pre ++ [x]).length : Nat))) (by rw [wrap64_in ((pre.length : Int) + 1) (by omega)]; simp) ?_ | refine OpsB.say (d := 69) rfl (y := .v (.int .i64 ((pre ++ [x]).length : Nat))) (by rw [wrap64_in ((pre.length : Int) + 1) (by omega)]; simp) ?_
              refine Run.keep [5, 8, 9, 10, 11, 13, 14, 15, 67, 68, 69] rfl ?_
              exact ih (pre ++ [x], post) (by simp [hpp]) (by simp)
          · have h0 : post = [] := by cases post with | nil => rfl | cons x post => simp at hlen hb2; omega
            subst h0
            rw [List.append_nil] at hpp
            subst hpp
            first | refine OpsAt.say (d := 15) rfl (y := .own nl 3 1 (ints (natI (List.map (pl l) xs)))) (by rw [List.append_nil]) ?_ | refine Run.say (d := 15) rfl (y := .own nl 3 1 (ints (natI (List.map (pl l) xs)))) (by rw [List.append_nil]) ?_ | refine OpsR.say (q := 15) rfl (y := .own nl 3 1 (ints (natI (List.map (pl l) xs)))) (by rw [List.append_nil]) ?_ | refine OpsB.say (d := 15) rfl (y := .own nl 3 1 (ints (natI (List.map (pl l) xs)))) (by rw [List.append_nil]) ?_
            repeat (first | refine wa ?_ | refine wj rfl ?_)
            refine Run.ops1 (ld := [8]) rfl ?_
            repeat (first | ((refine wl rfl rfl ?_ ?_)))
            · exact ⟨ord_fits hl rfl, ord_pl l⟩
            repeat (first | ((refine wl rfl rfl ?_ ?_); try (first | ((repeat' apply And.intro) <;> first | exact trivial | exact rfl | omega | (simp; done) | (simp; omega)))))
            have hpl3 : ((ord l).get []).pl = true := ord_pl l
            refine wn (wA rfl rfl rfl (by repeat' (first | exact trivial | exact rfl | assumption | apply And.intro)) (callable (by decide)) (c_sortedF l H hp hH)) rfl ?_
            repeat (first | ((refine wl rfl rfl ?_ ?_)))
            · exact ⟨ord_fits hl rfl, ord_pl l⟩
            repeat (first | ((refine wl rfl rfl ?_ ?_); try (first | ((repeat' apply And.intro) <;> first | exact trivial | exact rfl | omega | (simp; done) | (simp; omega)))))
            refine wn (wA rfl rfl rfl (by repeat' (first | exact trivial | exact rfl | assumption | apply And.intro)) (callable (by decide)) (c_sortedF l F hp hF)) rfl ?_
            repeat (first | ((refine wl rfl rfl ?_ ?_); try (first | ((repeat' apply And.intro) <;> first | exact trivial | exact rfl | omega | (simp; done) | (simp; omega)))))
            have flv : (D.own ([byO l H, byO l F].flatten.length == 0) 3 1 (ints (natI [byO l H, byO l F].flatten))).fl = true := flatvs_ints _
            have hcnt := byO_or (l := l) hap
            rw [← hxs] at hcnt
            refine wn (xc rfl rfl rfl flv (by repeat' (first | exact trivial | exact rfl | assumption | apply And.intro)) (callable (by decide)) (c_Concat [byO l H, byO l F] (by simp) (by simp; omega))) rfl ?_
            have hfl : [byO l H, byO l F].flatten = byO l H ++ byO l F := by simp
            repeat (first | refine wa ?_ | refine wb ?_ | refine wc ?_ | refine wd ?_ | ((first | refine wl rfl rfl ?_ ?_ | refine xa agree rfl rfl ?_ ?_); try (first | exact trivial)) | refine ww rfl rfl rfl ?_)
            obtain ⟨ys, hys⟩ : ∃ ys, ys = [byO l H, byO l F].flatten := ⟨_, rfl⟩
            obtain ⟨ps, hps⟩ : ∃ ps, ps = xs.map (pl l) := ⟨_, rfl⟩
            have hyp : ys.length = ps.length := by rw [hys, hps, hfl, List.length_append, List.length_map, hcnt]
            have hy32 : ∀ x ∈ ys, x < 32 := fun x hx => by
              rw [hys, hfl, List.mem_append, hp.byO_mem, hp.byO_mem] at hx
              rcases hx with h | h <;> exact h.1
            have hyl : ys.length ≤ 32 := by rw [hyp, hps, List.length_map]; exact hxl
            have hnew : newO l H F = assign l ys ps := by rw [newO, ← hxs, hys, hps, hfl]
            rw [← hys]
            obtain ⟨nl2, hnl2⟩ : ∃ nl2, nl2 = (ys.length == 0) := ⟨_, rfl⟩
            rw [← hnl2]
            refine Run.keep [5, 8, 9, 10, 11, 15, 18, 89, 90, 91] rfl ?_
            have hly : ((ints (natI ys)).length : Int) = ys.length := by rw [ints_len, natI_len]
            refine Run.at (l' := [(5, .box (ord l)), (8, .box (gr (List.replicate 32 0))), (9, .box (ord (List.replicate 32 0))), (10, .d (.v (.bool false))), (11, .box (gr g2)), (15, .d (.own nl 3 1 (ints (natI ps)))), (18, .d (.own nl2 3 1 (ints (natI ys)))), (89, .view 18 []), (90, .d (.v (.int .i64 ys.length))), (91, .d (.v (.int .i64 (0 : Nat))))]) (by rw [← hly, hps]; rfl) ?_
            refine Run.loopL (α := (List Nat × List Nat) × (List Nat × List Nat)) (fun q => ys = q.1.1 ++ q.1.2 ∧ ps = q.2.1 ++ q.2.2 ∧ q.1.1.length = q.2.1.length) (fun q => [(5, .box (ord (assign l q.1.1 q.2.1))), (8, .box (gr (List.replicate 32 0))), (9, .box (ord (List.replicate 32 0))), (10, .d (.v (.bool false))), (11, .box (gr g2)), (15, .d (.own nl 3 1 (ints (natI ps)))), (18, .d (.own nl2 3 1 (ints (natI ys)))), (89, .view 18 []), (90, .d (.v (.int .i64 ys.length))), (91, .d (.v (.int .i64 q.1.1.length)))]) (fun q => q.1.2.length) (([], ys), ([], ps)) ⟨rfl, rfl, rfl⟩ ?_
            rintro ⟨⟨pre, post⟩, ⟨qre, qost⟩⟩ ⟨hpp, hqq, hpq⟩ ih
            simp only at hpp hqq hpq
            have hlen : ys.length = pre.length + post.length := by rw [hpp]; simp
            have hleq : ps.length = qre.length + qost.length := by rw [hqq]; simp
            have hla : (assign l pre qre).length = 32 := by rw [assign_len, hl]
            refine Run.at (l' := [(5, .box (ord (assign l pre qre))), (8, .box (gr (List.replicate 32 0))), (9, .box (ord (List.replicate 32 0))), (10, .d (.v (.bool false))), (11, .box (gr g2)), (15, .d (.own nl 3 1 (ints (natI ps)))), (18, .d (.own nl2 3 1 (ints (natI ys)))), (89, .view 18 []), (90, .d (.v (.int .i64 ys.length))), (91, .d (.v (.int .i64 pre.length)))]) rfl ?_
            repeat (first | refine wa ?_ | refine wb ?_ | refine wc ?_ | ((refine wn (wp rfl rfl rfl rfl rfl ?_) rfl ?_); try (first | ((repeat' apply And.intro) <;> first | exact trivial | exact rfl | omega | (simp; done) | (simp; omega)))))
            refine Run.condB rfl rfl (fun hb4 => ?_) (fun hb4 => ?_)
            · cases post with
              | nil => simp at hlen hb4; omega
              | cons x post =>
                cases qost with
                | nil => simp at hlen hleq; omega
                | cons p qost =>
                  have hx := hy32 x (by rw [hpp]; simp)
                  have hgd : (ints (natI ys)).getD ((pre.length : Int)).toNat un = .v (.int .i64 (x : Nat)) := by rw [hpp]; exact ints_pre pre post x
                  have hgp : (ints (natI ps)).getD ((pre.length : Int)).toNat un = .v (.int .i64 (p : Nat)) := by rw [hqq, hpq]; exact ints_pre qre qost p
                  repeat (first | refine wa ?_ | refine wc ?_ | refine wd ?_ | refine wf ?_ | ((refine wl rfl rfl ?_ ?_); try (first | ((repeat' apply And.intro) <;> first | exact trivial | exact rfl | omega | (simp; done) | (simp; omega)))))
                  · exact ⟨rfl, rfl, by omega, by rw [ints_len, natI_len, hpp]; simp⟩
                  repeat (first | ((refine wl rfl rfl ?_ ?_); try (first | (rw [hgd] <;> rfl) | ((repeat' apply And.intro) <;> first | exact trivial | exact rfl | omega | (simp; done) | (simp; omega)))))
                  first | refine OpsAt.say (d := 95) rfl (y := .v (.int .i64 (x : Nat))) (hgd) ?_ | refine Run.say (d := 95) rfl (y := .v (.int .i64 (x : Nat))) (hgd) ?_ | refine OpsR.say (q := 95) rfl (y := .v (.int .i64 (x : Nat))) (hgd) ?_ | refine OpsB.say (d := 95) rfl (y := .v (.int .i64 (x : Nat))) (hgd) ?_
                  repeat (first | refine wb ?_ | refine wc ?_ | ((refine wl rfl rfl ?_ ?_); try (first | exact trivial | ((repeat' apply And.intro) <;> first | exact trivial | exact rfl | omega | (simp; done) | (simp; omega)))))
                  · exact ⟨rfl, rfl, by omega, by rw [ints_len, natI_len, hqq, hpq]; simp⟩
                  refine wl rfl rfl (by rw [hgp]; rfl) ?_
                  first | refine OpsAt.say (d := 100) rfl (y := .v (.int .i64 (p : Nat))) (hgp) ?_ | refine Run.say (d := 100) rfl (y := .v (.int .i64 (p : Nat))) (hgp) ?_ | refine OpsR.say (q := 100) rfl (y := .v (.int .i64 (p : Nat))) (hgp) ?_ | refine OpsB.say (d := 100) rfl (y := .v (.int .i64 (p : Nat))) (hgp) ?_
                  repeat (first | ((refine wl rfl rfl ?_ ?_)))
                  · exact ⟨rfl, rfl, by rw [ints_len, hla], by omega, by omega⟩
                  refine wv rfl rfl rfl (ord_sto (by rw [hla]; exact hx) rfl) rfl ?_
                  repeat (first | refine wb ?_ | refine wc ?_ | refine we ?_ | ((first | refine wl rfl rfl ?_ ?_ | refine wn (wp rfl rfl rfl rfl rfl ?_) rfl ?_); try (first | ((repeat' apply And.intro) <;> first | exact trivial | exact rfl | omega | (simp; done) | (simp; omega)))))
                  first | refine OpsAt.sayB (d := 5) rfl (y := ord (assign l (pre ++ [x]) (qre ++ [p]))) ((ord_set (assign l pre qre) x p).trans (by rw [assign_snoc pre qre l x p hpq])) ?_ | refine Run.sayB (d := 5) rfl (y := ord (assign l (pre ++ [x]) (qre ++ [p]))) ((ord_set (assign l pre qre) x p).trans (by rw [assign_snoc pre qre l x p hpq])) ?_
                  first | refine OpsAt.say (d := 91) rfl (y := .v (.int .i64 ((pre ++ [x]).length : Nat))) (by rw [wrap64_in ((pre.length : Int) + 1) (by omega)]; simp) ?_ | refine Run.say (d := 91) rfl (y := .v (.int .i64 ((pre ++ [x]).length : Nat))) (by rw [wrap64_in ((pre.length : Int) + 1) (by omega)]; simp) ?_ | refine OpsR.say (q := 91) rfl (y := .v (.int .i64 ((pre ++ [x]).length : Nat))) (by rw [wrap64_in ((pre.length : Int) + 1) (by omega)]; simp) ?_ | refine OpsB.say (d := 91) rfl (y := .v (.int .i64 ((pre ++ [x]).length : Nat))) (by rw [wrap64_in ((pre.length : Int) + 1) (by omega)]; simp) ?_
                  refine Run.keep [5, 8, 9, 10, 11, 15, 18, 89, 90, 91] rfl ?_
                  exact ih ((pre ++ [x], post), (qre ++ [p], qost)) ⟨by simp [hpp], by simp [hqq], by simp [hpq]⟩ (by simp)
            · have h0 : post = [] := by cases post with | nil => rfl | cons x post => simp at hlen hb4; omega
              subst h0
              have h0 : qost = [] := by cases qost with | nil => rfl | cons x qost => simp at hlen hleq; omega
              subst h0
              rw [List.append_nil] at hpp hqq
              subst hpp hqq
              repeat (first | refine wa ?_ | refine wj rfl ?_)
              refine Run.keep [11, 5, 8, 9, 10] rfl ?_
              refine Run.at (l' := [(11, .box (gr g2)), (5, .box (ord (assign l ys ps))), (8, .box (gr (List.replicate 32 0))), (9, .box (ord (List.replicate 32 0))), (10, .d (.v (.bool false)))]) rfl ?_
              refine Run.opsB agree mixed rfl rfl ?_
              repeat (first | ((refine yb rfl rfl ?_ ?_)))
              · exact ⟨gr_fits hg2.1 rfl, gr_pl g2⟩
              repeat (first | ((refine yb rfl rfl ?_ ?_)))
              · exact ⟨ord_fits hla rfl, ord_pl (assign l ys ps)⟩
              skip
              refine yd rfl rfl (gr_pl g2) (gr_stoAll (z := List.replicate 32 0) hg2.1 rfl rfl) ?_
              refine yd rfl rfl (ord_pl (assign l ys ps)) (ord_stoAll (z := List.replicate 32 0) hla rfl rfl) ?_
              repeat (first | refine ya ?_ | ((refine yb rfl rfl ?_ ?_); try (first | exact trivial)))
              refine wD (Ends.tupE agree rfl ⟨⟨gr_fits hg2.1 rfl, gr_pl g2⟩, ⟨ord_fits hla rfl, ord_pl (assign l ys ps)⟩, rfl, trivial⟩ rfl ?_)
              rw [hnew]; rfl

end Go.Proofs.YtaflihoopnjcgaaDoor

namespace Go.Proofs.YtaflihoopnjcgaaDoor
open Go Go.Dat

def G0 : List Nat := List.replicate 32 0
def G1 : List Nat := [0, 0, 0, 0, 0, 4, 0, 0, 0, 0, 0, 0, 0, 0, 0, 0, 0, 0, 0, 0, 0, 0, 0, 0, 0, 0, 0, 0, 0, 0, 0, 0]
def L1 : List Int := [0, 1, 5, 3, 4, 2, 6, 7, 8, 9, 10, 11, 12, 13, 14, 15, 16, 17, 18, 19, 20, 21, 22, 23, 24, 25, 26, 27, 28, 29, 30, 31]

theorem gok0 : gok G0 := ⟨rfl, fun s hs => by rw [List.eq_of_mem_replicate hs]; decide⟩
theorem gok1 : gok G1 := ⟨rfl, by decide⟩
theorem one_set {nx : Nat → Nat → Bool} {a s : Nat} (hs : s < M64) (h1 : ∀ j, s.testBit j = true ↔ j = a) (h : ∀ k, nx a k = false) : setOf (Comes nx a) = s := by
  refine (setOf_eq hs fun j h64 => ?_).symm
  clear h64
  rw [h1]
  constructor
  · rintro rfl; exact .base
  · intro hc
    induction hc with
    | base => rfl
    | step _ hn ih => rw [ih, h] at hn; cases hn
theorem bit_only {j a : Nat} : (2 ^ a).testBit j = true ↔ j = a := by
  rw [Nat.testBit_two_pow]
  simp only [decide_eq_true_eq]
  exact ⟨fun h => h.symm, fun h => h.symm⟩
theorem edge0 (i k : Nat) : edge G0 i k = false := by
  have : G0.getD i 0 = 0 := by
    unfold G0
    rw [List.getD_eq_getElem?_getD, List.getElem?_replicate]
    split <;> rfl
  unfold edge
  rw [this]
  simp

theorem al1 : insG G0 (upto 32) 5 2 = (G1, L1, true) := by
  have h1 : putG G0 5 2 = (G1, true) := by decide +kernel
  have h2 : sortedN G0 (upto 32) = true := by decide +kernel
  have h3 : ¬ (upto 32).getD (5 : Int).toNat 0 < (upto 32).getD (2 : Int).toNat 0 := by decide +kernel
  have h4 : foreN G0 (upto 32) (5 : Int).toNat (2 : Int).toNat = 4 := one_set (by decide) (fun j => bit_only (a := 2)) fun k => by
    unfold nxF nxf
    simp only [outs_bit, edge0, Bool.false_and]
  have h5 : hindN G0 (upto 32) (5 : Int).toNat (2 : Int).toNat = 32 := one_set (by decide) (fun j => bit_only (a := 5)) fun k => by
    unfold nxH nxf
    simp only [ins_bit, edge0, Bool.false_and]
  have h6 : newO (upto 32) 32 4 = L1 := by decide +kernel
  unfold insG
  rw [h1, h2, if_neg (by decide), if_neg h3, h4, h5, h6]
  rfl
theorem al2 : insG G1 L1 2 5 = (G1, L1, false) := by
  have h1 : (putG G1 2 5).2 = true := by decide +kernel
  have h2 : sortedN G1 L1 = true := by decide +kernel
  have h3 : ¬ L1.getD (2 : Int).toNat 0 < L1.getD (5 : Int).toNat 0 := by decide +kernel
  have h4 : hasN (foreN G1 L1 (2 : Int).toNat (5 : Int).toNat) 2 = true := by
    have : (foreN G1 L1 2 5).testBit 2 = true := setOf_bit.2 ⟨by decide, Comes.base.step (by decide +kernel)⟩
    show (small 2 && (foreN G1 L1 2 5).testBit 2) = true
    rw [this]
    rfl
  unfold insG
  rw [h1, h2, if_neg (by decide), if_neg h3, if_pos h4]
end Go.Proofs.YtaflihoopnjcgaaDoor

namespace Go.Proofs.YtaflihoopnjcgaaDoor
open Go Go.Dat

theorem getD_eq {α : Type} {l : List α} {i : Nat} {d : α} (h : i < l.length) : l.getD i d = l[i] := by
  rw [List.getD_eq_getElem?_getD]
  simp [h]

theorem assign_out {x : Nat} : ∀ {is ps : List Nat} {l : List Int}, x ∉ is → (assign l is ps).getD x 0 = l.getD x 0
  | [], _, _, _ => by simp [assign]
  | _ :: _, [], _, _ => by simp [assign]
  | i :: is, p :: ps, l, h => by
    simp only [List.mem_cons, not_or] at h
    simp only [assign]
    rw [assign_out h.2, List.getD_eq_getElem?_getD, List.getD_eq_getElem?_getD, List.getElem?_set_ne (fun e => h.1 e.symm)]
theorem assign_in : ∀ {is ps : List Nat} {l : List Int} {k : Nat}, is.Nodup → is.length = ps.length → (∀ i ∈ is, i < l.length) → k < is.length → (assign l is ps).getD (is.getD k 0) 0 = (ps.getD k 0 : Nat)
  | [], _, _, _, _, _, _, h => by simp at h
  | _ :: _, [], _, _, _, h, _, _ => by cases h
  | i :: is, p :: ps, l, 0, hn, hl, hi, _ => by
    simp only [assign, List.getD_cons_zero]
    rw [assign_out (List.nodup_cons.1 hn).1]
    have := hi i (by simp)
    rw [List.getD_eq_getElem?_getD]
    simp [this]
  | i :: is, p :: ps, l, k + 1, hn, hl, hi, hk => by
    simp only [assign, List.getD_cons_succ]
    exact assign_in (List.nodup_cons.1 hn).2 (by simpa using hl) (fun j hj => by rw [List.length_set]; exact hi j (by simp [hj])) (by simpa using hk)

/-- Where one stands in a row sorted by places: behind all that have less. -/
theorem idx_count {l : List Int} {x : Nat} : ∀ {L : List Nat} {k : Nat}, L.Pairwise (fun a b => pl l a < pl l b) → k < L.length → L.getD k 0 = x → L.countP (fun i => decide (pl l i < pl l x)) = k
  | [], _, _, h, _ => by simp at h
  | a :: L, 0, hp, _, hx => by
    rw [List.getD_cons_zero] at hx
    subst hx
    have h0 : L.countP (fun i => decide (pl l i < pl l a)) = 0 := List.countP_eq_zero.2 fun b hb => by
      have := (List.pairwise_cons.1 hp).1 b hb
      simp; omega
    rw [List.countP_cons, h0]
    simp
  | a :: L, k + 1, hp, hk, hx => by
    rw [List.getD_cons_succ] at hx
    have hk' : k < L.length := by simpa using hk
    have ih := idx_count (List.pairwise_cons.1 hp).2 hk' hx
    have hm : x ∈ L := by rw [← hx]; exact getD_mem hk'
    have := (List.pairwise_cons.1 hp).1 x hm
    rw [List.countP_cons, ih]
    simp [this]

theorem idx_of {L : List Nat} {x : Nat} (h : x ∈ L) : ∃ k, k < L.length ∧ L.getD k 0 = x := by
  obtain ⟨k, hk, e⟩ := List.getElem_of_mem h
  exact ⟨k, hk, by rw [getD_eq hk, e]⟩
theorem count_byO (l : List Int) (s x : Nat) : (byO l s).countP (fun i => decide (pl l i < pl l x)) = ((List.range 32).map (at' l)).countP (fun i => decide (pl l i < pl l x) && s.testBit i) := by
  unfold byO
  rw [List.countP_filter]

structure Moved (l nl : List Int) (H F : Nat) : Prop where
  perm : Perm32 nl
  out : ∀ i, i < 32 → H.testBit i = false → F.testBit i = false → pl nl i = pl l i
  hh : ∀ x y, x < 32 → y < 32 → H.testBit x = true → H.testBit y = true → pl l x < pl l y → pl nl x < pl nl y
  ff : ∀ x y, x < 32 → y < 32 → F.testBit x = true → F.testBit y = true → pl l x < pl l y → pl nl x < pl nl y
  hf : ∀ x y, x < 32 → y < 32 → H.testBit x = true → F.testBit y = true → pl nl x < pl nl y
  down : ∀ x, x < 32 → H.testBit x = true → pl nl x ≤ pl l x
  up : ∀ x, x < 32 → F.testBit x = true → pl l x ≤ pl nl x
  place : ∀ x, x < 32 → (H.testBit x = true ∨ F.testBit x = true) → ∃ z, z < 32 ∧ (H.testBit z = true ∨ F.testBit z = true) ∧ pl nl x = pl l z

theorem moved {l : List Int} (hp : Perm32 l) {H F : Nat} (hd : ∀ j, ¬ (F.testBit j = true ∧ H.testBit j = true)) : Moved l (newO l H F) H F := by
  have hcnt := byO_or (l := l) hd
  obtain ⟨xs, hxs⟩ : ∃ xs, xs = byO l (F ||| H) := ⟨_, rfl⟩
  obtain ⟨ys, hys⟩ : ∃ ys, ys = byO l H ++ byO l F := ⟨_, rfl⟩
  obtain ⟨ps, hps⟩ : ∃ ps, ps = xs.map (pl l) := ⟨_, rfl⟩
  have hnl : newO l H F = assign l ys ps := by rw [newO, ← hxs, hys, hps]
  have hlen : ys.length = ps.length := by rw [hys, hps, List.length_append, List.length_map, hcnt, hxs]
  have hxl : xs.length = ps.length := by rw [hps, List.length_map]
  have hymem : ∀ i, i ∈ ys ↔ i < 32 ∧ (H.testBit i = true ∨ F.testBit i = true) := fun i => by
    rw [hys, List.mem_append, hp.byO_mem, hp.byO_mem]
    constructor
    · rintro (h | h)
      · exact ⟨h.1, .inl h.2⟩
      · exact ⟨h.1, .inr h.2⟩
    · rintro ⟨h, h1 | h1⟩
      · exact .inl ⟨h, h1⟩
      · exact .inr ⟨h, h1⟩
  have hxmem : ∀ i, i ∈ xs ↔ i < 32 ∧ (H.testBit i = true ∨ F.testBit i = true) := fun i => by
    rw [hxs, hp.byO_mem, Nat.testBit_or, Bool.or_eq_true]
    exact ⟨fun h => ⟨h.1, h.2.symm⟩, fun h => ⟨h.1, h.2.symm⟩⟩
  have hnd : ys.Nodup := by
    rw [hys, List.nodup_append]
    refine ⟨pairwise_nodup (hp.byO_sorted H), pairwise_nodup (hp.byO_sorted F), fun a ha b hb => ?_⟩
    rintro rfl
    exact hd a ⟨(hp.byO_mem.1 hb).2, (hp.byO_mem.1 ha).2⟩
  have hin : ∀ k, k < ys.length → (newO l H F).getD (ys.getD k 0) 0 = (ps.getD k 0 : Nat) := fun k hk => by
    rw [hnl]
    exact assign_in hnd hlen (fun i hi => by rw [hp.len]; exact ((hymem i).1 hi).1) hk
  have hout : ∀ x, x ∉ ys → (newO l H F).getD x 0 = l.getD x 0 := fun x hx => by rw [hnl]; exact assign_out hx
  have hnlen : (newO l H F).length = 32 := by rw [hnl, assign_len, hp.len]
  have hpm : ∀ k, k < ps.length → ps.getD k 0 = pl l (xs.getD k 0) := fun k hk => by
    have hk' : k < xs.length := by omega
    rw [getD_eq hk, getD_eq hk']
    simp only [hps, List.getElem_map]
  have hinc : ∀ i j, i < j → j < ps.length → ps.getD i 0 < ps.getD j 0 := fun i j hij hj => by
    have hs := hp.byO_sorted (F ||| H)
    rw [← hxs] at hs
    rw [hpm i (by omega), hpm j hj, getD_eq (by omega : i < xs.length), getD_eq (by omega : j < xs.length)]
    exact (List.pairwise_iff_getElem.1 hs) i j (by omega) (by omega) hij
  have hinc' : ∀ i j, i ≤ j → j < ps.length → ps.getD i 0 ≤ ps.getD j 0 := fun i j hij hj => by
    rcases Nat.lt_or_ge i j with h | h
    · exact Nat.le_of_lt (hinc i j h hj)
    · rw [show i = j by omega]; exact Nat.le_refl _
  have hperm : Perm32 (newO l H F) := by
    refine ⟨hnlen, perm_of_all 32 _ (by omega) fun p hpp => ?_⟩
    obtain ⟨i, hi, e⟩ := hp.surj hpp
    by_cases hm : i ∈ ys
    · obtain ⟨k, hk, e2⟩ := idx_of ((hxmem i).2 ((hymem i).1 hm))
      have h1 := hin k (by omega)
      rw [hpm k (by omega), e2, e] at h1
      rw [← h1]
      have hky : ys.getD k 0 ∈ ys := getD_mem (by omega)
      exact getD_mem (by rw [hnlen]; exact ((hymem _).1 hky).1)
    · have h1 := hout i hm
      rw [(hp.pl_eq hi).1, e] at h1
      rw [← h1]
      exact getD_mem (by rw [hnlen]; exact hi)
  have hpl : ∀ k, k < ys.length → pl (newO l H F) (ys.getD k 0) = ps.getD k 0 := fun k hk => by
    unfold pl
    rw [hin k hk]
    exact Int.toNat_natCast _
  -- where the nodes of H and of F stand
  have hH : ∀ x, x < 32 → H.testBit x = true → ∃ k, k < (byO l H).length ∧ pl (newO l H F) x = ps.getD k 0 ∧ k = (byO l H).countP (fun i => decide (pl l i < pl l x)) := fun x hx hb => by
    obtain ⟨k, hk, e⟩ := idx_of (hp.byO_mem.2 ⟨hx, hb⟩)
    refine ⟨k, hk, ?_, (idx_count (hp.byO_sorted H) hk e).symm⟩
    have hk2 : k < ys.length := by rw [hys, List.length_append]; omega
    have e2 : ys.getD k 0 = x := by
      rw [hys, List.getD_eq_getElem?_getD, List.getElem?_append_left hk, ← List.getD_eq_getElem?_getD, e]
    rw [← hpl k hk2, e2]
  have hF : ∀ x, x < 32 → F.testBit x = true → ∃ k, k < (byO l F).length ∧ pl (newO l H F) x = ps.getD ((byO l H).length + k) 0 ∧ k = (byO l F).countP (fun i => decide (pl l i < pl l x)) := fun x hx hb => by
    obtain ⟨k, hk, e⟩ := idx_of (hp.byO_mem.2 ⟨hx, hb⟩)
    refine ⟨k, hk, ?_, (idx_count (hp.byO_sorted F) hk e).symm⟩
    have hk2 : (byO l H).length + k < ys.length := by rw [hys, List.length_append]; omega
    have e2 : ys.getD ((byO l H).length + k) 0 = x := by
      rw [hys, List.getD_eq_getElem?_getD, List.getElem?_append_right (by omega), Nat.add_sub_cancel_left, ← List.getD_eq_getElem?_getD, e]
    rw [← hpl _ hk2, e2]
  have hX : ∀ x, x < 32 → (H.testBit x = true ∨ F.testBit x = true) → ∃ k, k < ps.length ∧ ps.getD k 0 = pl l x ∧ k = (byO l H).countP (fun i => decide (pl l i < pl l x)) + (byO l F).countP (fun i => decide (pl l i < pl l x)) := fun x hx hb => by
    obtain ⟨k, hk, e⟩ := idx_of ((hxmem x).2 ⟨hx, hb⟩)
    refine ⟨k, by omega, by rw [hpm k (by omega), e], ?_⟩
    have h1 := idx_count (x := x) (by rw [hxs]; exact hp.byO_sorted (F ||| H)) hk e
    have h2 : ys.Perm xs := (List.perm_ext_iff_of_nodup hnd (by rw [hxs]; exact pairwise_nodup (hp.byO_sorted _))).2 fun i => by rw [hymem, hxmem]
    rw [← h1, ← h2.countP_eq, hys, List.countP_append]
  have hyl : ys.length = (byO l H).length + (byO l F).length := by rw [hys, List.length_append]
  have hmono : ∀ (s x y : Nat), pl l x < pl l y → s.testBit x = true → x < 32 → (byO l s).countP (fun i => decide (pl l i < pl l x)) < (byO l s).countP (fun i => decide (pl l i < pl l y)) := fun s x y hxy hs hx => by
    obtain ⟨k, hk, e⟩ := idx_of (hp.byO_mem.2 ⟨hx, hs⟩)
    have h1 := idx_count (hp.byO_sorted s) hk e
    have hall : ∀ (L : List Nat), L.countP (fun i => decide (pl l i < pl l x)) + (if x ∈ L then 1 else 0) ≤ L.countP (fun i => decide (pl l i < pl l y)) := by
      intro L
      induction L with
      | nil => simp
      | cons a L ih =>
        rw [List.countP_cons, List.countP_cons]
        by_cases ha : x = a
        · subst ha
          simp only [List.mem_cons, true_or, if_true, Nat.lt_irrefl, decide_false, Bool.false_eq_true, if_false, hxy, decide_true]
          have : L.countP (fun i => decide (pl l i < pl l x)) ≤ L.countP (fun i => decide (pl l i < pl l y)) := List.countP_mono_left fun i _ h => by simp at h ⊢; omega
          omega
        · have h2 : (if x ∈ a :: L then 1 else 0) = (if x ∈ L then 1 else 0) := by simp [ha]
          rw [h2]
          have h3 : (if decide (pl l a < pl l x) = true then 1 else 0) ≤ (if decide (pl l a < pl l y) = true then 1 else 0) := by
            by_cases h : pl l a < pl l x
            · have : pl l a < pl l y := by omega
              simp [h, this]
            · simp [h]
          omega
    have := hall (byO l s)
    rw [if_pos (hp.byO_mem.2 ⟨hx, hs⟩)] at this
    omega
  refine ⟨hperm, fun i hi h1 h2 => ?_, fun x y hx hy h1 h2 hlt => ?_, fun x y hx hy h1 h2 hlt => ?_, fun x y hx hy h1 h2 => ?_, fun x hx h1 => ?_, fun x hx h1 => ?_, fun x hx h1 => ?_⟩
  · have := hout i (fun h => by have := ((hymem i).1 h).2; rw [h1, h2] at this; simp at this)
    unfold pl
    rw [this]
  · obtain ⟨k, g1, g2, g3⟩ := hH x hx h1
    obtain ⟨k', g1', g2', g3'⟩ := hH y hy h2
    rw [g2, g2']
    have := hmono H x y hlt h1 hx
    exact hinc _ _ (by omega) (by omega)
  · obtain ⟨k, g1, g2, g3⟩ := hF x hx h1
    obtain ⟨k', g1', g2', g3'⟩ := hF y hy h2
    rw [g2, g2']
    have := hmono F x y hlt h1 hx
    exact hinc _ _ (by omega) (by omega)
  · obtain ⟨k, g1, g2, g3⟩ := hH x hx h1
    obtain ⟨k', g1', g2', g3'⟩ := hF y hy h2
    rw [g2, g2']
    exact hinc _ _ (by omega) (by omega)
  · obtain ⟨k, g1, g2, g3⟩ := hH x hx h1
    obtain ⟨m, q1, q2, q3⟩ := hX x hx (.inl h1)
    rw [g2, ← q2]
    exact hinc' _ _ (by omega) q1
  · obtain ⟨k, g1, g2, g3⟩ := hF x hx h1
    obtain ⟨m, q1, q2, q3⟩ := hX x hx (.inr h1)
    rw [g2, ← q2]
    have : (byO l H).countP (fun i => decide (pl l i < pl l x)) ≤ (byO l H).length := List.countP_le_length
    exact hinc' _ _ (by omega) (by omega)
  · obtain ⟨k, hk, e⟩ := idx_of ((hymem x).2 ⟨hx, h1⟩)
    have h2 := hpl k hk
    rw [e, hpm k (by omega)] at h2
    have hm : xs.getD k 0 ∈ xs := getD_mem (by omega)
    obtain ⟨q1, q2⟩ := (hxmem _).1 hm
    exact ⟨_, q1, q2, h2⟩
end Go.Proofs.YtaflihoopnjcgaaDoor

namespace Go.Proofs.YtaflihoopnjcgaaDoor
open Go Go.Dat

theorem putG_true {g : List Nat} {a b : Int} (h : (putG g a b).2 = true) : ∃ A B : Nat, a = A ∧ b = B ∧ A < 32 ∧ B < 32 ∧ A ≠ B ∧ putG g a b = (g.set A (withN (g.getD A 0) (B : Int)), true) := by
  unfold putG at h ⊢
  split at h
  · next hc =>
    simp only [Bool.and_eq_true, bne_iff_ne, ne_eq] at hc
    obtain ⟨A, rfl, hA⟩ := node_nat hc.1.1
    obtain ⟨B, rfl, hB⟩ := node_nat hc.1.2
    refine ⟨A, B, rfl, rfl, hA, hB, fun e => hc.2 (by rw [e]), ?_⟩
    rw [if_pos (by simp only [Bool.and_eq_true, bne_iff_ne, ne_eq]; exact hc), Int.toNat_natCast]
  · cases h
theorem put_edge {g : List Nat} (hg : g.length = 32) {A B : Nat} (hA : A < 32) (hB : B < 32) (i k : Nat) : edge (g.set A (withN (g.getD A 0) (B : Int))) i k = true ↔ edge g i k = true ∨ (i = A ∧ k = B) := by
  unfold edge
  by_cases hi : i = A
  · subst hi
    have : (g.set i (withN (g.getD i 0) (B : Int))).getD i 0 = withN (g.getD i 0) (B : Int) := by
      rw [List.getD_eq_getElem?_getD]
      simp [hg, hA]
    rw [this, with_bit (by omega)]
    simp only [Bool.and_eq_true, Bool.or_eq_true, decide_eq_true_eq, true_and]
    constructor
    · rintro ⟨h, h1 | h1⟩
      · exact .inl ⟨h, h1⟩
      · exact .inr h1.symm
    · rintro (⟨h, h1⟩ | rfl)
      · exact ⟨h, .inl h1⟩
      · exact ⟨⟨hA, hB⟩, .inr rfl⟩
  · have : (g.set A (withN (g.getD A 0) (B : Int))).getD i 0 = g.getD i 0 := by
      rw [List.getD_eq_getElem?_getD, List.getElem?_set_ne (fun e => hi e.symm), ← List.getD_eq_getElem?_getD]
    rw [this]
    simp [hi]

/-- What comes of an edge. -/
inductive InsR (g : List Nat) (l : List Int) (a b : Int) : Prop
  | no : insG g l a b = (g, l, false) → ((putG g a b).2 = false ∨ sortedN g l = false) → InsR g l a b
  | up (A B : Nat) : a = A → b = B → A < 32 → B < 32 → A ≠ B → sortedN g l = true → pl l A < pl l B → insG g l a b = (g.set A (withN (g.getD A 0) (B : Int)), l, true) → (putG g a b) = (g.set A (withN (g.getD A 0) (B : Int)), true) → InsR g l a b
  | round (A B : Nat) : a = A → b = B → A < 32 → B < 32 → A ≠ B → sortedN g l = true → pl l B < pl l A → Comes (nxF g l A) B A → insG g l a b = (g, l, false) → (putG g a b) = (g.set A (withN (g.getD A 0) (B : Int)), true) → InsR g l a b
  | down (A B : Nat) : a = A → b = B → A < 32 → B < 32 → A ≠ B → sortedN g l = true → pl l B < pl l A → (foreN g l A B).testBit A = false → insG g l a b = (g.set A (withN (g.getD A 0) (B : Int)), newO l (hindN g l A B) (foreN g l A B), true) → (putG g a b) = (g.set A (withN (g.getD A 0) (B : Int)), true) → InsR g l a b

theorem insR (g : List Nat) (l : List Int) (a b : Int) (hl : l.length = 32) : InsR g l a b := by
  cases h1 : (putG g a b).2 with
  | false => exact .no (by unfold insG; rw [h1]; rfl) (.inl h1)
  | true =>
    cases h2 : sortedN g l with
    | false => exact .no (by unfold insG; rw [h1, h2]; rfl) (.inr h2)
    | true =>
      obtain ⟨A, B, rfl, rfl, hA, hB, hne, hq⟩ := putG_true h1
      have hp := ((sorted_iff hl).1 h2).1
      have e1 := (hp.pl_eq hA).1
      have e2 := (hp.pl_eq hB).1
      have hne2 : pl l A ≠ pl l B := fun e => hne (hp.inj hA hB e)
      by_cases h3 : l.getD A 0 < l.getD B 0
      · refine .up A B rfl rfl hA hB hne h2 (by omega) ?_ hq
        unfold insG
        rw [hq, h2]
        simp only [Bool.not_true, Bool.or_false, Bool.false_eq_true, if_false, Int.toNat_natCast, if_pos h3]
      · have hs : small (A : Int) = true := by simp [small]; omega
        cases h4 : (foreN g l A B).testBit A with
        | true =>
          refine .round A B rfl rfl hA hB hne h2 (by omega) (setOf_bit.1 h4).2 ?_ hq
          unfold insG
          rw [hq, h2]
          simp only [Bool.not_true, Bool.or_false, Bool.false_eq_true, if_false, Int.toNat_natCast, if_neg h3, hasN, hs, h4, Bool.true_and, if_true]
        | false =>
          refine .down A B rfl rfl hA hB hne h2 (by omega) h4 ?_ hq
          unfold insG
          rw [hq, h2]
          simp only [Bool.not_true, Bool.or_false, Bool.false_eq_true, if_false, Int.toNat_natCast, if_neg h3, hasN, hs, h4, Bool.true_and]

/-- Behind an edge that goes down. -/
structure Down (g : List Nat) (l : List Int) (A B : Nat) : Prop where
  moved : Moved l (newO l (hindN g l A B) (foreN g l A B)) (hindN g l A B) (foreN g l A B)
  inF : ∀ x, (foreN g l A B).testBit x = true → x < 32 ∧ pl l B ≤ pl l x ∧ pl l x ≤ pl l A
  inH : ∀ x, (hindN g l A B).testBit x = true → x < 32 ∧ pl l B ≤ pl l x ∧ pl l x ≤ pl l A
  apart : ∀ x, ¬ ((foreN g l A B).testBit x = true ∧ (hindN g l A B).testBit x = true)
  cloF : ∀ x y, (foreN g l A B).testBit x = true → edge g x y = true → pl l y ≤ pl l A → (foreN g l A B).testBit y = true
  cloH : ∀ x y, (hindN g l A B).testBit y = true → edge g x y = true → pl l B ≤ pl l x → (hindN g l A B).testBit x = true
  endA : (hindN g l A B).testBit A = true
  endB : (foreN g l A B).testBit B = true

theorem downs {g : List Nat} {l : List Int} {A B : Nat} (hl : l.length = 32) (hA : A < 32) (hB : B < 32) (hs : sortedN g l = true) (hlt : pl l B < pl l A) (hno : (foreN g l A B).testBit A = false) : Down g l A B := by
  obtain ⟨hp, he⟩ := (sorted_iff hl).1 hs
  have hap := apart hp he hA hB (Nat.le_of_lt hlt) (by rw [hno]; simp)
  have hF : ∀ x, (foreN g l A B).testBit x = true → x < 32 ∧ pl l B ≤ pl l x ∧ pl l x ≤ pl l A := fun x h => fore_lt hp he hA hB (Nat.le_of_lt hlt) (setOf_bit.1 h).2
  have hH : ∀ x, (hindN g l A B).testBit x = true → x < 32 ∧ pl l B ≤ pl l x ∧ pl l x ≤ pl l A := fun x h => hind_lt hp he hA hB (Nat.le_of_lt hlt) (setOf_bit.1 h).2
  refine ⟨moved hp hap, hF, hH, hap, fun x y h h1 h2 => ?_, fun x y h h1 h2 => ?_, setOf_bit.2 ⟨by omega, .base⟩, setOf_bit.2 ⟨by omega, .base⟩⟩
  · have hy : y < 32 := by simp only [edge, Bool.and_eq_true, decide_eq_true_eq] at h1; exact h1.1.2
    exact setOf_bit.2 ⟨by omega, (setOf_bit.1 h).2.step ((nxF_iff hp hA).2 ⟨h1, h2⟩)⟩
  · have hx : x < 32 := by simp only [edge, Bool.and_eq_true, decide_eq_true_eq] at h1; exact h1.1.1
    exact setOf_bit.2 ⟨by omega, (setOf_bit.1 h).2.step ((nxH_iff hp hB).2 ⟨h1, h2⟩)⟩

theorem down_sorted {g : List Nat} {l : List Int} {A B : Nat} (hg : g.length = 32) (hl : l.length = 32) (hA : A < 32) (hB : B < 32) (hs : sortedN g l = true) (d : Down g l A B) :
    sortedN (g.set A (withN (g.getD A 0) (B : Int))) (newO l (hindN g l A B) (foreN g l A B)) = true := by
  obtain ⟨hp, he⟩ := (sorted_iff hl).1 hs
  obtain ⟨M, hF, hH, hap, cF, cH, eA, eB⟩ := d
  generalize hindN g l A B = H at *
  generalize foreN g l A B = F at *
  refine (sorted_iff M.perm.len).2 ⟨M.perm, fun x y h => ?_⟩
  rcases (put_edge hg hA hB x y).1 h with h | ⟨rfl, rfl⟩
  · have hxy : x < 32 ∧ y < 32 := by simp only [edge, Bool.and_eq_true, decide_eq_true_eq] at h; exact h.1
    have hlt := he x y h
    cases hx : H.testBit x with
    | true =>
      cases hy : H.testBit y with
      | true => exact M.hh x y hxy.1 hxy.2 hx hy hlt
      | false =>
        cases hy2 : F.testBit y with
        | true => exact M.hf x y hxy.1 hxy.2 hx hy2
        | false =>
          rw [M.out y hxy.2 hy hy2]
          have := M.down x hxy.1 hx
          omega
    | false =>
      cases hx2 : F.testBit x with
      | true =>
        cases hy : H.testBit y with
        | true => exact absurd ⟨cF x y hx2 h (hH y hy).2.2, hy⟩ (hap y)
        | false =>
          cases hy2 : F.testBit y with
          | true => exact M.ff x y hxy.1 hxy.2 hx2 hy2 hlt
          | false =>
            rw [M.out y hxy.2 hy hy2]
            obtain ⟨z, hz, hz2, e⟩ := M.place x hxy.1 (.inr hx2)
            have h1 : pl l z ≤ pl l A := by
              rcases hz2 with h | h
              · exact (hH z h).2.2
              · exact (hF z h).2.2
            have h2 : ¬ pl l y ≤ pl l A := fun hc => by rw [cF x y hx2 h hc] at hy2; cases hy2
            omega
      | false =>
        rw [M.out x hxy.1 hx hx2]
        cases hy : H.testBit y with
        | true =>
          obtain ⟨z, hz, hz2, e⟩ := M.place y hxy.2 (.inl hy)
          have h1 : pl l B ≤ pl l z := by
            rcases hz2 with h | h
            · exact (hH z h).2.1
            · exact (hF z h).2.1
          have h2 : ¬ pl l B ≤ pl l x := fun hc => by rw [cH x y hy h hc] at hx; cases hx
          omega
        | false =>
          cases hy2 : F.testBit y with
          | true =>
            have := M.up y hxy.2 hy2
            omega
          | false =>
            rw [M.out y hxy.2 hy hy2]
            exact hlt
  · exact M.hf x y hA hB eA eB

/-- A graph with its order. -/
structure Fit (g : List Nat) (l : List Int) : Prop where
  gk : gok g
  ln : l.length = 32
  so : sortedN g l = true
theorem ins_fit {g : List Nat} {l : List Int} (h : Fit g l) (a b : Int) : Fit (insG g l a b).1 (insG g l a b).2.1 := by
  rcases insR g l a b h.ln with ⟨e, _⟩ | ⟨A, B, _, _, hA, hB, hne, hs, hlt, e, _⟩ | ⟨A, B, _, _, hA, hB, hne, hs, hlt, hc, e, _⟩ | ⟨A, B, _, _, hA, hB, hne, hs, hlt, hc, e, _⟩
  · rw [e]; exact h
  · rw [e]
    refine ⟨h.gk.set _ (withN_lt _ (h.gk.at _)), h.ln, ?_⟩
    obtain ⟨hp, he⟩ := (sorted_iff h.ln).1 hs
    refine (sorted_iff h.ln).2 ⟨hp, fun x y hxy => ?_⟩
    rcases (put_edge h.gk.1 hA hB x y).1 hxy with h1 | ⟨rfl, rfl⟩
    · exact he x y h1
    · exact hlt
  · rw [e]; exact h
  · rw [e]
    have d := downs h.ln hA hB hs hlt hc
    exact ⟨h.gk.set _ (withN_lt _ (h.gk.at _)), d.moved.perm.len, down_sorted h.gk.1 h.ln hA hB hs d⟩
theorem ins_edges {g : List Nat} {l : List Int} (h : Fit g l) (a b : Int) {i k : Nat} (he : edge g i k = true) : edge (insG g l a b).1 i k = true := by
  rcases insR g l a b h.ln with ⟨e, _⟩ | ⟨A, B, _, _, hA, hB, hne, hs, hlt, e, _⟩ | ⟨A, B, _, _, hA, hB, hne, hs, hlt, hc, e, _⟩ | ⟨A, B, _, _, hA, hB, hne, hs, hlt, hc, e, _⟩
  · rw [e]; exact he
  · rw [e]; exact (put_edge h.gk.1 hA hB i k).2 (.inl he)
  · rw [e]; exact he
  · rw [e]; exact (put_edge h.gk.1 hA hB i k).2 (.inl he)
theorem fit0 : Fit G0 (upto 32) := ⟨gok0, upto_len 32, by decide +kernel⟩
end Go.Proofs.YtaflihoopnjcgaaDoor

namespace Go.Proofs.YtaflihoopnjcgaaDoor
open Go Go.Dat

theorem all_eq {α : Type} [DecidableEq α] {a b : List α} {n : Nat} {z : α} (ha : a.length = n) (hb : b.length = n) : (List.range n).all (fun i => decide (a.getD i z = b.getD i z)) = decide (a = b) := by
  rw [Bool.eq_iff_iff, List.all_eq_true, decide_eq_true_eq]
  constructor
  · intro h
    apply List.ext_getElem (by omega)
    intro i h1 h2
    have := h i (List.mem_range.2 (by omega))
    rw [decide_eq_true_eq, getD_eq h1, getD_eq h2] at this
    exact this
  · rintro rfl i _
    simp
theorem eqOrd {T : TypeId} {x y : Operand} {a b : List Int} (ha : a.length = 32) (hb : b.length = 32) (hT : (Θ T).td = .ar 32 3 1) (hg : Tryd.prog.eqGuardType Tryd.prog.depth T = false) : BinD Tryd.prog .eql T x y (ord a) (ord b) (.v (.bool (decide (a = b)))) := by
  have h : EqT Tryd.prog (9999 + 1) T (.arr 1 (ints a)) (.arr 1 (ints b)) ((List.range 32).all fun i => decide (a.getD i 0 = b.getD i 0)) :=
    EqT.arr agree hT (by rw [ints_len, ha]) (by rw [ints_len, hb]) (fun i hi => by
      have e1 : (ints a).getD i un = .v (.int .i64 (a.getD i 0)) := by simp [ints, ha, hi]
      have e2 : (ints b).getD i un = .v (.int .i64 (b.getD i 0)) := by simp [ints, hb, hi]
      rw [e1, e2]
      exact ⟨rfl, rfl⟩) (fun i hi => by
      have e1 : (ints a).getD i un = .v (.int .i64 (a.getD i 0)) := by simp [ints, ha, hi]
      have e2 : (ints b).getD i un = .v (.int .i64 (b.getD i 0)) := by simp [ints, hb, hi]
      rw [e1, e2]
      have := EqT.int (P := Tryd.prog) (d := 9998) (T := 3) (k := .i64) (k0 := .i64) (x := a.getD i 0) (y := b.getD i 0) Tryd.underlying3
      by_cases e : a.getD i 0 = b.getD i 0
      · rw [decide_eq_true e]; rwa [show (a.getD i 0 == b.getD i 0) = true by simpa using e] at this
      · rw [decide_eq_false e]; rwa [show (a.getD i 0 == b.getD i 0) = false by simpa using e] at this)
  rw [all_eq ha hb] at h
  exact BinD.eqAr hg h
theorem eqGr {T : TypeId} {e : TypeId} {x y : Operand} {a b : List Nat} (ha : a.length = 32) (hb : b.length = 32) (hT : (Θ T).td = .ar 32 e 1) (he : Tryd.prog.underlying e = some (.int .u64)) (hf : ∀ n : Nat, (Θ e).fits (S n) = true) (hg : Tryd.prog.eqGuardType Tryd.prog.depth T = false) : BinD Tryd.prog .eql T x y (gr a) (gr b) (.v (.bool (decide (a = b)))) := by
  have h : EqT Tryd.prog (9999 + 1) T (.arr 1 (sets a)) (.arr 1 (sets b)) ((List.range 32).all fun i => decide (a.getD i 0 = b.getD i 0)) :=
    EqT.arr agree hT (by rw [sets_len, ha]) (by rw [sets_len, hb]) (fun i hi => by
      have e1 : (sets a).getD i un = S (a.getD i 0) := by simp [sets, ha, hi]
      have e2 : (sets b).getD i un = S (b.getD i 0) := by simp [sets, hb, hi]
      rw [e1, e2]
      exact ⟨hf _, hf _⟩) (fun i hi => by
      have e1 : (sets a).getD i un = S (a.getD i 0) := by simp [sets, ha, hi]
      have e2 : (sets b).getD i un = S (b.getD i 0) := by simp [sets, hb, hi]
      rw [e1, e2]
      have := EqT.int (P := Tryd.prog) (d := 9998) (T := e) (k := .u64) (k0 := .u64) (x := (a.getD i 0 : Nat)) (y := (b.getD i 0 : Nat)) he
      by_cases e : a.getD i 0 = b.getD i 0
      · rw [decide_eq_true e]
        rwa [show (((a.getD i 0 : Nat) : Int) == ((b.getD i 0 : Nat) : Int)) = true by rw [e]; simp] at this
      · rw [decide_eq_false e]
        rwa [show (((a.getD i 0 : Nat) : Int) == ((b.getD i 0 : Nat) : Int)) = false by simp only [beq_eq_false_iff_ne, ne_eq]; omega] at this)
  rw [all_eq ha hb] at h
  exact BinD.eqAr hg h

theorem noOwns_gl (g : List Nat) (l : List Int) (x : Value) : noOwns [gr g, ord l, .v x] = true := by
  show ((gr g).pl && ((ord l).pl && true)) = true
  rw [gr_pl, ord_pl]
  rfl

/-- An edge. -/
def ed (q : Int × Int) : D := .st [.v (.int .i64 q.1), .v (.int .i64 q.2)]
def eds (l : List (Int × Int)) : List D := l.map ed
theorem eds_len (l : List (Int × Int)) : (eds l).length = l.length := by simp [eds]
theorem eds_pre (pre post : List (Int × Int)) (x : Int × Int) : (eds (pre ++ x :: post)).getD ((pre.length : Int)).toNat un = ed x := by simp [eds]
/-- Edges come, one behind the other. -/
noncomputable def growN (es : List (Int × Int)) : List Nat × List Int := es.foldl (fun q e => ((insG q.1 q.2 e.1 e.2).1, (insG q.1 q.2 e.1 e.2).2.1)) (G0, upto 32)
theorem grow_snoc (es : List (Int × Int)) (e : Int × Int) : growN (es ++ [e]) = ((insG (growN es).1 (growN es).2 e.1 e.2).1, (insG (growN es).1 (growN es).2 e.1 e.2).2.1) := by
  unfold growN
  rw [List.foldl_append]
  rfl
theorem grow_fit (es : List (Int × Int)) : Fit (growN es).1 (growN es).2 := by
  have : ∀ n (l : List (Int × Int)), l.length = n → Fit (growN l).1 (growN l).2 := by
    intro n
    induction n with
    | zero => intro l hl; rw [List.eq_nil_of_length_eq_zero hl]; exact fit0
    | succ n ih =>
      intro l hl
      have hne : l ≠ [] := by rintro rfl; simp at hl
      rw [(List.dropLast_concat_getLast hne).symm, grow_snoc]
      exact ins_fit (ih l.dropLast (by simp [hl])) _ _
  exact this _ es rfl
end Go.Proofs.YtaflihoopnjcgaaDoor

namespace Go.Proofs.YtaflihoopnjcgaaDoor
open Go Go.Dat

/-- What comes of a by one step or more. -/
def Comes1 (nx : Nat → Nat → Bool) (a j : Nat) : Prop := ∃ i, Comes nx a i ∧ nx i j = true

structure SI (nxt : Nat → Nat) (a had new : Nat) : Prop where
  lt : had < M64
  lt2 : new < M64
  sound : ∀ j, had.testBit j = true → j < 32 ∧ Comes1 (nxf nxt fun _ => true) a j
  sound2 : ∀ j, new.testBit j = true → j < 32 ∧ Comes1 (nxf nxt fun _ => true) a j
  apart : ∀ j, new.testBit j = true → had.testBit j = false
  first : ∀ k, (nxt a).testBit k = true → had.testBit k = true ∨ new.testBit k = true
  clo : ∀ i, had.testBit i = true → ∀ k, (nxt i).testBit k = true → had.testBit k = true ∨ new.testBit k = true

theorem nxt_true {nxt : Nat → Nat} {i k : Nat} : nxf nxt (fun _ => true) i k = (nxt i).testBit k := by simp [nxf]
theorem comes_one {nx : Nat → Nat → Bool} {a j : Nat} (h : Comes1 nx a j) : Comes nx a j := by
  obtain ⟨i, h1, h2⟩ := h
  exact h1.step h2
theorem SI.start {nxt : Nat → Nat} {a : Nat} (hn : ∀ i, nxt i < 4294967296) : SI nxt a 0 (nxt a) := by
  refine ⟨by decide, Nat.lt_trans (hn a) (by decide), fun j hj => by simp at hj, fun j hj => ⟨?_, a, Comes.base, by rw [nxt_true]; exact hj⟩, fun j _ => by simp, fun k hk => .inr hk, fun i hi => by simp at hi⟩
  rcases Nat.lt_or_ge j 32 with h | h
  · exact h
  · rw [hi_bit32 (hn a) h] at hj
    cases hj
theorem SI.next {nxt : Nat → Nat} {a had new i : Nat} (hn : ∀ i, nxt i < 4294967296) (h : SI nxt a had new) (hi : new.testBit i = true) : SI nxt a (withN had (i : Int)) (andn (new ||| nxt i) (withN had (i : Int))) := by
  have hi32 := (h.sound2 i hi).1
  have hw : ∀ j, (withN had (i : Int)).testBit j = true ↔ had.testBit j = true ∨ i = j := fun j => by rw [with_bit (by omega)]; simp
  have hor : new ||| nxt i < M64 := or_lt h.lt2 (Nat.lt_trans (hn i) (by decide))
  have ha : ∀ j, (andn (new ||| nxt i) (withN had (i : Int))).testBit j = true ↔ (new.testBit j = true ∨ (nxt i).testBit j = true) ∧ (withN had (i : Int)).testBit j = false := fun j => by
    rw [andn_bit hor, Nat.testBit_or]; simp
  refine ⟨withN_lt _ h.lt, andn_lt _ _, fun j hj => ?_, fun j hj => ?_, fun j hj => ((ha j).1 hj).2, fun k hk => ?_, fun j hj k hk => ?_⟩
  · rcases (hw j).1 hj with h1 | rfl
    · exact h.sound j h1
    · exact h.sound2 i hi
  · rcases ((ha j).1 hj).1 with h1 | h1
    · exact h.sound2 j h1
    · refine ⟨?_, i, comes_one (h.sound2 i hi).2, by rw [nxt_true]; exact h1⟩
      rcases Nat.lt_or_ge j 32 with h2 | h2
      · exact h2
      · rw [hi_bit32 (hn i) h2] at h1; cases h1
  · cases hb : (withN had (i : Int)).testBit k with
    | true => exact .inl rfl
    | false =>
      rcases h.first k hk with h1 | h1
      · rw [(hw k).2 (.inl h1)] at hb; cases hb
      · exact .inr ((ha k).2 ⟨.inl h1, hb⟩)
  · cases hb : (withN had (i : Int)).testBit k with
    | true => exact .inl rfl
    | false =>
      rcases (hw j).1 hj with h0 | rfl
      · rcases h.clo j h0 k hk with h1 | h1
        · rw [(hw k).2 (.inl h1)] at hb; cases hb
        · exact .inr ((ha k).2 ⟨.inl h1, hb⟩)
      · exact .inr ((ha k).2 ⟨.inr hk, hb⟩)
theorem SI.done {nxt : Nat → Nat} {a had : Nat} (h : SI nxt a had 0) : had = setOf (Comes1 (nxf nxt fun _ => true) a) := by
  have hc : ∀ j, Comes (nxf nxt fun _ => true) a j → j = a ∨ had.testBit j = true := fun j hj => by
    induction hj with
    | base => exact .inl rfl
    | step _ hn ih =>
      rw [nxt_true] at hn
      rcases ih with rfl | ih
      · rcases h.first _ hn with h1 | h1
        · exact .inr h1
        · simp at h1
      · rcases h.clo _ ih _ hn with h1 | h1
        · exact .inr h1
        · simp at h1
  refine setOf_eq h.lt fun j _ => ⟨fun hj => (h.sound j hj).2, ?_⟩
  rintro ⟨i, h1, h2⟩
  rw [nxt_true] at h2
  rcases hc i h1 with rfl | h3
  · rcases h.first _ h2 with h4 | h4
    · exact h4
    · simp at h4
  · rcases h.clo _ h3 _ h2 with h4 | h4
    · exact h4
    · simp at h4

theorem c_spread (f : FuncId) (cs : List D) (nxt : Nat → Nat) (a : Nat) (ha : a < 32) (hn : ∀ i, nxt i < 4294967296) (hc : Callable Tryd.prog f)
    (h1 : ∀ i : Nat, i < 32 → DFun Tryd.prog f ([] ++ [.v (.int .i64 (i : Nat))] ++ cs) (S (nxt i))) :
    DFun Tryd.prog 48 [.v (.int .i64 a), .fn (.func f) [] cs] (S (setOf (Comes1 (nxf nxt fun _ => true) a))) := by
  refine DFun.ofRun agree mixed Tryd.func48 rfl rfl ?_
  refine wa ?_
  refine wc ?_
  repeat (first | refine wb ?_ | refine wg ?_ | ((refine wl rfl rfl ?_ ?_); try (first | exact trivial)))
  refine wa ?_
  refine wc ?_
  repeat (first | ((refine wl rfl rfl ?_ ?_); try (first | ((repeat' apply And.intro) <;> first | exact trivial | exact rfl | omega | (simp; done) | (simp; omega)))))
  refine wn (xc rfl rfl rfl rfl (by repeat' (first | exact trivial | exact rfl | assumption | apply And.intro)) hc (h1 a ha)) rfl ?_
  repeat (first | refine wb ?_ | ((refine wl rfl rfl ?_ ?_); try (first | ((repeat' apply And.intro) <;> first | exact trivial | exact rfl | omega | (simp; done) | (simp; omega)))))
  refine wa ?_
  refine wi ?_
  refine Run.keep [1, 4, 5] rfl ?_
  refine Run.at (l' := [(1, .d (.fn (.func f) [] cs)), (4, .d (S 0)), (5, .d (S (nxt a)))]) rfl ?_
  refine Run.again (α := Nat × Nat) (fun q => SI nxt a q.1 q.2) (fun q => [(1, .d (.fn (.func f) [] cs)), (4, .d (S q.1)), (5, .d (S q.2))]) (fun q => cntTo q.1 32) (0, nxt a) (.start hn) ?_
  rintro ⟨had, new⟩ hI ih
  simp only at hI
  refine Run.at (l' := [(1, .d (.fn (.func f) [] cs)), (4, .d (S had)), (5, .d (S new))]) rfl ?_
  repeat (first | refine wa ?_ | refine wb ?_ | refine wc ?_ | ((first | refine wl rfl rfl ?_ ?_ | refine wn (wp rfl rfl rfl rfl rfl ?_) rfl ?_); try (first | ((repeat' apply And.intro) <;> first | exact trivial | exact rfl | omega | (simp; done) | (simp; omega)))))
  refine Run.condB rfl rfl (fun h0 => ?_) (fun h0 => ?_)
  · have : new = 0 := by simp at h0; omega
    subst this
    repeat (first | refine wa ?_ | refine wb ?_ | refine wc ?_ | ((refine wl rfl rfl ?_ ?_); try (first | ((repeat' apply And.intro) <;> first | exact trivial | exact rfl | omega | (simp; done) | (simp; omega)))))
    refine wD (wE rfl rfl ?_)
    rw [hI.done]
  · have hne : new ≠ 0 := by rintro rfl; simp at h0
    obtain ⟨i, k1, k2, k3, _⟩ := ctz_low hne hI.lt2
    have hi := hI.sound2 i k3
    have hN := hI.next hn k3
    have hni : nxt i < M64 := Nat.lt_trans (hn i) (by decide)
    repeat (first | refine wa ?_ | refine wc ?_ | refine wf ?_ | ((refine wl rfl rfl ?_ ?_); try (first | ((repeat' apply And.intro) <;> first | exact trivial | exact rfl | omega | (simp; done) | (simp; omega)))))
    refine wn (wA rfl rfl rfl (by repeat' (first | exact trivial | exact rfl | assumption | apply And.intro)) (callable (by decide)) (c_First new hI.lt2)) rfl ?_
    first | refine OpsAt.say (d := 14) rfl (y := .v (.int .i64 (i : Nat))) (by simp [firstN, hne, k1]) ?_ | refine Run.say (d := 14) rfl (y := .v (.int .i64 (i : Nat))) (by simp [firstN, hne, k1]) ?_ | refine OpsR.say (q := 14) rfl (y := .v (.int .i64 (i : Nat))) (by simp [firstN, hne, k1]) ?_ | refine OpsB.say (d := 14) rfl (y := .v (.int .i64 (i : Nat))) (by simp [firstN, hne, k1]) ?_
    repeat (first | refine wa ?_ | refine wb ?_ | refine wc ?_ | ((refine wl rfl rfl ?_ ?_); try (first | ((repeat' apply And.intro) <;> first | exact trivial | exact rfl | omega | (simp; done) | (simp; omega)))))
    refine wn (wA rfl rfl rfl (by repeat' (first | exact trivial | exact rfl | assumption | apply And.intro)) (callable (by decide)) (c_With had i hI.lt)) rfl ?_
    repeat (first | refine wa ?_ | refine wb ?_ | refine wc ?_ | ((refine wl rfl rfl ?_ ?_); try (first | ((repeat' apply And.intro) <;> first | exact trivial | exact rfl | omega | (simp; done) | (simp; omega)))))
    refine wn (xc rfl rfl rfl rfl (by repeat' (first | exact trivial | exact rfl | assumption | apply And.intro)) hc (h1 i hi.1)) rfl ?_
    refine wn (wp rfl rfl rfl rfl rfl (by repeat' (first | exact trivial | exact rfl | assumption | apply And.intro))) rfl ?_
    first | refine OpsAt.say (d := 22) rfl (y := S (new ||| nxt i)) (congrArg (fun z => D.v (.int .u64 z)) (or64 hI.lt2 hni)) ?_ | refine Run.say (d := 22) rfl (y := S (new ||| nxt i)) (congrArg (fun z => D.v (.int .u64 z)) (or64 hI.lt2 hni)) ?_ | refine OpsR.say (q := 22) rfl (y := S (new ||| nxt i)) (congrArg (fun z => D.v (.int .u64 z)) (or64 hI.lt2 hni)) ?_ | refine OpsB.say (d := 22) rfl (y := S (new ||| nxt i)) (congrArg (fun z => D.v (.int .u64 z)) (or64 hI.lt2 hni)) ?_
    refine wl rfl rfl rfl ?_
    refine wn (wp rfl rfl rfl rfl rfl (by repeat' (first | exact trivial | exact rfl | assumption | apply And.intro))) rfl ?_
    first | refine OpsAt.say (d := 24) rfl (y := S (andn (new ||| nxt i) (withN had (i : Int)))) (by rw [show IntKind.u64.bits = 64 from rfl, BitVec.ofInt_natCast, BitVec.ofInt_natCast]; exact congrArg (fun z => D.v (.int .u64 z)) (u64_in (andn_lt _ _))) ?_ | refine Run.say (d := 24) rfl (y := S (andn (new ||| nxt i) (withN had (i : Int)))) (by rw [show IntKind.u64.bits = 64 from rfl, BitVec.ofInt_natCast, BitVec.ofInt_natCast]; exact congrArg (fun z => D.v (.int .u64 z)) (u64_in (andn_lt _ _))) ?_ | refine OpsR.say (q := 24) rfl (y := S (andn (new ||| nxt i) (withN had (i : Int)))) (by rw [show IntKind.u64.bits = 64 from rfl, BitVec.ofInt_natCast, BitVec.ofInt_natCast]; exact congrArg (fun z => D.v (.int .u64 z)) (u64_in (andn_lt _ _))) ?_ | refine OpsB.say (d := 24) rfl (y := S (andn (new ||| nxt i) (withN had (i : Int)))) (by rw [show IntKind.u64.bits = 64 from rfl, BitVec.ofInt_natCast, BitVec.ofInt_natCast]; exact congrArg (fun z => D.v (.int .u64 z)) (u64_in (andn_lt _ _))) ?_
    refine wl rfl rfl rfl ?_
    refine wb ?_
    refine wk rfl ?_
    refine wa ?_
    refine wf ?_
    refine Run.keep [1, 4, 5] rfl ?_
    refine ih (withN had (i : Int), andn (new ||| nxt i) (withN had (i : Int))) hN ?_
    have := cnt_with (s := had) (k := i) (by omega) (hI.apart i k3) 32 hi.1
    show cntTo (withN had (i : Int)) 32 < cntTo had 32
    omega
end Go.Proofs.YtaflihoopnjcgaaDoor

namespace Go.Proofs.YtaflihoopnjcgaaDoor
open Go Go.Dat

noncomputable def reachN (g : List Nat) (a : Nat) : Nat := setOf (Comes1 (nxf (fun i => outsN g (i : Int)) fun _ => true) a)
noncomputable def freeN (g : List Nat) : Bool := (List.range 32).all fun a => !(reachN g a).testBit a

theorem c_Reach1 (g : List Nat) (i : Int) (hg : gok g) : DFun Tryd.prog 65 [.v (.int .i64 i), .pt (gr g)] (S (outsN g i)) := by
  refine DFun.ofRun agree mixed Tryd.func65 rfl rfl ?_
  repeat (first | refine wa ?_ | refine wb ?_ | refine wc ?_ | ((refine wl rfl rfl ?_ ?_); try (first | exact trivial)))
  · exact gr_fits hg.1 rfl
  repeat (first | ((refine wl rfl rfl ?_ ?_); try (first | ((repeat' apply And.intro) <;> first | exact trivial | exact rfl | omega | (simp; done) | (simp; omega)))))
  have hpl : (gr g).pl = true := gr_pl g
  refine wn (wA rfl rfl rfl (by repeat' (first | exact trivial | exact rfl | assumption | apply And.intro)) (callable (by decide)) (c_Outs g i hg)) rfl ?_
  repeat (first | refine wb ?_ | ((refine wl rfl rfl ?_ ?_); try (first | ((repeat' apply And.intro) <;> first | exact trivial | exact rfl | omega | (simp; done) | (simp; omega)))))
  exact wD (wE rfl rfl rfl)
theorem c_mReach (g : List Nat) (a : Nat) (ha : a < 32) (hg : gok g) : DFun Tryd.prog 52 [gr g, .v (.int .i64 a)] (S (reachN g a)) := by
  refine DFun.ofRun agree mixed Tryd.func52 rfl rfl ?_
  repeat (first | refine wa ?_ | refine wc ?_ | ((refine wl rfl rfl ?_ ?_)))
  · exact gr_pl g
  repeat (first | refine wa ?_ | refine wb ?_ | refine wc ?_ | ((first | refine wl rfl rfl ?_ ?_ | refine xa agree rfl rfl ?_ ?_); try (first | exact trivial | ((repeat' apply And.intro) <;> first | exact trivial | exact rfl | omega | (simp; done) | (simp; omega)))))
  refine wn (xc rfl rfl rfl rfl (by repeat' (first | exact trivial | exact rfl | assumption | apply And.intro)) (callable (by decide)) (c_spread 65 [.pt (gr g).lend] (fun i => outsN g (i : Int)) a ha (outs32 g) (callable (by decide)) (fun i _ => by rw [gr_lend]; exact c_Reach1 g i hg))) rfl ?_
  repeat (first | refine wb ?_ | ((refine wl rfl rfl ?_ ?_); try (first | ((repeat' apply And.intro) <;> first | exact trivial | exact rfl | omega | (simp; done) | (simp; omega)))))
  exact wD (wE rfl rfl rfl)
theorem has_bit (s a : Nat) (ha : a < 64) : hasN s (a : Int) = s.testBit a := by
  have : small (a : Int) = true := by simp [small]; omega
  rw [hasN, this, Bool.true_and, Int.toNat_natCast]
theorem c_Free (g : List Nat) (hg : gok g) : DFun Tryd.prog 25 [gr g] (.v (.bool (freeN g))) := by
  refine DFun.ofRun agree mixed Tryd.func25 rfl rfl ?_
  repeat (first | refine wa ?_ | refine wc ?_ | ((refine wl rfl rfl ?_ ?_)))
  · exact gr_pl g
  repeat (first | refine wa ?_ | refine wb ?_ | refine wc ?_ | refine wd ?_ | ((refine wl rfl rfl ?_ ?_); try (first | exact trivial)))
  refine Run.keep [1, 2, 4] rfl ?_
  refine Run.at (l' := [(1, .box (gr g)), (2, .d (.v (.bool false))), (4, .d (.v (.int .i64 (0 : Nat))))]) rfl ?_
  refine Run.loopL (α := Nat) (fun i => i ≤ 32 ∧ ∀ j, j < i → (reachN g j).testBit j = false) (fun i => [(1, .box (gr g)), (2, .d (.v (.bool false))), (4, .d (.v (.int .i64 i)))]) (fun i => 32 - i) 0 ⟨by decide, fun j hj => absurd hj (by omega)⟩ ?_
  rintro i ⟨hi, hall⟩ ih
  repeat (first | refine wa ?_ | refine wb ?_ | refine wc ?_ | ((refine wn (wp rfl rfl rfl rfl rfl ?_) rfl ?_); try (first | ((repeat' apply And.intro) <;> first | exact trivial | exact rfl | omega | (simp; done) | (simp; omega)))))
  refine Run.condB rfl rfl (fun hb => ?_) (fun hb => ?_)
  · have hi2 : i < 32 := by simp at hb; omega
    repeat (first | refine wa ?_ | refine wb ?_ | refine wc ?_ | refine wd ?_ | refine wf ?_ | ((refine wl rfl rfl ?_ ?_); try (first | ((repeat' apply And.intro) <;> first | exact trivial | exact rfl | omega | (simp; done) | (simp; omega)))))
    · exact ⟨gr_fits hg.1 rfl, gr_pl g⟩
    repeat (first | ((refine wl rfl rfl ?_ ?_); try (first | ((repeat' apply And.intro) <;> first | exact trivial | exact rfl | omega | (simp; done) | (simp; omega)))))
    have hpl : ((gr g).get []).pl = true := gr_pl g
    refine wn (wA rfl rfl rfl (by repeat' (first | exact trivial | exact rfl | assumption | apply And.intro)) (callable (by decide)) (c_mReach g i hi2 hg)) rfl ?_
    repeat (first | ((refine wl rfl rfl ?_ ?_); try (first | ((repeat' apply And.intro) <;> first | exact trivial | exact rfl | omega | (simp; done) | (simp; omega)))))
    refine wn (wA rfl rfl rfl (by repeat' (first | exact trivial | exact rfl | assumption | apply And.intro)) (callable (by decide)) (c_Has (reachN g i) i (setOf_lt _))) rfl ?_
    first | refine OpsAt.say (d := 11) rfl (y := .v (.bool ((reachN g i).testBit i))) (by rw [has_bit _ _ (by omega)]) ?_ | refine Run.say (d := 11) rfl (y := .v (.bool ((reachN g i).testBit i))) (by rw [has_bit _ _ (by omega)]) ?_ | refine OpsR.say (q := 11) rfl (y := .v (.bool ((reachN g i).testBit i))) (by rw [has_bit _ _ (by omega)]) ?_ | refine OpsB.say (d := 11) rfl (y := .v (.bool ((reachN g i).testBit i))) (by rw [has_bit _ _ (by omega)]) ?_
    repeat (first | refine wb ?_)
    refine Run.condB rfl rfl (fun h1 => ?_) (fun h1 => ?_)
    · repeat (first | refine wa ?_ | refine wb ?_ | refine wc ?_ | ((refine wl rfl rfl ?_ ?_); try (first | exact trivial)))
      refine wD (wE rfl rfl ?_)
      have : freeN g = false := by
        refine Bool.eq_false_iff.2 fun h => ?_
        have := List.all_eq_true.1 h i (List.mem_range.2 hi2)
        rw [h1] at this
        cases this
      rw [this]
    · repeat (first | refine wb ?_ | refine wc ?_ | refine we ?_ | refine wf ?_ | ((first | refine wl rfl rfl ?_ ?_ | refine wn (wp rfl rfl rfl rfl rfl ?_) rfl ?_); try (first | ((repeat' apply And.intro) <;> first | exact trivial | exact rfl | omega | (simp; done) | (simp; omega)))))
      first | refine OpsAt.say (d := 4) rfl (y := .v (.int .i64 (i + 1 : Nat))) (by rw [wrap64_in ((i : Int) + 1) (by omega)]; simp) ?_ | refine Run.say (d := 4) rfl (y := .v (.int .i64 (i + 1 : Nat))) (by rw [wrap64_in ((i : Int) + 1) (by omega)]; simp) ?_ | refine OpsR.say (q := 4) rfl (y := .v (.int .i64 (i + 1 : Nat))) (by rw [wrap64_in ((i : Int) + 1) (by omega)]; simp) ?_ | refine OpsB.say (d := 4) rfl (y := .v (.int .i64 (i + 1 : Nat))) (by rw [wrap64_in ((i : Int) + 1) (by omega)]; simp) ?_
      refine Run.keep [1, 2, 4] rfl ?_
      refine ih (i + 1) ⟨by omega, fun j hj => ?_⟩ (by omega)
      by_cases e : j = i
      · rw [e]; exact h1
      · exact hall j (by omega)
  · have hi2 : i = 32 := by simp at hb; omega
    subst hi2
    repeat (first | refine wa ?_ | refine wb ?_ | refine wc ?_ | ((refine wl rfl rfl ?_ ?_); try (first | exact trivial)) | refine wj rfl ?_)
    refine wD (wE rfl rfl ?_)
    have : freeN g = true := List.all_eq_true.2 fun j hj => by rw [hall j (List.mem_range.1 hj)]; rfl
    rw [this]

theorem nx_edge {g : List Nat} {i k : Nat} : nxf (fun i => outsN g (i : Int)) (fun _ => true) i k = edge g i k := by rw [nxt_true, outs_bit]
theorem free_iff {g : List Nat} : freeN g = true ↔ ∀ a, a < 32 → ¬ Comes1 (nxf (fun i => outsN g (i : Int)) fun _ => true) a a := by
  unfold freeN
  rw [List.all_eq_true]
  constructor
  · intro h a ha hc
    have := h a (List.mem_range.2 ha)
    rw [show (reachN g a).testBit a = true from setOf_bit.2 ⟨by omega, hc⟩] at this
    cases this
  · intro h a ha
    cases hb : (reachN g a).testBit a with
    | false => rfl
    | true => exact absurd (setOf_bit.1 hb).2 (h a (List.mem_range.1 ha))
theorem sorted_free {g : List Nat} {l : List Int} (hl : l.length = 32) (hs : sortedN g l = true) : freeN g = true := by
  obtain ⟨hp, he⟩ := (sorted_iff hl).1 hs
  rw [free_iff]
  rintro a _ ⟨i, h1, h2⟩
  have : ∀ j, Comes (nxf (fun i => outsN g (i : Int)) fun _ => true) a j → pl l a ≤ pl l j := fun j hj => by
    induction hj with
    | base => exact Nat.le_refl _
    | step _ hn ih => rw [nx_edge] at hn; have := he _ _ hn; omega
  rw [nx_edge] at h2
  have h3 := this i h1
  have h4 := he _ _ h2
  omega
/-- It is let in just if it may be, and there is no way round then. -/
theorem ins_is {g : List Nat} {l : List Int} (hf : Fit g l) (a b : Int) : (insG g l a b).2.2 = ((putG g a b).2 && freeN (putG g a b).1) := by
  have hfit := ins_fit hf a b
  rcases insR g l a b hf.ln with ⟨e, h⟩ | ⟨A, B, _, _, hA, hB, hne, hs, hlt, e, hq⟩ | ⟨A, B, _, _, hA, hB, hne, hs, hlt, hc, e, hq⟩ | ⟨A, B, _, _, hA, hB, hne, hs, hlt, hc, e, hq⟩
  · rw [e]
    rcases h with h | h
    · rw [h]; rfl
    · rw [hf.so] at h; cases h
  · rw [e] at hfit ⊢
    rw [hq, sorted_free hfit.ln hfit.so]
    rfl
  · rw [e, hq]
    have hp := ((sorted_iff hf.ln).1 hf.so).1
    have : freeN (g.set A (withN (g.getD A 0) (B : Int))) = false := by
      refine Bool.eq_false_iff.2 fun hfr => ?_
      refine (free_iff.1 hfr) A hA ?_
      have hnew : edge (g.set A (withN (g.getD A 0) (B : Int))) A B = true := (put_edge hf.gk.1 hA hB A B).2 (.inr ⟨rfl, rfl⟩)
      have hmono : ∀ j, Comes (nxF g l A) B j → Comes (nxf (fun i => outsN (g.set A (withN (g.getD A 0) (B : Int))) (i : Int)) fun _ => true) A j := fun j hj => by
        induction hj with
        | base => exact Comes.base.step (by rw [nx_edge]; exact hnew)
        | step _ hn ih =>
          rw [nxF_iff hp hA] at hn
          exact ih.step (by rw [nx_edge]; exact (put_edge hf.gk.1 hA hB _ _).2 (.inl hn.1))
      cases hc with
      | base => exact absurd rfl hne
      | step h1 hn =>
        rw [nxF_iff hp hA] at hn
        exact ⟨_, hmono _ h1, by rw [nx_edge]; exact (put_edge hf.gk.1 hA hB _ _).2 (.inl hn.1)⟩
    rw [this]
    rfl
  · rw [e] at hfit ⊢
    rw [hq, sorted_free hfit.ln hfit.so]
    rfl
/-- What is let in is there; what is not changes nothing. -/
theorem ins_graph {g : List Nat} {l : List Int} (hf : Fit g l) (a b : Int) : ((insG g l a b).2.2 = true → (insG g l a b).1 = (putG g a b).1) ∧ ((insG g l a b).2.2 = false → (insG g l a b).1 = g ∧ (insG g l a b).2.1 = l) := by
  rcases insR g l a b hf.ln with ⟨e, h⟩ | ⟨A, B, _, _, hA, hB, hne, hs, hlt, e, hq⟩ | ⟨A, B, _, _, hA, hB, hne, hs, hlt, hc, e, hq⟩ | ⟨A, B, _, _, hA, hB, hne, hs, hlt, hc, e, hq⟩
  · rw [e]; exact ⟨(fun h => by cases h), fun _ => ⟨rfl, rfl⟩⟩
  · rw [e, hq]; exact ⟨fun _ => rfl, fun h => by cases h⟩
  · rw [e]; exact ⟨(fun h => by cases h), fun _ => ⟨rfl, rfl⟩⟩
  · rw [e, hq]; exact ⟨fun _ => rfl, fun h => by cases h⟩
end Go.Proofs.YtaflihoopnjcgaaDoor

namespace Go.Proofs.YtaflihoopnjcgaaDoor
open Go Go.Dat

/-- Who is cut has no edges any more. -/
def cutTo (g : List Nat) (a n : Nat) : List Nat := (List.range 32).map fun j => if j < n then lessN ((g.set a (g.getD a 0 - g.getD a 0 % 4294967296)).getD j 0) (a : Int) else (g.set a (g.getD a 0 - g.getD a 0 % 4294967296)).getD j 0
def cutG (g : List Nat) (a : Nat) : List Nat := cutTo g a 32
theorem cutTo_len (g : List Nat) (a n : Nat) : (cutTo g a n).length = 32 := by simp [cutTo]
theorem low0_lt {s : Nat} (hs : s < M64) : s - s % 4294967296 < M64 := by omega
theorem low0_bit (s k : Nat) (hk : k < 32) : (s - s % 4294967296).testBit k = false := by
  have : s - s % 4294967296 = 2 ^ 32 * (s / 2 ^ 32) := by omega
  rw [this, Nat.testBit_two_pow_mul]
  have : ¬ 32 ≤ k := by omega
  simp [this]
theorem cutTo_gok {g : List Nat} (hg : gok g) (a n : Nat) : gok (cutTo g a n) := by
  have h0 : gok (g.set a (g.getD a 0 - g.getD a 0 % 4294967296)) := hg.set _ (low0_lt (hg.at a))
  refine ⟨cutTo_len _ _ _, fun s hs => ?_⟩
  obtain ⟨j, _, rfl⟩ := List.mem_map.1 hs
  split
  · exact lessN_lt _ _
  · exact h0.at j
theorem cut_edge {g : List Nat} (hg : gok g) {a : Nat} (ha : a < 32) (i k : Nat) : edge (cutG g a) i k = true ↔ edge g i k = true ∧ i ≠ a ∧ k ≠ a := by
  have h0 : gok (g.set a (g.getD a 0 - g.getD a 0 % 4294967296)) := hg.set _ (low0_lt (hg.at a))
  unfold edge
  by_cases hi : i < 32
  · have e1 : (cutG g a).getD i 0 = lessN ((g.set a (g.getD a 0 - g.getD a 0 % 4294967296)).getD i 0) (a : Int) := by simp [cutG, cutTo, hi]
    rw [e1, lessN_bit _ (h0.at i), bit_at (by omega)]
    by_cases e : i = a
    · subst e
      have e2 : (g.set i (g.getD i 0 - g.getD i 0 % 4294967296)).getD i 0 = g.getD i 0 - g.getD i 0 % 4294967296 := by
        rw [List.getD_eq_getElem?_getD]
        simp [hg.1, hi]
      rw [e2]
      by_cases hk : k < 32
      · rw [low0_bit _ _ hk]; simp
      · simp [hk]
    · have e2 : (g.set a (g.getD a 0 - g.getD a 0 % 4294967296)).getD i 0 = g.getD i 0 := by
        rw [List.getD_eq_getElem?_getD, List.getElem?_set_ne (fun h => e h.symm), ← List.getD_eq_getElem?_getD]
      rw [e2]
      by_cases ek : a = k
      · subst ek; simp
      · have ek' : ¬ k = a := fun h => ek h.symm
        simp [e, ek, ek']
  · simp [hi]
end Go.Proofs.YtaflihoopnjcgaaDoor

namespace Go.Proofs.YtaflihoopnjcgaaDoor
open Go Go.Dat

/-- A pool. -/
structure PL where
  sz : Int
  g : List Nat
  o : List Int
  lv : Nat
  dn : Nat
  ids : List Int
  ct : Int
def pd (q : PL) : D := .st [.v (.int .i64 q.sz), gr q.g, ord q.o, S q.lv, S q.dn, ord q.ids, .v (.int .i64 q.ct)]

def takenP (q : PL) : Nat := q.lv ||| q.dn
def slotsP (n : Int) : Nat := 2 ^ (min (max n 0) 32).toNat - 1
def freeP (q : PL) : Nat := andn (slotsP q.sz) (takenP q)
noncomputable def aheadP (q : PL) (a b : Int) : PL := { q with g := (insG q.g q.o a b).1, o := (insG q.g q.o a b).2.1 }
noncomputable def aheads (i : Int) (q : PL) (ks : List Nat) : PL := ks.foldl (fun (r : PL) (k : Nat) => aheadP r (k : Int) i) q
def seatP (q : PL) (i : Int) : PL := { q with lv := withN q.lv i, ct := q.ct + 1, ids := q.ids.set i.toNat (q.ct + 1) }
noncomputable def beginP (q : PL) : PL × Int × Int :=
  if freeP q = 0 then (q, 0, 4) else (seatP (aheads (firstN (freeP q)) q (itemsL q.dn)) (firstN (freeP q)), firstN (freeP q), 0)
noncomputable def edgeP (q : PL) (a b : Int) : PL × Int :=
  if a = b then (q, 2) else if !(hasN (takenP q) a) || !(hasN (takenP q) b) then (q, 3)
  else if (insG q.g q.o a b).2.2 then (aheadP q a b, 0) else (q, 5)
def endP (q : PL) (s : Int) : PL × Int := if !(hasN q.lv s) then (q, 3) else ({ q with lv := lessN q.lv s, dn := withN q.dn s }, 0)
def srcStep (q : PL) (acc : Option Nat) (i : Nat) : Option Nat :=
  if insN q.g (i : Int) = 0 ∧ i < 32 ∧ (∀ b, acc = some b → q.ids.getD i 0 < q.ids.getD b 0) then some i else acc
def srcP (q : PL) : Option Nat := (itemsL q.dn).foldl (srcStep q) none
def goP (q : PL) (i : Nat) : PL := { q with g := cutG q.g i, dn := lessN q.dn (i : Int), ids := q.ids.set i 0 }
def colP : Nat → PL → PL × List Int
  | 0, q => (q, [])
  | n + 1, q => match srcP q with
    | none => (q, [])
    | some i => ((colP n (goP q i)).1, q.ids.getD i 0 :: (colP n (goP q i)).2)

/-- Is slot i taken? -/
def Tk (q : PL) (i : Nat) : Prop := q.lv.testBit i = true ∨ q.dn.testBit i = true
/-- A pool that calls make. -/
structure SP (q : PL) : Prop where
  s1 : 1 ≤ q.sz
  s2 : q.sz ≤ 32
  c0 : 0 ≤ q.ct
  fit : Fit q.g q.o
  lo : ∀ i k, (q.g.getD i 0).testBit k = true → k < 32
  ids : q.ids.length = 32
  lm : q.lv < M64
  dm : q.dn < M64
  tl : ∀ i, q.lv.testBit i = true → (i : Int) < q.sz
  td : ∀ i, q.dn.testBit i = true → (i : Int) < q.sz
  dis : ∀ i, ¬ (q.lv.testBit i = true ∧ q.dn.testBit i = true)
  cut : ∀ i k, edge q.g i k = true → Tk q i ∧ Tk q k

theorem tk_bit (q : PL) (i : Nat) : (takenP q).testBit i = true ↔ Tk q i := by
  unfold takenP Tk
  rw [Nat.testBit_or, Bool.or_eq_true]
theorem SP.tm {q : PL} (h : SP q) : takenP q < M64 := or_lt h.lm h.dm
theorem SP.t32 {q : PL} (h : SP q) {i : Nat} (ht : Tk q i) : i < 32 := by
  have := h.s2
  rcases ht with h1 | h1
  · have := h.tl i h1; omega
  · have := h.td i h1; omega

theorem ins_new {g : List Nat} {l : List Int} (h : Fit g l) (a b : Int) {i k : Nat} (he : edge (insG g l a b).1 i k = true) : edge g i k = true ∨ ((i : Int) = a ∧ (k : Int) = b) := by
  rcases insR g l a b h.ln with ⟨e, _⟩ | ⟨A, B, ha, hb, hA, hB, hne, hs, hlt, e, _⟩ | ⟨A, B, _, _, hA, hB, hne, hs, hlt, hc, e, _⟩ | ⟨A, B, ha, hb, hA, hB, hne, hs, hlt, hc, e, _⟩
  · rw [e] at he; exact .inl he
  · rw [e] at he
    exact ((put_edge h.gk.1 hA hB i k).1 he).imp id fun h => ⟨by rw [h.1, ha], by rw [h.2, hb]⟩
  · rw [e] at he; exact .inl he
  · rw [e] at he
    exact ((put_edge h.gk.1 hA hB i k).1 he).imp id fun h => ⟨by rw [h.1, ha], by rw [h.2, hb]⟩
theorem put_lo {g : List Nat} (hl : ∀ i k, (g.getD i 0).testBit k = true → k < 32) {A B : Nat} (hB : B < 32) (i k : Nat) (h : ((g.set A (withN (g.getD A 0) (B : Int))).getD i 0).testBit k = true) : k < 32 := by
  by_cases e : A = i
  · subst e
    by_cases hA : A < g.length
    · have : (g.set A (withN (g.getD A 0) (B : Int))).getD A 0 = withN (g.getD A 0) (B : Int) := by
        rw [List.getD_eq_getElem?_getD]
        simp [hA]
      rw [this, with_bit (by omega), Bool.or_eq_true, decide_eq_true_eq] at h
      rcases h with h | h
      · exact hl _ _ h
      · omega
    · rw [List.set_eq_of_length_le (by omega)] at h
      exact hl _ _ h
  · have : (g.set A (withN (g.getD A 0) (B : Int))).getD i 0 = g.getD i 0 := by
      rw [List.getD_eq_getElem?_getD, List.getElem?_set_ne e, ← List.getD_eq_getElem?_getD]
    rw [this] at h
    exact hl _ _ h
theorem ins_lo {g : List Nat} {l : List Int} (h : Fit g l) (a b : Int) (hl : ∀ i k, (g.getD i 0).testBit k = true → k < 32) (i k : Nat) (hk : ((insG g l a b).1.getD i 0).testBit k = true) : k < 32 := by
  rcases insR g l a b h.ln with ⟨e, _⟩ | ⟨A, B, ha, hb, hA, hB, hne, hs, hlt, e, _⟩ | ⟨A, B, _, _, hA, hB, hne, hs, hlt, hc, e, _⟩ | ⟨A, B, ha, hb, hA, hB, hne, hs, hlt, hc, e, _⟩
  · rw [e] at hk; exact hl _ _ hk
  · rw [e] at hk; exact put_lo hl hB i k hk
  · rw [e] at hk; exact hl _ _ hk
  · rw [e] at hk; exact put_lo hl hB i k hk
/-- An edge to one from which nothing goes is let in. -/
theorem ins_end {g : List Nat} {l : List Int} (h : Fit g l) {A B : Nat} (hA : A < 32) (hB : B < 32) (hne : A ≠ B) (hno : ∀ k, edge g B k = false) : (insG g l (A : Int) (B : Int)).2.2 = true ∧ edge (insG g l (A : Int) (B : Int)).1 A B = true := by
  have hput : (putG g (A : Int) (B : Int)).2 = true := by
    unfold putG
    have h1 : nodeN (A : Int) = true := by simp [nodeN]; omega
    have h2 : nodeN (B : Int) = true := by simp [nodeN]; omega
    rw [h1, h2]
    have : ((A : Int) != (B : Int)) = true := by simp; omega
    rw [this]
    rfl
  have cast : ∀ {A' B' : Nat}, (A : Int) = A' → (B : Int) = B' → A' = A ∧ B' = B := fun h1 h2 => by omega
  rcases insR g l A B h.ln with ⟨e, h1⟩ | ⟨A', B', ha, hb, hA', hB', hne', hs, hlt, e, _⟩ | ⟨A', B', ha, hb, hA', hB', hne', hs, hlt, hc, e, _⟩ | ⟨A', B', ha, hb, hA', hB', hne', hs, hlt, hc, e, _⟩
  · rcases h1 with h1 | h1
    · rw [hput] at h1; cases h1
    · rw [h.so] at h1; cases h1
  · obtain ⟨rfl, rfl⟩ := cast ha hb
    rw [e]
    exact ⟨rfl, (put_edge h.gk.1 hA hB _ _).2 (.inr ⟨rfl, rfl⟩)⟩
  · obtain ⟨rfl, rfl⟩ := cast ha hb
    exfalso
    have hp := ((sorted_iff h.ln).1 hs).1
    have : ∀ j, Comes (nxF g l A') B' j → j = B' := fun j hj => by
      induction hj with
      | base => rfl
      | step _ hn ih => rw [ih, nxF_iff hp hA, hno] at hn; cases hn.1
    exact hne (this _ hc)
  · obtain ⟨rfl, rfl⟩ := cast ha hb
    rw [e]
    exact ⟨rfl, (put_edge h.gk.1 hA hB _ _).2 (.inr ⟨rfl, rfl⟩)⟩

theorem SP.free {q : PL} (_h : SP q) (h0 : freeP q ≠ 0) : ∃ i : Nat, firstN (freeP q) = i ∧ (i : Int) < q.sz ∧ ¬ Tk q i ∧ ∀ j : Nat, j < i → Tk q j := by
  obtain ⟨k, h1, h2, h3, h4⟩ := ctz_low h0 (andn_lt _ _)
  have hslot : ∀ j, (slotsP q.sz).testBit j = decide (j < (min (max q.sz 0) 32).toNat) := fun j => Nat.testBit_two_pow_sub_one _ j
  have hm : slotsP q.sz < M64 := by
    have : (2 : Nat) ^ (min (max q.sz 0) 32).toNat ≤ 2 ^ 32 := Nat.pow_le_pow_right (by decide) (by omega)
    unfold slotsP M64
    omega
  have hb : ∀ j, (freeP q).testBit j = (decide (j < (min (max q.sz 0) 32).toNat) && !(takenP q).testBit j) := fun j => by rw [freeP, andn_bit hm, hslot]
  rw [hb] at h3
  simp only [Bool.and_eq_true, decide_eq_true_eq, Bool.not_eq_true'] at h3
  refine ⟨k, by rw [firstN, if_neg h0, h1], by omega, ?_, fun j hj => ?_⟩
  · rw [← tk_bit, h3.2]; simp
  · have := h4 j hj
    rw [hb] at this
    have hlt : j < (min (max q.sz 0) 32).toNat := by omega
    rw [decide_eq_true hlt, Bool.true_and] at this
    rw [← tk_bit]
    simpa using this
theorem SP.full {q : PL} (h : SP q) (h0 : freeP q = 0) (i : Nat) (hi : (i : Int) < q.sz) : Tk q i := by
  have hslot : ∀ j, (slotsP q.sz).testBit j = decide (j < (min (max q.sz 0) 32).toNat) := fun j => Nat.testBit_two_pow_sub_one _ j
  have hm : slotsP q.sz < M64 := by
    have : (2 : Nat) ^ (min (max q.sz 0) 32).toNat ≤ 2 ^ 32 := Nat.pow_le_pow_right (by decide) (by omega)
    unfold slotsP M64
    omega
  have hb : (freeP q).testBit i = (decide (i < (min (max q.sz 0) 32).toNat) && !(takenP q).testBit i) := by rw [freeP, andn_bit hm, hslot]
  rw [h0] at hb
  have hlt : i < (min (max q.sz 0) 32).toNat := by have := h.s1; have := h.s2; omega
  rw [decide_eq_true hlt, Bool.true_and] at hb
  rw [← tk_bit]
  simpa using hb.symm

/-- What stays as it is while edges come. -/
structure Same (q r : PL) : Prop where
  sz : r.sz = q.sz
  lv : r.lv = q.lv
  dn : r.dn = q.dn
  ids : r.ids = q.ids
  ct : r.ct = q.ct
theorem Same.tk {q r : PL} (h : Same q r) (i : Nat) : Tk r i ↔ Tk q i := by unfold Tk; rw [h.lv, h.dn]
end Go.Proofs.YtaflihoopnjcgaaDoor

namespace Go.Proofs.YtaflihoopnjcgaaDoor
open Go Go.Dat

/-- While edges come to the free slot i. -/
structure Mid (q r : PL) (i : Nat) : Prop where
  same : Same q r
  fit : Fit r.g r.o
  lo : ∀ x y, (r.g.getD x 0).testBit y = true → y < 32
  new : ∀ x y, edge r.g x y = true → edge q.g x y = true ∨ (y = i ∧ q.dn.testBit x = true)

theorem SP.mid {q : PL} (h : SP q) (i : Nat) : Mid q q i := ⟨⟨rfl, rfl, rfl, rfl, rfl⟩, h.fit, h.lo, fun _ _ he => .inl he⟩
theorem Mid.step {q r : PL} {i k : Nat} (h : SP q) (hi : i < 32) (hf : ¬ Tk q i) (hm : Mid q r i) (hk : q.dn.testBit k = true) :
    Mid q (aheadP r (k : Int) (i : Int)) i ∧ edge (aheadP r (k : Int) (i : Int)).g k i = true ∧ (insG r.g r.o (k : Int) (i : Int)).2.2 = true := by
  have hno : ∀ y, edge r.g i y = false := fun y => by
    cases he : edge r.g i y with
    | false => rfl
    | true =>
      rcases hm.new i y he with h1 | ⟨_, h1⟩
      · exact absurd (h.cut i y h1).1 hf
      · exact absurd (.inr h1) hf
  have hki : k ≠ i := by rintro rfl; exact hf (.inr hk)
  have he := ins_end hm.fit (h.t32 (.inr hk)) hi hki hno
  refine ⟨⟨⟨hm.same.sz, hm.same.lv, hm.same.dn, hm.same.ids, hm.same.ct⟩, ins_fit hm.fit _ _, ins_lo hm.fit _ _ hm.lo, fun x y hxy => ?_⟩, he.2, he.1⟩
  rcases ins_new hm.fit _ _ hxy with h1 | ⟨h1, h2⟩
  · exact hm.new x y h1
  · have e1 : x = k := by omega
    have e2 : y = i := by omega
    subst e1 e2
    exact .inr ⟨rfl, hk⟩
theorem aheads_mid {q : PL} {i : Nat} (h : SP q) (hi : i < 32) (hf : ¬ Tk q i) : ∀ (ks : List Nat) (r : PL), Mid q r i → (∀ k ∈ ks, q.dn.testBit k = true) →
    Mid q (aheads (i : Int) r ks) i ∧ (∀ k ∈ ks, edge (aheads (i : Int) r ks).g k i = true) ∧ ∀ x y, edge r.g x y = true → edge (aheads (i : Int) r ks).g x y = true
  | [], r, hm, _ => ⟨hm, fun k hk => by simp at hk, fun _ _ he => he⟩
  | k :: ks, r, hm, hk => by
    have hs := hm.step h hi hf (hk k (by simp))
    have ih := aheads_mid h hi hf ks (aheadP r (k : Int) (i : Int)) hs.1 fun j hj => hk j (by simp [hj])
    refine ⟨ih.1, fun j hj => ?_, fun x y he => ih.2.2 x y (ins_edges hm.fit _ _ he)⟩
    rcases List.mem_cons.1 hj with rfl | hj
    · exact ih.2.2 _ _ hs.2.1
    · exact ih.2.1 j hj

theorem with_nat {s k j : Nat} (hk : k < 32) : (withN s (k : Int)).testBit j = true ↔ s.testBit j = true ∨ j = k := by
  rw [with_bit (by omega), Bool.or_eq_true, decide_eq_true_eq]
  exact ⟨fun h => h.imp id Eq.symm, fun h => h.imp id Eq.symm⟩
theorem less_nat {s k j : Nat} (hs : s < M64) (hk : k < 32) : (lessN s (k : Int)).testBit j = true ↔ s.testBit j = true ∧ j ≠ k := by
  rw [lessN_bit _ hs, bit_at (by omega)]
  simp only [Bool.and_eq_true, Bool.not_eq_true', decide_eq_false_iff_not, ne_eq]
  exact ⟨fun h => ⟨h.1, fun e => h.2 e.symm⟩, fun h => ⟨h.1, fun e => h.2 e.symm⟩⟩

/-- What Begin makes of a pool with room. -/
structure Began (q r : PL) (i : Nat) : Prop where
  sp : SP r
  slot : (i : Int) < q.sz
  free : ¬ Tk q i
  first : ∀ j : Nat, j < i → Tk q j
  sz : r.sz = q.sz
  lv : r.lv = withN q.lv (i : Int)
  dn : r.dn = q.dn
  ct : r.ct = q.ct + 1
  ids : r.ids = q.ids.set i (q.ct + 1)
  edges : ∀ k, q.dn.testBit k = true → edge r.g k i = true
theorem SP.begin {q : PL} (h : SP q) (h0 : freeP q ≠ 0) : ∃ i : Nat, firstN (freeP q) = i ∧ i < 32 ∧ beginP q = (seatP (aheads (i : Int) q (itemsL q.dn)) (i : Int), (i : Int), 0) ∧ Began q (beginP q).1 i := by
  obtain ⟨i, e, hi, hf, hfst⟩ := h.free h0
  have hi32 : i < 32 := by have := h.s2; omega
  have hb : beginP q = (seatP (aheads (i : Int) q (itemsL q.dn)) (i : Int), (i : Int), 0) := by
    unfold beginP
    rw [if_neg h0, e]
  have hm := aheads_mid h hi32 hf (itemsL q.dn) q (h.mid i) fun k hk => (itemsL_mem.1 hk).2
  obtain ⟨r, hr⟩ : ∃ r, r = aheads (i : Int) q (itemsL q.dn) := ⟨_, rfl⟩
  rw [← hr] at hb hm
  refine ⟨i, e, hi32, by rw [hb, hr], ?_⟩
  rw [hb]
  obtain ⟨⟨hsame, hfit, hlo, hnew⟩, hed, _⟩ := hm
  have tk : ∀ j, Tk (seatP r (i : Int)) j ↔ Tk q j ∨ j = i := fun j => by
    unfold Tk seatP
    show (withN r.lv (i : Int)).testBit j = true ∨ r.dn.testBit j = true ↔ _
    rw [with_nat hi32, hsame.lv, hsame.dn]
    constructor
    · rintro ((h | h) | h)
      · exact .inl (.inl h)
      · exact .inr h
      · exact .inl (.inr h)
    · rintro ((h | h) | h)
      · exact .inl (.inl h)
      · exact .inr h
      · exact .inl (.inr h)
  refine ⟨⟨?_, ?_, ?_, hfit, hlo, ?_, ?_, ?_, ?_, ?_, ?_, ?_⟩, hi, hf, hfst, hsame.sz, ?_, hsame.dn, ?_, ?_, fun k hk => ?_⟩
  · show 1 ≤ r.sz; rw [hsame.sz]; exact h.s1
  · show r.sz ≤ 32; rw [hsame.sz]; exact h.s2
  · show 0 ≤ r.ct + 1; rw [hsame.ct]; have := h.c0; omega
  · show (r.ids.set _ _).length = 32; rw [List.length_set, hsame.ids]; exact h.ids
  · show withN r.lv _ < M64; rw [hsame.lv]; exact withN_lt _ h.lm
  · show r.dn < M64; rw [hsame.dn]; exact h.dm
  · intro j hj
    have hj : (withN r.lv (i : Int)).testBit j = true := hj
    show (j : Int) < r.sz
    rw [hsame.sz]
    rw [with_nat hi32, hsame.lv] at hj
    rcases hj with hj | rfl
    · exact h.tl j hj
    · exact hi
  · intro j hj
    have hj : r.dn.testBit j = true := hj
    show (j : Int) < r.sz
    rw [hsame.sz]
    rw [hsame.dn] at hj
    exact h.td j hj
  · rintro j ⟨h1, h2⟩
    have h1 : (withN r.lv (i : Int)).testBit j = true := h1
    have h3 : r.dn.testBit j = true := h2
    rw [with_nat hi32, hsame.lv] at h1
    rw [hsame.dn] at h3
    rcases h1 with h1 | rfl
    · exact h.dis j ⟨h1, h3⟩
    · exact hf (.inr h3)
  · intro x y hxy
    rw [tk, tk]
    rcases hnew x y hxy with h1 | ⟨h1, h2⟩
    · exact ⟨.inl (h.cut x y h1).1, .inl (h.cut x y h1).2⟩
    · exact ⟨.inl (.inr h2), .inr h1⟩
  · show withN r.lv _ = _; rw [hsame.lv]
  · show r.ct + 1 = _; rw [hsame.ct]
  · show r.ids.set _ (r.ct + 1) = _; rw [hsame.ids, hsame.ct, Int.toNat_natCast]
  · exact hed k (itemsL_mem.2 ⟨Nat.lt_of_lt_of_le (h.t32 (.inr hk)) (by decide), hk⟩)

theorem SP.beginS {q : PL} (h : SP q) : SP (beginP q).1 := by
  by_cases h0 : freeP q = 0
  · unfold beginP; rw [if_pos h0]; exact h
  · obtain ⟨i, _, _, _, hb⟩ := h.begin h0; exact hb.sp

theorem has_tk {q : PL} {a : Int} (ha : hasN (takenP q) a = true) : ∃ A : Nat, a = A ∧ Tk q A := by
  simp only [hasN, Bool.and_eq_true, small, decide_eq_true_eq] at ha
  exact ⟨a.toNat, by omega, (tk_bit q _).1 ha.2⟩
theorem SP.ahead {q : PL} (h : SP q) {A B : Nat} (hA : Tk q A) (hB : Tk q B) : SP (aheadP q (A : Int) (B : Int)) := by
  refine ⟨h.s1, h.s2, h.c0, ins_fit h.fit _ _, ins_lo h.fit _ _ h.lo, h.ids, h.lm, h.dm, h.tl, h.td, h.dis, fun x y hxy => ?_⟩
  show Tk q x ∧ Tk q y
  rcases ins_new h.fit _ _ hxy with h1 | ⟨h1, h2⟩
  · exact h.cut x y h1
  · have e1 : x = A := by omega
    have e2 : y = B := by omega
    subst e1 e2
    exact ⟨hA, hB⟩
theorem SP.edgeS {q : PL} (h : SP q) (a b : Int) : SP (edgeP q a b).1 := by
  unfold edgeP
  split
  · exact h
  · split
    · exact h
    · next h1 =>
      simp only [Bool.or_eq_true, Bool.not_eq_true', not_or, Bool.not_eq_false] at h1
      obtain ⟨A, rfl, hA⟩ := has_tk h1.1
      obtain ⟨B, rfl, hB⟩ := has_tk h1.2
      split
      · exact h.ahead hA hB
      · exact h
theorem SP.endS {q : PL} (h : SP q) (s : Int) : SP (endP q s).1 := by
  unfold endP
  split
  · exact h
  · next h1 =>
    simp only [Bool.not_eq_true', Bool.not_eq_false] at h1
    simp only [hasN, Bool.and_eq_true, small, decide_eq_true_eq] at h1
    obtain ⟨i, rfl⟩ : ∃ i : Nat, s = i := ⟨s.toNat, by omega⟩
    rw [Int.toNat_natCast] at h1
    have hi : i < 32 := h.t32 (.inl h1.2)
    have tk : ∀ j, (lessN q.lv (i : Int)).testBit j = true ∨ (withN q.dn (i : Int)).testBit j = true ↔ Tk q j := fun j => by
      rw [less_nat h.lm hi, with_nat hi]
      unfold Tk
      constructor
      · rintro (h2 | h2 | rfl)
        · exact .inl h2.1
        · exact .inr h2
        · exact .inl h1.2
      · rintro (h2 | h2)
        · by_cases e : j = i
          · exact .inr (.inr e)
          · exact .inl ⟨h2, e⟩
        · exact .inr (.inl h2)
    refine ⟨h.s1, h.s2, h.c0, h.fit, h.lo, h.ids, lessN_lt _ _, withN_lt _ h.dm, fun j hj => ?_, fun j hj => ?_, ?_, fun x y hxy => ?_⟩
    · exact h.tl j ((less_nat h.lm hi).1 hj).1
    · rcases (with_nat hi).1 hj with h2 | rfl
      · exact h.td j h2
      · exact h.tl j h1.2
    · rintro j ⟨h2, h3⟩
      have h2 := (less_nat h.lm hi).1 h2
      rcases (with_nat hi).1 h3 with h3 | h3
      · exact h.dis j ⟨h2.1, h3⟩
      · exact h2.2 h3
    · have := h.cut x y hxy
      exact ⟨(tk x).2 this.1, (tk y).2 this.2⟩

theorem cut_lo {g : List Nat} (hg : gok g) (hl : ∀ i k, (g.getD i 0).testBit k = true → k < 32) {a : Nat} (ha : a < 32) (i k : Nat) (h : ((cutG g a).getD i 0).testBit k = true) : k < 32 := by
  by_cases hi : i < 32
  · have e1 : (cutG g a).getD i 0 = lessN ((g.set a (g.getD a 0 - g.getD a 0 % 4294967296)).getD i 0) (a : Int) := by simp [cutG, cutTo, hi]
    have h0 : gok (g.set a (g.getD a 0 - g.getD a 0 % 4294967296)) := hg.set _ (low0_lt (hg.at a))
    rw [e1] at h
    have h1 := ((less_nat (h0.at i) ha).1 h).1
    by_cases e : a = i
    · subst e
      have e2 : (g.set a (g.getD a 0 - g.getD a 0 % 4294967296)).getD a 0 = g.getD a 0 - g.getD a 0 % 4294967296 := by
        rw [List.getD_eq_getElem?_getD]
        simp [hg.1, ha]
      rw [e2] at h1
      rcases Nat.lt_or_ge k 32 with h2 | h2
      · exact h2
      · have e3 : g.getD a 0 - g.getD a 0 % 4294967296 = 2 ^ 32 * (g.getD a 0 / 2 ^ 32) := by omega
        rw [e3, Nat.testBit_two_pow_mul, Nat.testBit_div_two_pow] at h1
        simp only [ge_iff_le, h2, decide_true, Bool.true_and] at h1
        rw [Nat.sub_add_cancel h2] at h1
        exact hl _ _ h1
    · have e2 : (g.set a (g.getD a 0 - g.getD a 0 % 4294967296)).getD i 0 = g.getD i 0 := by
        rw [List.getD_eq_getElem?_getD, List.getElem?_set_ne e, ← List.getD_eq_getElem?_getD]
      rw [e2] at h1
      exact hl _ _ h1
  · rw [List.getD_eq_getElem?_getD, List.getElem?_eq_none (by rw [cutG, cutTo_len]; omega)] at h
    simp at h
theorem SP.go {q : PL} (h : SP q) {i : Nat} (hi : i < 32) : SP (goP q i) := by
  have hs := (sorted_iff h.fit.ln).1 h.fit.so
  have dn : ∀ j, (lessN q.dn (i : Int)).testBit j = true ↔ q.dn.testBit j = true ∧ j ≠ i := fun j => less_nat h.dm hi
  refine ⟨h.s1, h.s2, h.c0, ⟨cutTo_gok h.fit.gk _ _, h.fit.ln, (sorted_iff h.fit.ln).2 ⟨hs.1, fun x y hxy => hs.2 x y ((cut_edge h.fit.gk hi x y).1 hxy).1⟩⟩, cut_lo h.fit.gk h.lo hi, ?_, h.lm, lessN_lt _ _, h.tl, fun j hj => h.td j ((dn j).1 hj).1, fun j hj => h.dis j ⟨hj.1, ((dn j).1 hj.2).1⟩, fun x y hxy => ?_⟩
  · show (q.ids.set i 0).length = 32
    rw [List.length_set]; exact h.ids
  · obtain ⟨h1, h2, h3⟩ := (cut_edge h.fit.gk hi x y).1 hxy
    have := h.cut x y h1
    exact ⟨this.1.imp id fun h => (dn x).2 ⟨h, h2⟩, this.2.imp id fun h => (dn y).2 ⟨h, h3⟩⟩

theorem src_fold (q : PL) : ∀ (l : List Nat) (acc : Option Nat), (∀ b, acc = some b → insN q.g (b : Int) = 0 ∧ b < 32) →
    (∀ b, l.foldl (srcStep q) acc = some b → (acc = some b ∨ b ∈ l) ∧ insN q.g (b : Int) = 0 ∧ b < 32) ∧ (l.foldl (srcStep q) acc = none → acc = none ∧ ∀ i ∈ l, i < 32 → insN q.g (i : Int) ≠ 0)
  | [], acc, h => ⟨fun b hb => ⟨.inl hb, h b hb⟩, fun hn => ⟨hn, fun i hi => by simp at hi⟩⟩
  | i :: l, acc, h => by
    rw [List.foldl_cons]
    by_cases hc : insN q.g (i : Int) = 0 ∧ i < 32 ∧ (∀ b, acc = some b → q.ids.getD i 0 < q.ids.getD b 0)
    · have e : srcStep q acc i = some i := if_pos hc
      rw [e]
      obtain ⟨h1, h2⟩ := src_fold q l (some i) (fun b hb => by cases hb; exact ⟨hc.1, hc.2.1⟩)
      refine ⟨fun b hb => ?_, fun hn => by cases (h2 hn).1⟩
      obtain ⟨h3, h4⟩ := h1 b hb
      refine ⟨.inr ?_, h4⟩
      rcases h3 with h3 | h3
      · cases h3; simp
      · simp [h3]
    · have e : srcStep q acc i = acc := if_neg hc
      rw [e]
      obtain ⟨h1, h2⟩ := src_fold q l acc h
      refine ⟨fun b hb => ?_, fun hn => ?_⟩
      · obtain ⟨h3, h4⟩ := h1 b hb
        exact ⟨h3.imp id fun h => by simp [h], h4⟩
      · obtain ⟨rfl, h4⟩ := h2 hn
        refine ⟨rfl, fun j hj hj32 => ?_⟩
        rcases List.mem_cons.1 hj with rfl | hj
        · exact fun h0 => hc ⟨h0, hj32, fun b hb => by cases hb⟩
        · exact h4 j hj hj32
theorem src_some {q : PL} {i : Nat} (h : srcP q = some i) : q.dn.testBit i = true ∧ insN q.g (i : Int) = 0 ∧ i < 32 := by
  obtain ⟨h1, h2⟩ := (src_fold q (itemsL q.dn) none (fun b hb => by cases hb)).1 i h
  rcases h1 with h1 | h1
  · cases h1
  · exact ⟨(itemsL_mem.1 h1).2, h2⟩
theorem src_none {q : PL} (h : srcP q = none) (i : Nat) (hi : i < 32) (hd : q.dn.testBit i = true) : insN q.g (i : Int) ≠ 0 :=
  ((src_fold q (itemsL q.dn) none (fun b hb => by cases hb)).2 h).2 i (itemsL_mem.2 ⟨by omega, hd⟩) hi
theorem items_less {s i : Nat} (hs : s < M64) (hi : i < 32) (h : s.testBit i = true) : (itemsL (lessN s (i : Int))).length + 1 = (itemsL s).length := by
  have hp : (itemsL s).Perm (i :: itemsL (lessN s (i : Int))) := by
    refine (List.perm_ext_iff_of_nodup (itemsL_nodup s) (List.nodup_cons.2 ⟨fun hm => ?_, itemsL_nodup _⟩)).2 fun j => ?_
    · exact ((less_nat hs hi).1 (itemsL_mem.1 hm).2).2 rfl
    · rw [List.mem_cons, itemsL_mem, itemsL_mem, less_nat hs hi]
      constructor
      · rintro ⟨h1, h2⟩
        by_cases e : j = i
        · exact .inl e
        · exact .inr ⟨h1, h2, e⟩
      · rintro (rfl | h1)
        · exact ⟨by omega, h⟩
        · exact ⟨h1.1, h1.2.1⟩
  rw [hp.length_eq]
  rfl
theorem SP.col : ∀ (n : Nat) (q : PL), SP q → SP (colP n q).1
  | 0, _, h => h
  | n + 1, q, h => by
    unfold colP
    split
    · exact h
    · next i hs => exact SP.col n _ (h.go (src_some hs).2.2)
end Go.Proofs.YtaflihoopnjcgaaDoor

namespace Go.Proofs.YtaflihoopnjcgaaDoor
open Go Go.Dat

theorem ins_zero {g : List Nat} {i : Nat} (h : insN g (i : Int) = 0) (k : Nat) : edge g k i = false := by
  rw [← ins_bit, h]
  simp
theorem ins_pos {g : List Nat} {i : Nat} (h : insN g (i : Int) ≠ 0) : ∃ k, edge g k i = true := by
  obtain ⟨k, _, _, hk, _⟩ := ctz_low h (Nat.lt_trans (ins32 g i) (by decide))
  exact ⟨k, by rw [← ins_bit]; exact hk⟩

/-- With as many rounds as there are that are over, it comes to an end. -/
theorem col_end : ∀ (n : Nat) (q : PL), SP q → (itemsL q.dn).length ≤ n → srcP (colP n q).1 = none
  | 0, q, h, hn => by
    have h0 : itemsL q.dn = [] := List.eq_nil_of_length_eq_zero (by omega)
    show srcP q = none
    unfold srcP
    rw [h0]
    rfl
  | n + 1, q, h, hn => by
    unfold colP
    split
    · next hs => exact hs
    · next i hs =>
      obtain ⟨h1, h2, h3⟩ := src_some hs
      have := items_less h.dm h3 h1
      exact col_end n _ (h.go h3) (by show (itemsL (lessN q.dn (i : Int))).length ≤ n; omega)
theorem col_keeps : ∀ (n : Nat) (q : PL), SP q → (colP n q).1.lv = q.lv ∧ (colP n q).1.sz = q.sz ∧ (colP n q).1.ct = q.ct ∧ ∀ i, (colP n q).1.dn.testBit i = true → q.dn.testBit i = true
  | 0, _, _ => ⟨rfl, rfl, rfl, fun _ h => h⟩
  | n + 1, q, h => by
    unfold colP
    split
    · exact ⟨rfl, rfl, rfl, fun _ h => h⟩
    · next i hs =>
      obtain ⟨h1, h2, h3⟩ := src_some hs
      obtain ⟨e1, e2, e3, e4⟩ := col_keeps n _ (h.go h3)
      exact ⟨e1, e2, e3, fun j hj => ((less_nat h.dm h3).1 (e4 j hj)).1⟩

/-- A step back. -/
def bk (g : List Nat) : Nat → Nat → Bool := nxf (fun i => insN g (i : Int)) fun _ => true
theorem bk_iff {g : List Nat} {i k : Nat} : bk g i k = edge g k i := by
  unfold bk nxf
  rw [ins_bit, Bool.and_true]
/-- Who goes has only such behind it as go, too. -/
theorem col_back : ∀ (n : Nat) (q : PL), SP q → ∀ i, q.dn.testBit i = true → (colP n q).1.dn.testBit i = false → ∀ y x, Comes (bk q.g) i y → bk q.g y x = true → q.dn.testBit x = true
  | 0, q, _, i, hi, hj => by
    intro y x _ _
    have hj : q.dn.testBit i = false := hj
    rw [hi] at hj; cases hj
  | n + 1, q, h, i, hi, hj => by
    unfold colP at hj
    split at hj
    · intro y x _ _
      have hj : q.dn.testBit i = false := hj
      rw [hi] at hj; cases hj
    · next j hs =>
      obtain ⟨h1, h2, h3⟩ := src_some hs
      have hno := ins_zero h2
      by_cases e : i = j
      · subst e
        have : ∀ y, Comes (bk q.g) i y → y = i := fun y hy => by
          induction hy with
          | base => rfl
          | step _ hn ih => rw [ih, bk_iff, hno] at hn; cases hn
        intro y x hy hx
        rw [this y hy, bk_iff, hno] at hx
        cases hx
      · have hi2 : (goP q j).dn.testBit i = true := (less_nat h.dm h3).2 ⟨hi, e⟩
        have ih := col_back n _ (h.go h3) i hi2 hj
        have hgo : ∀ y, Comes (bk q.g) i y → y = j ∨ (y ≠ j ∧ Comes (bk (goP q j).g) i y) := fun y hy => by
          induction hy with
          | base => exact .inr ⟨e, .base⟩
          | @step a b _ hn ih2 =>
            rcases ih2 with rfl | ⟨h4, h5⟩
            · rw [bk_iff, hno] at hn; cases hn
            · by_cases e2 : b = j
              · exact .inl e2
              · refine .inr ⟨e2, h5.step ?_⟩
                rw [bk_iff] at hn ⊢
                exact (cut_edge h.fit.gk h3 _ _).2 ⟨hn, e2, h4⟩
        intro y x hy hx
        rcases hgo y hy with rfl | ⟨h4, h5⟩
        · rw [bk_iff, hno] at hx; cases hx
        · by_cases e2 : x = j
          · rw [e2]; exact h1
          · have h6 : bk (goP q j).g y x = true := by
              rw [bk_iff] at hx ⊢
              exact (cut_edge h.fit.gk h3 _ _).2 ⟨hx, e2, h4⟩
            exact ((less_nat h.dm h3).1 (ih y x h5 h6)).1

/-- If nothing is live, and nothing goes any more, nothing is there. -/
theorem SP.empty {q : PL} (h : SP q) (hs : srcP q = none) (hl : q.lv = 0) : q.dn = 0 ∧ q.g = G0 := by
  have hd : ∀ p i, pl q.o i = p → q.dn.testBit i = false := by
    intro p
    induction p using Nat.strongRecOn with
    | _ p ih =>
      intro i hp
      cases hi : q.dn.testBit i with
      | false => rfl
      | true =>
        have hi32 := h.t32 (.inr hi)
        obtain ⟨k, hk⟩ := ins_pos (src_none hs i hi32 hi)
        have hlt := ((sorted_iff h.fit.ln).1 h.fit.so).2 k i hk
        have hkd := ih (pl q.o k) (by omega) k rfl
        rcases (h.cut k i hk).1 with h1 | h1
        · rw [hl] at h1; simp at h1
        · rw [hkd] at h1; cases h1
  have hd0 : ∀ i, q.dn.testBit i = false := fun i => hd _ i rfl
  refine ⟨Nat.eq_of_testBit_eq fun i => by rw [hd0]; simp, ?_⟩
  apply List.ext_getElem?
  intro i
  by_cases hi : i < 32
  · have h0 : q.g.getD i 0 = 0 := by
      apply Nat.eq_of_testBit_eq
      intro k
      rw [Nat.zero_testBit]
      cases hk : (q.g.getD i 0).testBit k with
      | false => rfl
      | true =>
        have hk32 := h.lo i k hk
        have he : edge q.g i k = true := by unfold edge; rw [hk, decide_eq_true hi, decide_eq_true hk32]; rfl
        rcases (h.cut i k he).1 with h1 | h1
        · rw [hl] at h1; simp at h1
        · rw [hd0] at h1; cases h1
    have hlen : i < q.g.length := by rw [h.fit.gk.1]; exact hi
    rw [List.getD_eq_getElem?_getD, List.getElem?_eq_getElem hlen] at h0
    simp only [Option.getD_some] at h0
    rw [List.getElem?_eq_getElem hlen, h0]
    unfold G0
    rw [List.getElem?_replicate, if_pos hi]
  · rw [List.getElem?_eq_none (by rw [h.fit.gk.1]; omega), List.getElem?_eq_none (by unfold G0; rw [List.length_replicate]; omega)]

/-! ### What calls leave alone -/
theorem edge_keeps (q : PL) (a b : Int) : (edgeP q a b).1.sz = q.sz ∧ (edgeP q a b).1.ct = q.ct ∧ (edgeP q a b).1.lv = q.lv ∧ (edgeP q a b).1.dn = q.dn ∧ (edgeP q a b).1.ids = q.ids := by
  unfold edgeP
  split
  · exact ⟨rfl, rfl, rfl, rfl, rfl⟩
  · split
    · exact ⟨rfl, rfl, rfl, rfl, rfl⟩
    · split <;> exact ⟨rfl, rfl, rfl, rfl, rfl⟩
theorem end_keeps (q : PL) (s : Int) : (endP q s).1.sz = q.sz ∧ (endP q s).1.ct = q.ct ∧ (endP q s).1.g = q.g ∧ (endP q s).1.o = q.o ∧ (endP q s).1.ids = q.ids := by
  unfold endP
  split <;> exact ⟨rfl, rfl, rfl, rfl, rfl⟩

/-- An edge is refused just if it would close a way round, or one of both is not there. -/
theorem edge_told {q : PL} (h : SP q) (a b : Int) (hab : a ≠ b) (ha : hasN (takenP q) a = true) (hb : hasN (takenP q) b = true) :
    (putG q.g a b).2 = true ∧ ((freeN (putG q.g a b).1 = true → edgeP q a b = (aheadP q a b, 0) ∧ (aheadP q a b).g = (putG q.g a b).1) ∧ (freeN (putG q.g a b).1 = false → edgeP q a b = (q, 5))) := by
  obtain ⟨A, rfl, hA⟩ := has_tk ha
  obtain ⟨B, rfl, hB⟩ := has_tk hb
  have hput : (putG q.g (A : Int) (B : Int)).2 = true := by
    have hA32 := h.t32 hA
    have hB32 := h.t32 hB
    unfold putG
    have h1 : nodeN (A : Int) = true := by simp [nodeN]; omega
    have h2 : nodeN (B : Int) = true := by simp [nodeN]; omega
    rw [h1, h2]
    have : ((A : Int) != (B : Int)) = true := by simp only [bne_iff_ne, ne_eq]; exact hab
    rw [this]
    rfl
  have his := ins_is h.fit (A : Int) (B : Int)
  rw [hput, Bool.true_and] at his
  refine ⟨hput, fun hf => ?_, fun hf => ?_⟩
  · rw [hf] at his
    refine ⟨?_, (ins_graph h.fit _ _).1 his⟩
    unfold edgeP
    rw [if_neg hab, ha, hb, if_neg (by decide), if_pos his]
  · rw [hf] at his
    unfold edgeP
    rw [if_neg hab, ha, hb, if_neg (by decide), if_neg (by rw [his]; decide)]

/-- A new pool. -/
def newP (n : Int) : PL := ⟨n, G0, upto 32, 0, 0, List.replicate 32 0, 0⟩
def zeroP : PL := ⟨0, G0, List.replicate 32 0, 0, 0, List.replicate 32 0, 0⟩
theorem newS {n : Int} (h1 : 1 ≤ n) (h2 : n ≤ 32) : SP (newP n) := by
  refine ⟨h1, h2, Int.le_refl _, fit0, fun i k hk => ?_, by simp [newP], (by decide : (0 : Nat) < M64), (by decide : (0 : Nat) < M64), fun i hi => ?_, fun i hi => ?_, fun i hi => ?_, fun i k he => ?_⟩
  · have : (newP n).g.getD i 0 = 0 := by
      show G0.getD i 0 = 0
      unfold G0
      rw [List.getD_eq_getElem?_getD, List.getElem?_replicate]
      split <;> rfl
    rw [this] at hk; simp at hk
  · have hi : (0 : Nat).testBit i = true := hi; simp at hi
  · have hi : (0 : Nat).testBit i = true := hi; simp at hi
  · have hi : (0 : Nat).testBit i = true := hi.1; simp at hi
  · have he : edge G0 i k = true := he
    rw [edge0] at he; cases he
end Go.Proofs.YtaflihoopnjcgaaDoor

namespace Go.Proofs.YtaflihoopnjcgaaDoor
open Go Go.Dat

def Ga : List Nat := [0, 1, 0, 0, 0, 0, 0, 0, 0, 0, 0, 0, 0, 0, 0, 0, 0, 0, 0, 0, 0, 0, 0, 0, 0, 0, 0, 0, 0, 0, 0, 0]
def La : List Int := [1, 0, 2, 3, 4, 5, 6, 7, 8, 9, 10, 11, 12, 13, 14, 15, 16, 17, 18, 19, 20, 21, 22, 23, 24, 25, 26, 27, 28, 29, 30, 31]
def idsA (a b : Int) : List Int := [a, b, 0, 0, 0, 0, 0, 0, 0, 0, 0, 0, 0, 0, 0, 0, 0, 0, 0, 0, 0, 0, 0, 0, 0, 0, 0, 0, 0, 0, 0, 0]
theorem gokA : gok Ga := ⟨rfl, by decide⟩
theorem ga1 : insG G0 (upto 32) 1 0 = (Ga, La, true) := by
  have h1 : putG G0 1 0 = (Ga, true) := by decide +kernel
  have h2 : sortedN G0 (upto 32) = true := by decide +kernel
  have h3 : ¬ (upto 32).getD (1 : Int).toNat 0 < (upto 32).getD (0 : Int).toNat 0 := by decide +kernel
  have h4 : foreN G0 (upto 32) (1 : Int).toNat (0 : Int).toNat = 1 := one_set (by decide) (fun j => bit_only (a := 0)) fun k => by
    unfold nxF nxf
    simp only [outs_bit, edge0, Bool.false_and]
  have h5 : hindN G0 (upto 32) (1 : Int).toNat (0 : Int).toNat = 2 := one_set (by decide) (fun j => bit_only (a := 1)) fun k => by
    unfold nxH nxf
    simp only [ins_bit, edge0, Bool.false_and]
  have h6 : newO (upto 32) 2 1 = La := by decide +kernel
  unfold insG
  rw [h1, h2, if_neg (by decide), if_neg h3, h4, h5, h6]
  rfl
theorem ga2 : insG Ga La 0 1 = (Ga, La, false) := by
  have h1 : (putG Ga 0 1).2 = true := by decide +kernel
  have h2 : sortedN Ga La = true := by decide +kernel
  have h3 : ¬ La.getD (0 : Int).toNat 0 < La.getD (1 : Int).toNat 0 := by decide +kernel
  have h4 : hasN (foreN Ga La (0 : Int).toNat (1 : Int).toNat) 0 = true := by
    have : (foreN Ga La 0 1).testBit 0 = true := setOf_bit.2 ⟨by decide, Comes.base.step (by decide +kernel)⟩
    show (small 0 && (foreN Ga La 0 1).testBit 0) = true
    rw [this]
    rfl
  unfold insG
  rw [h1, h2, if_neg (by decide), if_neg h3, if_pos h4]

def qa1 : PL := ⟨2, G0, upto 32, 1, 0, idsA 1 0, 1⟩
def qa2 : PL := ⟨2, G0, upto 32, 3, 0, idsA 1 2, 2⟩
def qa3 : PL := ⟨2, Ga, La, 3, 0, idsA 1 2, 2⟩
def qa4 : PL := ⟨2, Ga, La, 1, 2, idsA 1 2, 2⟩
def qa5 : PL := ⟨2, G0, La, 1, 0, idsA 1 0, 2⟩
theorem ab1 : beginP (newP 2) = (qa1, 0, 0) := by
  have h1 : freeP (newP 2) = 3 := by decide +kernel
  have h2 : itemsL (newP 2).dn = [] := by decide +kernel
  have h3 : firstN 3 = 0 := by decide +kernel
  unfold beginP
  rw [h1, if_neg (by decide), h2, h3]
  rfl
theorem ab2 : beginP qa1 = (qa2, 1, 0) := by
  have h1 : freeP qa1 = 2 := by decide +kernel
  have h2 : itemsL qa1.dn = [] := by decide +kernel
  have h3 : firstN 2 = 1 := by decide +kernel
  unfold beginP
  rw [h1, if_neg (by decide), h2, h3]
  rfl
theorem ab3 : beginP qa2 = (qa2, 0, 4) := by
  have h1 : freeP qa2 = 0 := by decide +kernel
  unfold beginP
  rw [if_pos h1]
theorem ae1 : edgeP qa2 1 0 = (qa3, 0) := by
  have h1 : hasN (takenP qa2) 1 = true := by decide +kernel
  have h2 : hasN (takenP qa2) 0 = true := by decide +kernel
  have h3 : insG qa2.g qa2.o 1 0 = (Ga, La, true) := ga1
  unfold edgeP aheadP
  rw [if_neg (by decide), h1, h2, if_neg (by decide), h3, if_pos rfl]
  rfl
theorem ae2 : edgeP qa3 0 1 = (qa3, 5) := by
  have h1 : hasN (takenP qa3) 1 = true := by decide +kernel
  have h2 : hasN (takenP qa3) 0 = true := by decide +kernel
  have h3 : insG qa3.g qa3.o 0 1 = (Ga, La, false) := ga2
  unfold edgeP
  rw [if_neg (by decide), h1, h2, if_neg (by decide), h3, if_neg (by decide)]
theorem an1 : endP qa3 1 = (qa4, 0) := by
  have h1 : hasN qa3.lv 1 = true := by decide +kernel
  have h2 : lessN qa3.lv 1 = 1 := by decide +kernel
  have h3 : withN qa3.dn 1 = 2 := by decide +kernel
  unfold endP
  rw [h1, if_neg (by decide), h2, h3]
  rfl
theorem ac1 : colP 64 qa4 = (qa5, [2]) := by
  have h1 : srcP qa4 = some 1 := by decide +kernel
  have h2 : goP qa4 1 = qa5 := by
    have e1 : cutG qa4.g 1 = G0 := by decide +kernel
    have e2 : lessN qa4.dn ((1 : Nat) : Int) = 0 := by decide +kernel
    unfold goP
    rw [e1, e2]
    rfl
  have h3 : srcP qa5 = none := by decide +kernel
  have h4 : colP 63 qa5 = (qa5, []) := by unfold colP; rw [h3]
  show colP (63 + 1) qa4 = _
  unfold colP
  rw [h1]
  simp only [h2, h4]
  rfl
theorem spA2 : SP qa2 := by
  have h := (newS (n := 2) (by decide) (by decide)).beginS
  rw [ab1] at h
  have h := h.beginS
  rw [ab2] at h
  exact h
theorem spA1 : SP qa1 := by
  have h := (newS (n := 2) (by decide) (by decide)).beginS
  rw [ab1] at h
  exact h
theorem spA3 : SP qa3 := by
  have h := spA2.edgeS 1 0
  rw [ae1] at h
  exact h
theorem spA4 : SP qa4 := by
  have h := spA3.endS 1
  rw [an1] at h
  exact h
end Go.Proofs.YtaflihoopnjcgaaDoor

namespace Go.Proofs.YtaflihoopnjcgaaDoor
open Go Go.Dat

/-- An act: its kind, and two numbers. -/
def ad (c : Int × Int × Int) : D := .st [.v (.int .u8 c.1), .v (.int .i64 c.2.1), .v (.int .i64 c.2.2)]
def ads (l : List (Int × Int × Int)) : List D := l.map ad
theorem ads_len (l : List (Int × Int × Int)) : (ads l).length = l.length := by simp [ads]
noncomputable def doesP (q : PL) (c : Int × Int × Int) : PL :=
  if c.1 % 6 = 2 ∨ c.1 % 6 = 3 then (edgeP q c.2.1 c.2.2).1 else if c.1 % 6 = 4 then (endP q c.2.1).1 else if c.1 % 6 = 5 then (colP 64 q).1 else (beginP q).1
noncomputable def sameP (q m : PL) (c : Int × Int × Int) : Bool :=
  if c.1 % 6 = 2 ∨ c.1 % 6 = 3 then (edgeP q c.2.1 c.2.2).2 == (edgeP m c.2.1 c.2.2).2 else if c.1 % 6 = 4 then (endP q c.2.1).2 == (endP m c.2.1).2 else if c.1 % 6 = 5 then decide ((colP 64 q).2 = (colP 64 m).2) else (beginP q).2.1 == (beginP m).2.1 && (beginP q).2.2 == (beginP m).2.2
theorem sameP_self (q : PL) (c : Int × Int × Int) : sameP q q c = true := by
  unfold sameP
  split
  · simp
  · split
    · simp
    · split
      · simp
      · simp

theorem SP.does {q : PL} (h : SP q) (c : Int × Int × Int) : SP (doesP q c) := by
  unfold doesP
  split
  · exact h.edgeS _ _
  · split
    · exact h.endS _
    · split
      · exact SP.col 64 q h
      · exact h.beginS
theorem SP.does_ct {q : PL} (h : SP q) (c : Int × Int × Int) : (doesP q c).sz = q.sz ∧ ((doesP q c).ct = q.ct ∨ (freeP q ≠ 0 ∧ doesP q c = (beginP q).1 ∧ (doesP q c).ct = q.ct + 1)) := by
  unfold doesP
  split
  · exact ⟨(edge_keeps q _ _).1, .inl (edge_keeps q _ _).2.1⟩
  · split
    · exact ⟨(end_keeps q _).1, .inl (end_keeps q _).2.1⟩
    · split
      · obtain ⟨_, h2, h3, _⟩ := col_keeps 64 q h
        exact ⟨h2, .inl h3⟩
      · by_cases h0 : freeP q = 0
        · have : beginP q = (q, 0, 4) := by unfold beginP; rw [if_pos h0]
          rw [this]
          exact ⟨rfl, .inl rfl⟩
        · obtain ⟨i, _, _, _, hb⟩ := h.begin h0
          exact ⟨hb.sz, .inr ⟨h0, rfl, hb.ct⟩⟩

/-- A pool of n slots, of which at most k began. -/
structure AP (n : Int) (k : Nat) (q : PL) : Prop where
  sp : SP q
  sz : q.sz = n
  ct : q.ct ≤ k
theorem AP.new {n : Int} (h1 : 1 ≤ n) (h2 : n ≤ 32) : AP n 0 (newP n) := ⟨newS h1 h2, rfl, by show (0 : Int) ≤ _; omega⟩
theorem AP.step {n : Int} {k : Nat} {q : PL} (h : AP n k q) (c : Int × Int × Int) : AP n (k + 1) (doesP q c) := by
  obtain ⟨h1, h2⟩ := h.sp.does_ct c
  have h3 := h.ct
  refine ⟨h.sp.does c, h1.trans h.sz, ?_⟩
  rcases h2 with h2 | ⟨_, _, h2⟩ <;> omega
noncomputable def actsP (n : Int) (l : List (Int × Int × Int)) : PL := l.foldl doesP (newP n)
theorem acts_snoc (n : Int) (l : List (Int × Int × Int)) (c : Int × Int × Int) : actsP n (l ++ [c]) = doesP (actsP n l) c := by
  unfold actsP
  rw [List.foldl_append]
  rfl
theorem acts_ok {n : Int} (h1 : 1 ≤ n) (h2 : n ≤ 32) (l : List (Int × Int × Int)) : AP n l.length (actsP n l) := by
  unfold actsP
  have : ∀ (l : List (Int × Int × Int)) (k : Nat) (q : PL), AP n k q → AP n (k + l.length) (l.foldl doesP q) := by
    intro l
    induction l with
    | nil => exact fun k q h => h
    | cons c l ih =>
      intro k q h
      have := ih (k + 1) _ (h.step c)
      rw [List.length_cons, show k + (l.length + 1) = k + 1 + l.length by omega]
      exact this
  have h := this l 0 _ (AP.new h1 h2)
  rwa [Nat.zero_add] at h

theorem begin_zero : beginP zeroP = (zeroP, 0, 4) := by
  have h0 : freeP zeroP = 0 := by decide
  unfold beginP
  rw [if_pos h0]
theorem has0 (a : Int) : hasN 0 a = false := by
  unfold hasN
  simp
theorem edge_zero (a b : Int) : edgeP zeroP a b = (zeroP, if a = b then 2 else 3) := by
  unfold edgeP
  split
  · rfl
  · rw [show takenP zeroP = 0 from rfl, has0, has0]
    rfl
theorem end_zero (s : Int) : endP zeroP s = (zeroP, 3) := by
  unfold endP
  rw [show zeroP.lv = 0 from rfl, has0]
  rfl
theorem src_zero : srcP zeroP = none := by
  unfold srcP
  rw [show itemsL zeroP.dn = [] by decide]
  rfl
theorem col_zero (n : Nat) : colP n zeroP = (zeroP, []) := by
  cases n with
  | zero => rfl
  | succ n =>
    unfold colP
    rw [src_zero]
theorem does_zero (c : Int × Int × Int) : doesP zeroP c = zeroP := by
  unfold doesP
  rw [edge_zero, end_zero, col_zero, begin_zero]
  split
  · rfl
  · split
    · rfl
    · split <;> rfl
end Go.Proofs.YtaflihoopnjcgaaDoor

namespace Go.Proofs.YtaflihoopnjcgaaDoor
open Go Go.Dat

theorem has_at64 {s a : Nat} (ha : a < 64) : hasN s (a : Int) = s.testBit a := has_bit s a ha

/-! ### Numbers -/
theorem num_told {q : PL} (h : SP q) (c : Int × Int × Int) (hne : (doesP q c).ct ≠ q.ct) :
    ∃ i : Nat, i < 32 ∧ firstN (andn (slotsP q.sz) (q.lv ||| q.dn)) = i ∧ (doesP q c).ct = q.ct + 1 ∧ (doesP q c).ids.getD i 0 = q.ct + 1 ∧ hasN (doesP q c).lv (i : Int) = true := by
  obtain ⟨_, h2⟩ := h.does_ct c
  rcases h2 with h2 | ⟨h0, h2, h3⟩
  · exact absurd h2 hne
  obtain ⟨i, e, hi, _, hb⟩ := h.begin h0
  refine ⟨i, hi, e, h3, ?_, ?_⟩
  · rw [h2, hb.ids, List.getD_eq_getElem?_getD, List.getElem?_set_self (by rw [h.ids]; exact hi)]
    rfl
  · rw [h2, hb.lv, has_at64 (by omega), with_nat hi]
    exact .inr rfl

/-! ### Room -/
/-- All nodes from which a way comes. -/
noncomputable def backN (g : List Nat) (a : Nat) : Nat := setOf (Comes1 (nxf (fun i => insN g (i : Int)) fun _ => true) a)
theorem items32 {s i : Nat} (hs : ∀ k, s.testBit k = true → k < 32) (hi : i ∈ itemsL s) : i < 32 := hs i (itemsL_mem.1 hi).2
theorem SP.dn32 {q : PL} (h : SP q) {i : Nat} (hi : q.dn.testBit i = true) : i < 32 := h.t32 (.inr hi)
theorem SP.lv32 {q : PL} (h : SP q) {i : Nat} (hi : q.lv.testBit i = true) : i < 32 := h.t32 (.inl hi)
theorem col_done {q : PL} (h : SP q) : srcP (colP 64 q).1 = none := col_end 64 q h (itemsL_le q.dn)
theorem room_over {q : PL} (h : SP q) {i : Nat} (hi : i ∈ itemsL (colP 64 q).1.dn) : insN (colP 64 q).1.g (i : Int) ≠ 0 :=
  src_none (col_done h) i ((SP.col 64 q h).dn32 (itemsL_mem.1 hi).2) (itemsL_mem.1 hi).2
theorem room_back {q : PL} (h : SP q) {i : Nat} (hi : i ∈ itemsL (andn q.dn (colP 64 q).1.dn)) : i < 32 ∧ backN q.g i &&& q.lv = 0 := by
  have hi2 := (itemsL_mem.1 hi).2
  rw [andn_bit h.dm, Bool.and_eq_true, Bool.not_eq_true'] at hi2
  refine ⟨h.dn32 hi2.1, ?_⟩
  refine Nat.eq_of_testBit_eq fun j => ?_
  rw [Nat.testBit_and, Nat.zero_testBit]
  by_cases hj : (backN q.g i).testBit j = true
  · rw [hj, Bool.true_and]
    unfold backN at hj
    rw [setOf_bit] at hj
    obtain ⟨_, k, h1, h2⟩ := hj
    have := col_back 64 q h i hi2.1 hi2.2 k j h1 h2
    cases hl : q.lv.testBit j with
    | false => rfl
    | true => exact absurd ⟨hl, this⟩ (h.dis j)
  · rw [Bool.not_eq_true] at hj
    rw [hj, Bool.false_and]
noncomputable def endsP (q : PL) (l : List Nat) : PL := l.foldl (fun (r : PL) (i : Nat) => (endP r (i : Int)).1) q
theorem ends_snoc (q : PL) (l : List Nat) (i : Nat) : endsP q (l ++ [i]) = (endP (endsP q l) (i : Int)).1 := by
  unfold endsP
  rw [List.foldl_append]
  rfl
theorem ends_ok {q : PL} (h : SP q) (l : List Nat) : SP (endsP q l) := by
  unfold endsP
  induction l generalizing q with
  | nil => exact h
  | cons i l ih => exact ih (h.endS _)
theorem ends_lv {q : PL} (h : SP q) (l : List Nat) (hl : ∀ i ∈ l, i < 64) (j : Nat) : (endsP q l).lv.testBit j = true → q.lv.testBit j = true ∧ j ∉ l := by
  unfold endsP
  induction l generalizing q with
  | nil => exact fun h => ⟨h, by simp⟩
  | cons i l ih =>
    intro hj
    obtain ⟨h1, h2⟩ := ih (h.endS (i : Int)) (fun i hi => hl i (by simp [hi])) hj
    have hi64 : i < 64 := hl i (by simp)
    unfold endP at h1
    split at h1
    · next hn =>
      refine ⟨h1, ?_⟩
      simp only [List.mem_cons, not_or]
      refine ⟨fun e => ?_, h2⟩
      subst e
      rw [has_at64 hi64, h1] at hn
      cases hn
    · have h1' : (lessN q.lv (i : Int)).testBit j = true := h1
      rw [lessN_bit _ h.lm, bit_at hi64] at h1'
      simp only [Bool.and_eq_true, Bool.not_eq_true', decide_eq_false_iff_not] at h1'
      refine ⟨h1'.1, ?_⟩
      simp only [List.mem_cons, not_or]
      exact ⟨fun e => h1'.2 e.symm, h2⟩
theorem ends_all {q : PL} (h : SP q) : (endsP q (itemsL q.lv)).lv = 0 := by
  refine Nat.eq_of_testBit_eq fun j => ?_
  rw [Nat.zero_testBit]
  cases hj : (endsP q (itemsL q.lv)).lv.testBit j with
  | false => rfl
  | true =>
    obtain ⟨h1, h2⟩ := ends_lv h _ (fun i hi => (itemsL_mem.1 hi).1) j hj
    exact absurd (itemsL_mem.2 ⟨by have := h.lv32 h1; omega, h1⟩) h2
theorem room_empty {q : PL} (h : SP q) : (colP 64 (endsP q (itemsL q.lv))).1.dn = 0 ∧ (colP 64 (endsP q (itemsL q.lv))).1.lv = 0 ∧ (colP 64 (endsP q (itemsL q.lv))).1.g = G0 := by
  have h1 := ends_ok h (itemsL q.lv)
  have h2 : (colP 64 (endsP q (itemsL q.lv))).1.lv = 0 := (col_keeps 64 _ h1).1.trans (ends_all h)
  obtain ⟨h3, h4⟩ := (SP.col 64 _ h1).empty (col_done h1) h2
  exact ⟨h3, h2, h4⟩

/-! ### Time -/
theorem time_full {q : PL} (h : SP q) (h0 : freeP q = 0) : takenP q = 2 ^ q.sz.toNat - 1 := by
  refine Nat.eq_of_testBit_eq fun j => ?_
  rw [Nat.testBit_two_pow_sub_one]
  by_cases hj : (j : Int) < q.sz
  · rw [(tk_bit q j).2 (h.full h0 j hj), decide_eq_true (by omega)]
  · rw [decide_eq_false (by omega)]
    cases hb : (takenP q).testBit j with
    | false => rfl
    | true =>
      rcases (tk_bit q j).1 hb with h1 | h1
      · exact absurd (h.tl j h1) hj
      · exact absurd (h.td j h1) hj
theorem time_told {q : PL} (h : SP q) (h0 : freeP q ≠ 0) : ∃ i : Nat, i < 32 ∧ beginP q = ((beginP q).1, (i : Int), 0) ∧ SP (beginP q).1 ∧ (∀ k ∈ itemsL q.dn, k < 32 ∧ edge (beginP q).1.g k i = true ∧ (beginP q).1.o.getD k 0 < (beginP q).1.o.getD i 0)
    ∧ hasN (beginP q).1.lv (i : Int) = true ∧ (beginP q).1.ids.getD i 0 = q.ct + 1 ∧ hasN (takenP q) (i : Int) = false := by
  obtain ⟨i, e, hi, hbg, hb⟩ := h.begin h0
  refine ⟨i, hi, by rw [hbg], hb.sp, fun k hk => ?_, ?_, ?_, ?_⟩
  · have hd := (itemsL_mem.1 hk).2
    have he := hb.edges k hd
    have hs := ((sorted_iff hb.sp.fit.ln).1 hb.sp.fit.so).2 k i he
    unfold pl at hs
    exact ⟨h.dn32 hd, he, by omega⟩
  · rw [hb.lv, has_at64 (by omega), with_nat hi]
    exact .inr rfl
  · rw [hb.ids, List.getD_eq_getElem?_getD, List.getElem?_set_self (by rw [h.ids]; exact hi)]
    rfl
  · rw [has_at64 (by omega)]
    cases hk : (takenP q).testBit i with
    | false => rfl
    | true => exact absurd ((tk_bit q i).1 hk) hb.free
end Go.Proofs.YtaflihoopnjcgaaDoor

namespace Go.Proofs.YtaflihoopnjcgaaDoor
open Go Go.Dat

/-- The numbers of those that are there are unlike. -/
structure Idp (q : PL) : Prop where
  le : ∀ i, Tk q i → q.ids.getD i 0 ≤ q.ct
  inj : ∀ i j, Tk q i → Tk q j → q.ids.getD i 0 = q.ids.getD j 0 → i = j
theorem Idp.of {q r : PL} (h : Idp q) (ht : ∀ i, Tk r i → Tk q i) (hi : r.ids = q.ids) (hc : r.ct = q.ct) : Idp r :=
  ⟨fun i k => by rw [hi, hc]; exact h.le i (ht i k), fun i j k1 k2 e => h.inj i j (ht i k1) (ht j k2) (by rw [hi] at e; exact e)⟩
theorem Idp.new (n : Int) : Idp (newP n) := by
  have h : ∀ i, ¬ Tk (newP n) i := fun i h => by
    unfold Tk at h
    rw [show (newP n).lv = 0 from rfl, show (newP n).dn = 0 from rfl, Nat.zero_testBit] at h
    rcases h with h | h <;> cases h
  exact ⟨fun i k => absurd k (h i), fun i j k => absurd k (h i)⟩
theorem Idp.edge {q : PL} (h : Idp q) (a b : Int) : Idp (edgeP q a b).1 := by
  obtain ⟨_, h2, h3, h4, h5⟩ := edge_keeps q a b
  exact h.of (fun i k => by unfold Tk at k ⊢; rwa [h3, h4] at k) h5 h2
theorem Idp.ends {q : PL} (hs : SP q) (h : Idp q) (s : Int) : Idp (endP q s).1 := by
  obtain ⟨_, h2, _, _, h5⟩ := end_keeps q s
  refine h.of (fun i k => ?_) h5 h2
  by_cases hh : hasN q.lv s = true
  · have e : endP q s = ({ q with lv := lessN q.lv s, dn := withN q.dn s }, 0) := by unfold endP; rw [if_neg (by rw [hh]; decide)]
    rw [e] at k
    have hsm : small s = true := by unfold hasN at hh; rw [Bool.and_eq_true] at hh; exact hh.1
    obtain ⟨S, rfl, hS⟩ : ∃ S : Nat, s = S ∧ S < 64 := by
      unfold small at hsm
      simp only [Bool.and_eq_true, decide_eq_true_eq] at hsm
      exact ⟨s.toNat, by omega, by omega⟩
    rcases k with k | k
    · refine .inl ?_
      have k' : (lessN q.lv (S : Int)).testBit i = true := k
      rw [lessN_bit _ hs.lm, Bool.and_eq_true] at k'
      exact k'.1
    · have k' : (withN q.dn (S : Int)).testBit i = true := k
      rw [with_bit hS, Bool.or_eq_true, decide_eq_true_eq] at k'
      rcases k' with k' | k'
      · exact .inr k'
      · refine .inl ?_
        rw [has_at64 hS] at hh
        rw [← k']; exact hh
  · have e : endP q s = (q, 3) := by unfold endP; rw [if_pos (by rw [Bool.not_eq_true] at hh; rw [hh]; rfl)]
    rw [e] at k
    exact k
theorem Idp.begin {q : PL} (hs : SP q) (h : Idp q) : Idp (beginP q).1 := by
  by_cases h0 : freeP q = 0
  · have : beginP q = (q, 0, 4) := by unfold beginP; rw [if_pos h0]
    rw [this]; exact h
  obtain ⟨i, _, hi, _, hb⟩ := hs.begin h0
  have hil : i < q.ids.length := by rw [hs.ids]; exact hi
  have tk : ∀ j, Tk (beginP q).1 j → Tk q j ∨ j = i := fun j k => by
    unfold Tk at k
    rw [hb.lv, hb.dn, with_nat hi] at k
    rcases k with (k | k) | k
    · exact .inl (.inl k)
    · exact .inr k
    · exact .inl (.inr k)
  have ati : (beginP q).1.ids.getD i 0 = q.ct + 1 := by
    rw [hb.ids, List.getD_eq_getElem?_getD, List.getElem?_set_self hil]; rfl
  have atj : ∀ j, j ≠ i → (beginP q).1.ids.getD j 0 = q.ids.getD j 0 := fun j hj => by
    rw [hb.ids, List.getD_eq_getElem?_getD, List.getElem?_set_ne (Ne.symm hj), ← List.getD_eq_getElem?_getD]
  refine ⟨fun j k => ?_, fun j l k1 k2 e => ?_⟩
  · rw [hb.ct]
    by_cases hj : j = i
    · rw [hj, ati]; omega
    · rw [atj j hj]
      have := h.le j ((tk j k).resolve_right hj)
      omega
  · by_cases hj : j = i <;> by_cases hl : l = i
    · rw [hj, hl]
    · rw [hj, ati, atj l hl] at e
      have := h.le l ((tk l k2).resolve_right hl)
      omega
    · rw [hl, ati, atj j hj] at e
      have := h.le j ((tk j k1).resolve_right hj)
      omega
    · rw [atj j hj, atj l hl] at e
      exact h.inj j l ((tk j k1).resolve_right hj) ((tk l k2).resolve_right hl) e

/-- Acts, but for those that let go. -/
noncomputable def stepP (q : PL) (c : Int × Int × Int) : PL := if c.1 % 6 = 5 then q else doesP q c
structure GP (n : Int) (k : Nat) (q : PL) : Prop where
  ap : AP n k q
  id : Idp q
theorem GP.new {n : Int} (h1 : 1 ≤ n) (h2 : n ≤ 32) : GP n 0 (newP n) := ⟨.new h1 h2, .new n⟩
theorem AP.le {n : Int} {k : Nat} {q : PL} (h : AP n k q) : AP n (k + 1) q := ⟨h.sp, h.sz, by have := h.ct; omega⟩
theorem GP.step {n : Int} {k : Nat} {q : PL} (h : GP n k q) (c : Int × Int × Int) : GP n (k + 1) (stepP q c) := by
  unfold stepP
  split
  · exact ⟨h.ap.le, h.id⟩
  · next h5 =>
    refine ⟨h.ap.step c, ?_⟩
    unfold doesP
    split
    · exact h.id.edge _ _
    · split
      · exact h.id.ends h.ap.sp _
      · exact h.id.begin h.ap.sp
noncomputable def stepsP (n : Int) (l : List (Int × Int × Int)) : PL := l.foldl stepP (newP n)
theorem steps_snoc (n : Int) (l : List (Int × Int × Int)) (c : Int × Int × Int) : stepsP n (l ++ [c]) = stepP (stepsP n l) c := by
  unfold stepsP
  rw [List.foldl_append]
  rfl
theorem steps_ok {n : Int} (h1 : 1 ≤ n) (h2 : n ≤ 32) (l : List (Int × Int × Int)) : GP n l.length (stepsP n l) := by
  unfold stepsP
  have : ∀ (l : List (Int × Int × Int)) (k : Nat) (q : PL), GP n k q → GP n (k + l.length) (l.foldl stepP q) := by
    intro l
    induction l with
    | nil => exact fun k q h => h
    | cons c l ih =>
      intro k q h
      have := ih (k + 1) _ (h.step c)
      rw [List.length_cons, show k + (l.length + 1) = k + 1 + l.length by omega]
      exact this
  have h := this l 0 _ (GP.new h1 h2)
  rwa [Nat.zero_add] at h

/-! ### The slots that go -/
def colI : Nat → PL → List Nat
  | 0, _ => []
  | n + 1, q => match srcP q with
    | none => []
    | some i => i :: colI n (goP q i)
theorem go_ids {q : PL} {i j : Nat} (h : j ≠ i) : (goP q i).ids.getD j 0 = q.ids.getD j 0 := by
  show (q.ids.set i 0).getD j 0 = _
  rw [List.getD_eq_getElem?_getD, List.getElem?_set_ne (Ne.symm h), ← List.getD_eq_getElem?_getD]
theorem colI_dn : ∀ (n : Nat) (q : PL), SP q → ∀ i ∈ colI n q, q.dn.testBit i = true
  | 0, _, _, _, h => by cases h
  | n + 1, q, hs, j, h => by
    unfold colI at h
    split at h
    · cases h
    · next i hi =>
      obtain ⟨h1, _, h3⟩ := src_some hi
      rcases List.mem_cons.1 h with rfl | h
      · exact h1
      · exact ((less_nat hs.dm h3).1 (colI_dn n _ (hs.go h3) j h)).1
theorem colI_not {n : Nat} {q : PL} (hs : SP q) {i : Nat} (hi : i < 32) : i ∉ colI n (goP q i) := fun h => ((less_nat hs.dm hi).1 (colI_dn n _ (hs.go hi) i h)).2 rfl
theorem colI_ids : ∀ (n : Nat) (q : PL), SP q → (colP n q).2 = (colI n q).map fun i => q.ids.getD i 0
  | 0, _, _ => rfl
  | n + 1, q, hs => by
    cases hi : srcP q with
    | none =>
      have e1 : colP (n + 1) q = (q, []) := by unfold colP; rw [hi]
      have e2 : colI (n + 1) q = [] := by unfold colI; rw [hi]
      rw [e1, e2]
      rfl
    | some i =>
      have e1 : colP (n + 1) q = ((colP n (goP q i)).1, q.ids.getD i 0 :: (colP n (goP q i)).2) := by
        conv => lhs; unfold colP
        rw [hi]
      have e2 : colI (n + 1) q = i :: colI n (goP q i) := by
        conv => lhs; unfold colI
        rw [hi]
      have h3 := (src_some hi).2.2
      rw [e1, e2, List.map_cons]
      show q.ids.getD i 0 :: (colP n (goP q i)).2 = _
      rw [colI_ids n _ (hs.go h3)]
      congr 1
      refine List.map_congr_left fun j hj => go_ids fun e => ?_
      subst e
      exact colI_not hs h3 hj
theorem colI_nodup : ∀ (n : Nat) (q : PL), SP q → (colI n q).Nodup
  | 0, _, _ => List.nodup_nil
  | n + 1, q, hs => by
    unfold colI
    split
    · exact List.nodup_nil
    · next i hi =>
      have h3 := (src_some hi).2.2
      exact List.nodup_cons.2 ⟨colI_not hs h3, colI_nodup n _ (hs.go h3)⟩
/-- Nothing goes ahead of what is ahead of it. -/
theorem colI_order : ∀ (n : Nat) (q : PL), SP q → ∀ a b, edge q.g a b = true → b ∈ colI n q → ∃ l1 l2, colI n q = l1 ++ b :: l2 ∧ a ∈ l1
  | 0, _, _, _, _, _, h => by cases h
  | n + 1, q, hs, a, b, he, h => by
    unfold colI at h ⊢
    split at h
    · cases h
    · next i hi =>
      obtain ⟨_, h2, h3⟩ := src_some hi
      rcases List.mem_cons.1 h with rfl | h
      · rw [ins_zero h2] at he; cases he
      · have hbi : b ≠ i := fun e => by subst e; exact colI_not hs h3 h
        by_cases ha : a = i
        · obtain ⟨l1, l2, e⟩ := List.append_of_mem h
          exact ⟨i :: l1, l2, by rw [e]; rfl, by rw [ha]; exact List.mem_cons_self⟩
        · obtain ⟨l1, l2, e, hm⟩ := colI_order n _ (hs.go h3) a b ((cut_edge hs.fit.gk h3 a b).2 ⟨he, ha, hbi⟩) h
          exact ⟨i :: l1, l2, by rw [e]; rfl, List.mem_cons_of_mem _ hm⟩

/-! ### The map of places -/
def mFrom : Nat → List Int → List (Int × D)
  | _, [] => []
  | n, x :: l => (x, .v (.int .i64 ((n + 1 : Nat) : Int))) :: mFrom (n + 1) l
/-- The place of a number in a row, from n on; 0: there is none. -/
def plc : Nat → List Int → Int → Int
  | _, [], _ => 0
  | n, x :: l, i => if i = x then ((n + 1 : Nat) : Int) else plc (n + 1) l i
theorem mget_from : ∀ (l : List Int) (n : Nat) (i : Int), mget (mFrom n l) i = if i ∈ l then some (.v (.int .i64 (plc n l i))) else none
  | [], _, _ => by simp [mFrom, mget]
  | x :: l, n, i => by
    unfold mFrom mget plc
    by_cases h : i = x
    · simp [h]
    · rw [if_neg h, if_neg h, mget_from l (n + 1) i]
      simp [h]
theorem mput_from : ∀ (l : List Int) (n : Nat) (i : Int), i ∉ l → mput (mFrom n l) i (.v (.int .i64 ((n + l.length + 1 : Nat) : Int))) = mFrom n (l ++ [i])
  | [], _, _, _ => rfl
  | x :: l, n, i, h => by
    rw [List.mem_cons, not_or] at h
    have ih := mput_from l (n + 1) i h.2
    unfold mFrom mput
    rw [if_neg h.1, List.cons_append]
    show _ = (x, _) :: mFrom (n + 1) (l ++ [i])
    rw [← ih, List.length_cons]
    congr 4
    omega
theorem plc_zero : ∀ (l : List Int) (n : Nat) (i : Int), i ∉ l → plc n l i = 0
  | [], _, _, _ => rfl
  | x :: l, n, i, h => by
    rw [List.mem_cons, not_or] at h
    unfold plc
    rw [if_neg h.1]
    exact plc_zero l (n + 1) i h.2
theorem plc_mem : ∀ (l1 : List Int) (l2 : List Int) (n : Nat) (i : Int), i ∈ l1 → (n : Int) < plc n (l1 ++ l2) i ∧ plc n (l1 ++ l2) i ≤ n + l1.length
  | [], _, _, _, h => by cases h
  | x :: l1, l2, n, i, h => by
    rw [List.cons_append]
    unfold plc
    by_cases e : i = x
    · rw [if_pos e, List.length_cons]; omega
    · rw [if_neg e]
      have := plc_mem l1 l2 (n + 1) i ((List.mem_cons.1 h).resolve_left e)
      rw [List.length_cons]
      omega
theorem plc_at : ∀ (l1 : List Int) (l2 : List Int) (n : Nat) (i : Int), i ∉ l1 → plc n (l1 ++ i :: l2) i = ((n + l1.length + 1 : Nat) : Int)
  | [], _, n, i, _ => by
    rw [List.nil_append]
    unfold plc
    rw [if_pos rfl]
    rfl
  | x :: l1, l2, n, i, h => by
    rw [List.mem_cons, not_or] at h
    rw [List.cons_append]
    unfold plc
    rw [if_neg h.1, plc_at l1 l2 (n + 1) i h.2, List.length_cons]
    omega

/-- The numbers of those that go. -/
noncomputable def goneP (q : PL) : List Int := (colP 64 q).2
theorem gone_nodup {q : PL} (hs : SP q) (hi : Idp q) : (goneP q).Nodup := by
  unfold goneP
  rw [colI_ids 64 q hs]
  unfold List.Nodup
  rw [List.pairwise_map]
  refine (colI_nodup 64 q hs).imp_of_mem fun {a b} ha hb hne e => hne ?_
  exact hi.inj a b (.inr (colI_dn 64 q hs a ha)) (.inr (colI_dn 64 q hs b hb)) e
theorem goes_told {q : PL} (hs : SP q) (hi : Idp q) {a b : Nat} (_ha : q.dn.testBit a = true) (hb : q.dn.testBit b = true) (he : edge q.g a b = true) :
    plc 0 (goneP q) (q.ids.getD b 0) = 0 ∨ (0 < plc 0 (goneP q) (q.ids.getD a 0) ∧ plc 0 (goneP q) (q.ids.getD a 0) ≤ plc 0 (goneP q) (q.ids.getD b 0)) := by
  have hg : goneP q = (colI 64 q).map fun i => q.ids.getD i 0 := colI_ids 64 q hs
  by_cases hm : b ∈ colI 64 q
  · refine .inr ?_
    obtain ⟨l1, l2, e, h1⟩ := colI_order 64 q hs a b he hm
    rw [hg, e, List.map_append, List.map_cons]
    have hnb : q.ids.getD b 0 ∉ l1.map fun i => q.ids.getD i 0 := fun h => by
      obtain ⟨c, hc, hce⟩ := List.mem_map.1 h
      have hcd := colI_dn 64 q hs c (by rw [e]; exact List.mem_append_left _ hc)
      have := hi.inj c b (.inr hcd) (.inr hb) hce
      subst this
      have hn := colI_nodup 64 q hs
      rw [e] at hn
      exact (List.nodup_append.1 hn).2.2 c hc c List.mem_cons_self rfl
    have p1 := plc_mem (l1.map fun i => q.ids.getD i 0) (q.ids.getD b 0 :: l2.map fun i => q.ids.getD i 0) 0 (q.ids.getD a 0) (List.mem_map.2 ⟨a, h1, rfl⟩)
    have p2 := plc_at (l1.map fun i => q.ids.getD i 0) (l2.map fun i => q.ids.getD i 0) 0 (q.ids.getD b 0) hnb
    rw [p2]
    omega
  · refine .inl (plc_zero _ _ _ fun h => hm ?_)
    rw [hg] at h
    obtain ⟨c, hc, hce⟩ := List.mem_map.1 h
    have := hi.inj c b (.inr (colI_dn 64 q hs c hc)) (.inr hb) hce
    rwa [← this]
end Go.Proofs.YtaflihoopnjcgaaDoor

namespace Go.Proofs.YtaflihoopnjcgaaDoor
open Go Go.Dat

def one : List (String × DataW Unit) := [("math/bits.deBruijn64tab", Rows.laid_math_bits_deBruijn64tab)]

theorem one_met (os : Os) (args : Array Value) : laidMetH Tryd.prog one ((World.laidAll Tryd.prog os one).forCall (fun _ _ => 0) ⟨#[], args, []⟩).memory := by
  rw [MakeChecks.laidMetH_plain _ _ _ (by kernel_rfl)]
  exact laidMet_laidAll _ (by kernel_rfl) (by kernel_rfl)

theorem heap_of_var {P : Program} {W : World} {name : String} {g : Nat} {cs : Array Value} (hg : P.globalNamed name = some g) (h : W.var? P name = some cs) : g < W.heap.size := by
  unfold World.var? at h
  rw [hg] at h
  refine Classical.byContradiction fun hn => ?_
  simp [Array.getElem?_eq_none (Nat.le_of_not_lt hn)] at h

theorem one_gives {W : World} (h : laidMetH Tryd.prog one W) : (∀ b, tabs.dom b → b < W.heap.size) ∧ tabs.holds W := by
  rw [MakeChecks.laidMetH_plain _ _ _ (by kernel_rfl)] at h
  have h1 : laidMet Tryd.prog (("math/bits.deBruijn64tab", Lib.tabData .u8 (Lib.deBruijn64tab.map Int.ofNat)) :: one.tail) W := h
  have g64 : Tryd.prog.globalNamed "math/bits.deBruijn64tab" = some 0 := by kernel_rfl
  have e64 := Lib.tabIs_of_head g64 (t := 104) (by kernel_rfl) Tryd.underlying104 Tryd.underlying5 (by kernel_rfl) (by kernel_rfl) h1
  have hlt := heap_of_var g64 e64
  refine ⟨fun b hb => ?_, fun j hj => ?_⟩
  · have : b = 0 := hb
    rw [this]
    exact hlt
  · have := Lib.TabIs.cell e64 g64 j (by simpa using hj)
    rw [this]
    simp [List.getD, hj]
end Go.Proofs.YtaflihoopnjcgaaDoor
