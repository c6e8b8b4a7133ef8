/- Texts W23, W24, W25, RActs, CActs in one file. No conditions. -/
import Derived.Test.YtaflihoopnjcgaaDoorWC
import Derived.Test.YtaflihoopnjcgaaDoorTC
import Derived.Test.YtaflihoopnjcgaaDoorKC
import Derived.Test.YtaflihoopnjcgaaDoorRows
import Derived.WalkKit
import Derived.ProofKit
import Derived.OpenShut
import Derived.ChangeOld
import Derived.Test.YtaflihoopnjcgaaDoorTie
import Derived.Test.YtaflihoopnjcgaaDoorCards
import Derived.SevenTiedAt

namespace Go.Proofs.YtaflihoopnjcgaaDoor
open Go Go.Dat

theorem c_rNew (n : Int) : DFun Tryd.prog 11 [.v (.int .i64 n)] (.tup [pd (if 1 ≤ n ∧ n ≤ 32 then newP n else zeroP), .v (.bool (decide (1 ≤ n ∧ n ≤ 32)))]) := by
  refine DFun.ofRun agree mixed Tryd.func11 rfl rfl ?_
  repeat (first | refine wa ?_ | refine wb ?_ | refine wc ?_ | ((first | refine wl rfl rfl ?_ ?_ | refine wn (wp rfl rfl rfl rfl rfl ?_) rfl ?_); try (first | exact trivial | ((repeat' apply And.intro) <;> first | exact trivial | exact rfl | omega | (simp; done) | (simp; omega)))))
  refine OpsAt.br rfl rfl rfl (fun h1 => ?_) (fun h1 => ?_)
  · have h0 : ¬ (1 ≤ n ∧ n ≤ 32) := by have := of_decide_eq_true h1; omega
    repeat (first | refine wa ?_ | refine wb ?_ | refine wc ?_ | ((first | refine wl rfl rfl ?_ ?_ | refine wt rfl ?_ ?_ | refine wv rfl rfl ?_ rfl rfl ?_); try (first | exact trivial | ((repeat' apply And.intro) <;> first | exact trivial | exact rfl | omega | (simp; done) | (simp; omega)))) | refine ws rfl rfl ?_)
    first | refine OpsAt.sayB (d := 2) rfl (y := pd zeroP) (rfl) ?_ | refine Run.sayB (d := 2) rfl (y := pd zeroP) (rfl) ?_
    refine wD (Ends.tupE agree rfl ⟨⟨pd_fits pw0 rfl, pd_pl _⟩, rfl, trivial⟩ rfl ?_)
    rw [if_neg h0, decide_eq_false h0]
    rfl
  · have h1' := of_decide_eq_false h1
    repeat (first | refine wb ?_ | ((first | refine wl rfl rfl ?_ ?_ | refine wm rfl rfl rfl ?_ ?_ | refine wo rfl (wp rfl rfl rfl rfl rfl ?_) rfl ?_); try (first | ((repeat' apply And.intro) <;> first | exact trivial | exact rfl | omega | (simp; done) | (simp; omega)))))
    refine Run.condB rfl rfl (fun h2 => ?_) (fun h2 => ?_)
    · have h0 : ¬ (1 ≤ n ∧ n ≤ 32) := by have := of_decide_eq_true h2; omega
      repeat (first | refine wa ?_ | refine wb ?_ | refine wc ?_ | ((first | refine wl rfl rfl ?_ ?_ | refine wv rfl rfl ?_ rfl rfl ?_); try (first | exact trivial | ((repeat' apply And.intro) <;> first | exact trivial | exact rfl | omega | (simp; done) | (simp; omega)))))
      first | refine OpsAt.sayB (d := 2) rfl (y := pd zeroP) (rfl) ?_ | refine Run.sayB (d := 2) rfl (y := pd zeroP) (rfl) ?_
      refine wD (Ends.tupE agree rfl ⟨⟨pd_fits pw0 rfl, pd_pl _⟩, rfl, trivial⟩ rfl ?_)
      rw [if_neg h0, decide_eq_false h0]
      rfl
    · have h0 : 1 ≤ n ∧ n ≤ 32 := by have := of_decide_eq_false h2; omega
      repeat (first | refine wa ?_ | refine wc ?_ | refine wf ?_ | ((refine wl rfl rfl ?_ ?_); try (first | ((repeat' apply And.intro) <;> first | exact trivial | exact rfl | omega | (simp; done) | (simp; omega)))))
      refine wn (wA rfl rfl rfl (by repeat' (first | exact trivial | exact rfl | assumption | apply And.intro)) (callable (by decide)) (c_refNew)) rfl ?_
      have hp : (ord (upto 32)).pl = true := ord_pl _
      repeat (first | refine wb ?_ | ((first | refine wl rfl rfl ?_ ?_ | refine wv rfl rfl ?_ rfl rfl ?_); try (first | exact trivial | ((repeat' apply And.intro) <;> first | exact trivial | exact rfl | omega | (simp; done) | (simp; omega)))))
      first | refine OpsAt.sayB (d := 2) rfl (y := pd (newP n)) (rfl) ?_ | refine Run.sayB (d := 2) rfl (y := pd (newP n)) (rfl) ?_
      refine wD (Ends.tupE agree rfl ⟨⟨pd_fits (newS h0.1 h0.2).pw rfl, pd_pl _⟩, rfl, trivial⟩ rfl ?_)
      rw [if_pos h0, decide_eq_true h0]
      rfl

theorem pOk {fs : List (TypeId × Nat)} {zs : List D} {i off : Nat} {x : D} {r : List (Nat × D)} {Tf : TypeId} (hf : fs[i]? = some (Tf, off)) (h1 : (off == sizes (zs.take i)) = true) (h2 : (Θ Tf).fits x = true) (h3 : decide (i < zs.length) = true) (h4 : ((zs.getD i un).size == x.size) = true) (hr : partsOk Θ fs zs r = true) : partsOk Θ fs zs ((i, x) :: r) = true := by
  unfold partsOk
  rw [hf]
  simp only [h1, h2, h3, h4, hr, Bool.and_self]
theorem grz {a : Nat} {l : List Nat} (ha : a = 32) (h : l.length = 32) : (a == (gr l).size) = true := by rw [gr_size h, ha]; rfl
theorem ordz {a : Nat} {l : List Int} (ha : a = 32) (h : l.length = 32) : (a == (ord l).size) = true := by rw [ord_size h, ha]; rfl

set_option maxHeartbeats 4000000 in
theorem c_Ours5 (q : PL) (h : PW q) : DFun Tryd.prog 12 [pd q] (pd q) := by
  refine DFun.ofRun agree mixed Tryd.func12 rfl rfl ?_
  have hz := pw0
  repeat (first | refine wa ?_ | refine wb ?_ | refine wc ?_ | ((refine wl rfl rfl ?_ ?_); try (first | ((repeat' apply And.intro) <;> first | exact trivial | exact rfl | omega | (simp; done) | (simp; omega)) | exact pd_pl _)))
  first | refine OpsAt.sayB (d := 2) rfl (y := pd zeroP) (rfl) ?_ | refine Run.sayB (d := 2) rfl (y := pd zeroP) (rfl) ?_
  refine Run.ops1 (ld := [16]) rfl ?_
  repeat (first | ((refine wl rfl rfl ?_ ?_); try (first | ((repeat' apply And.intro) <;> first | exact trivial | exact rfl | omega | (simp; done) | (simp; omega)) | exact pd_ld1 (by assumption) rfl)))
  first | refine OpsAt.say (d := 6) rfl (y := gr q.g) (rfl) ?_ | refine Run.say (d := 6) rfl (y := gr q.g) (rfl) ?_ | refine OpsR.say (q := 6) rfl (y := gr q.g) (rfl) ?_ | refine OpsB.say (d := 6) rfl (y := gr q.g) (rfl) ?_
  have hpg : (gr q.g).pl = true := gr_pl _
  refine wn (wA rfl rfl rfl (by repeat' (first | exact trivial | exact rfl | assumption | apply And.intro)) (callable (by decide)) (c_Ours q.g h.g)) rfl ?_
  repeat (first | ((refine wl rfl rfl ?_ ?_); try (first | ((repeat' apply And.intro) <;> first | exact trivial | exact rfl | omega | (simp; done) | (simp; omega)) | exact pd_fa (by assumption) rfl (by decide) | exact pd_ld2 (by assumption) rfl | exact pd_ld5 (by assumption) rfl)))
  · exact ⟨⟨rfl, gr_pl _, ord_pl _, rfl, rfl, ord_pl _, rfl, trivial⟩, pOk rfl rfl rfl rfl rfl (pOk rfl rfl (gr_fits h.g.1 rfl) rfl (grz rfl h.g.1) (pOk rfl rfl (ord_fits h.o rfl) rfl (ordz rfl h.o) (pOk rfl rfl rfl rfl rfl (pOk rfl rfl rfl rfl rfl (pOk rfl rfl (ord_fits h.ids rfl) rfl (ordz rfl h.ids) (pOk rfl rfl rfl rfl rfl rfl))))))⟩
  first | refine OpsAt.say (d := 18) rfl (y := pd q) (rfl) ?_ | refine Run.say (d := 18) rfl (y := pd q) (rfl) ?_ | refine OpsR.say (q := 18) rfl (y := pd q) (rfl) ?_ | refine OpsB.say (d := 18) rfl (y := pd q) (rfl) ?_
  refine wv rfl rfl (pd_pl _) (pd_sto h hz rfl) rfl ?_
  first | refine OpsAt.sayB (d := 2) rfl (y := pd q) (rfl) ?_ | refine Run.sayB (d := 2) rfl (y := pd q) (rfl) ?_
  repeat (first | refine wb ?_)
  exact wD (Ends.cellE agree rfl rfl (by rw [Bool.and_eq_true]; exact ⟨pd_fits h rfl, pd_pl q⟩) rfl)
end Go.Proofs.YtaflihoopnjcgaaDoor

namespace Go.Proofs.YtaflihoopnjcgaaDoor
open Go Go.Dat

theorem edge_bit {g : List Nat} (hl : ∀ i k, (g.getD i 0).testBit k = true → k < 32) {i k : Nat} (hi : i < 32) : (g.getD i 0).testBit k = edge g i k := by
  unfold edge
  by_cases hk : k < 32
  · simp [hi, hk]
  · cases hb : (g.getD i 0).testBit k with
    | false => simp
    | true => exact absurd (hl i k hb) hk
theorem cut_free {q : PL} (h : SP q) {i : Nat} (hi : i < 32) (hf : ¬ Tk q i) : cutG q.g i = q.g := by
  have hc : gok (cutG q.g i) := cutTo_gok h.fit.gk i 32
  refine list_ext hc.1 h.fit.gk.1 fun j hj => bits_eq (hc.at j) (h.fit.gk.at j) fun k _ => ?_
  rw [edge_bit (fun a b hb => cut_lo h.fit.gk h.lo hi a b hb) hj, edge_bit h.lo hj]
  refine (cut_edge h.fit.gk hi j k).trans ?_
  constructor
  · exact fun hx => hx.1
  · intro hx
    obtain ⟨h1, h2⟩ := h.cut j k hx
    exact ⟨hx, fun e => hf (e ▸ h1), fun e => hf (e ▸ h2)⟩
theorem not_tk {q : PL} (h : SP q) {i : Nat} (hi : i < 64) (hge : q.sz ≤ i) : hasN (takenP q) (i : Int) = false := by
  rw [has_at64 hi]
  cases hb : (takenP q).testBit i with
  | false => rfl
  | true =>
    rcases (tk_bit q i).1 hb with h1 | h1
    · have := h.tl i h1; omega
    · have := h.td i h1; omega

theorem both_not {q : PL} (h : SP q) {i : Nat} (hi : i < 64) (hl : hasN q.lv (i : Int) = true) : hasN q.dn (i : Int) = false := by
  rw [has_at64 hi] at hl ⊢
  cases hb : q.dn.testBit i with
  | false => rfl
  | true => exact absurd ⟨hl, hb⟩ (h.dis i)

set_option maxHeartbeats 8000000 in
theorem c_Sound (q : PL) (h : SP q) : DFun Tryd.prog 14 [pd q] (.v (.bool true)) := by
  refine DFun.ofRun agree mixed Tryd.func14 rfl rfl ?_
  have hw := h.pw
  have hpl : ((pd q).get []).pl = true := pd_pl q
  have hp1 : (gr q.g).pl = true := gr_pl _
  have hp2 : (ord q.o).pl = true := ord_pl _
  repeat (first | refine wa ?_ | refine wb ?_ | refine wc ?_ | ((first | refine wl rfl rfl ?_ ?_ | refine wn (wp rfl rfl rfl rfl rfl ?_) rfl ?_); try (first | exact trivial | ((repeat' apply And.intro) <;> first | exact trivial | exact rfl | omega | (simp; done) | (simp; omega)) | exact pd_pl _)))
  first | refine OpsAt.say (d := 7) rfl (y := .v (.bool false)) (by show D.v (.bool (decide (q.sz < 1))) = _; rw [decide_eq_false (by have := h.s1; omega)]) ?_ | refine Run.say (d := 7) rfl (y := .v (.bool false)) (by show D.v (.bool (decide (q.sz < 1))) = _; rw [decide_eq_false (by have := h.s1; omega)]) ?_ | refine OpsR.say (q := 7) rfl (y := .v (.bool false)) (by show D.v (.bool (decide (q.sz < 1))) = _; rw [decide_eq_false (by have := h.s1; omega)]) ?_ | refine OpsB.say (d := 7) rfl (y := .v (.bool false)) (by show D.v (.bool (decide (q.sz < 1))) = _; rw [decide_eq_false (by have := h.s1; omega)]) ?_
  repeat (first | ((first | refine wl rfl rfl ?_ ?_ | refine wm rfl rfl rfl ?_ ?_ | refine wo rfl (wp rfl rfl rfl rfl rfl ?_) rfl ?_); try (first | ((repeat' apply And.intro) <;> first | exact trivial | exact rfl | omega | (simp; done) | (simp; omega)))))
  first | refine OpsAt.say (d := 12) rfl (y := .v (.bool false)) (by show D.v (.bool (decide (32 < q.sz))) = _; rw [decide_eq_false (by have := h.s2; omega)]) ?_ | refine Run.say (d := 12) rfl (y := .v (.bool false)) (by show D.v (.bool (decide (32 < q.sz))) = _; rw [decide_eq_false (by have := h.s2; omega)]) ?_ | refine OpsR.say (q := 12) rfl (y := .v (.bool false)) (by show D.v (.bool (decide (32 < q.sz))) = _; rw [decide_eq_false (by have := h.s2; omega)]) ?_ | refine OpsB.say (d := 12) rfl (y := .v (.bool false)) (by show D.v (.bool (decide (32 < q.sz))) = _; rw [decide_eq_false (by have := h.s2; omega)]) ?_
  repeat (first | ((first | refine wl rfl rfl ?_ ?_ | refine wm rfl rfl rfl ?_ ?_ | refine wo rfl (wp rfl rfl rfl rfl rfl ?_) rfl ?_); try (first | ((repeat' apply And.intro) <;> first | exact trivial | exact rfl | omega | (simp; done) | (simp; omega)) | exact pd_fa (by assumption) rfl (by decide))))
  first | refine OpsAt.say (d := 17) rfl (y := .v (.bool false)) (by show D.v (.bool (decide (q.ct < 0))) = _; rw [decide_eq_false (by have := h.c0; omega)]) ?_ | refine Run.say (d := 17) rfl (y := .v (.bool false)) (by show D.v (.bool (decide (q.ct < 0))) = _; rw [decide_eq_false (by have := h.c0; omega)]) ?_ | refine OpsR.say (q := 17) rfl (y := .v (.bool false)) (by show D.v (.bool (decide (q.ct < 0))) = _; rw [decide_eq_false (by have := h.c0; omega)]) ?_ | refine OpsB.say (d := 17) rfl (y := .v (.bool false)) (by show D.v (.bool (decide (q.ct < 0))) = _; rw [decide_eq_false (by have := h.c0; omega)]) ?_
  repeat (first | ((refine wm rfl rfl rfl ?_ ?_); try (first | ((repeat' apply And.intro) <;> first | exact trivial | exact rfl | omega | (simp; done) | (simp; omega)) | exact pd_fa (by assumption) rfl (by decide) | exact pd_ld1 (by assumption) rfl | exact pd_ld2 (by assumption) rfl)))
  first | refine OpsAt.say (d := 19) rfl (y := gr q.g) (rfl) ?_ | refine Run.say (d := 19) rfl (y := gr q.g) (rfl) ?_ | refine OpsR.say (q := 19) rfl (y := gr q.g) (rfl) ?_ | refine OpsB.say (d := 19) rfl (y := gr q.g) (rfl) ?_
  first | refine OpsAt.say (d := 21) rfl (y := ord q.o) (rfl) ?_ | refine Run.say (d := 21) rfl (y := ord q.o) (rfl) ?_ | refine OpsR.say (q := 21) rfl (y := ord q.o) (rfl) ?_ | refine OpsB.say (d := 21) rfl (y := ord q.o) (rfl) ?_
  refine wo rfl (wA rfl rfl rfl (by repeat' (first | exact trivial | exact rfl | assumption | apply And.intro)) (callable (by decide)) (c_rSorted q.g q.o h.fit.gk h.fit.ln)) rfl ?_
  first | refine OpsAt.say (d := 22) rfl (y := .v (.bool true)) (by rw [h.fit.so]) ?_ | refine Run.say (d := 22) rfl (y := .v (.bool true)) (by rw [h.fit.so]) ?_ | refine OpsR.say (q := 22) rfl (y := .v (.bool true)) (by rw [h.fit.so]) ?_ | refine OpsB.say (d := 22) rfl (y := .v (.bool true)) (by rw [h.fit.so]) ?_
  repeat (first | refine wa ?_ | refine wb ?_ | refine wc ?_ | refine wd ?_ | refine wf ?_ | ((first | refine wl rfl rfl ?_ ?_ | refine wm rfl rfl rfl ?_ ?_ | refine wu rfl ?_ ?_); try (first | exact trivial | ((repeat' apply And.intro) <;> first | exact trivial | exact rfl | omega | (simp; done) | (simp; omega)))))
  refine Run.keep [1, 2, 3] rfl ?_
  refine Run.at (l' := [(1, .box (pd q)), (2, .d (.v (.bool false))), (3, .d (.v (.int .i64 (0 : Nat))))]) rfl ?_
  refine Run.loopL (α := Nat) (fun i => i ≤ 64) (fun i => [(1, .box (pd q)), (2, .d (.v (.bool false))), (3, .d (.v (.int .i64 i)))]) (fun i => 64 - i) 0 (by decide) ?_
  intro i hi ih
  repeat (first | refine wa ?_ | refine wb ?_ | refine wc ?_ | ((first | refine wl rfl rfl ?_ ?_ | refine wn (wp rfl rfl rfl rfl rfl ?_) rfl ?_); try (first | ((repeat' apply And.intro) <;> first | exact trivial | exact rfl | omega | (simp; done) | (simp; omega)))))
  refine Run.condB rfl rfl (fun hb => ?_) (fun hb => ?_)
  · have hi2 : i < 64 := by simp at hb; omega
    repeat (first | refine wf ?_)
    refine wa ?_
    repeat (first | refine wd ?_)
    refine wa ?_
    refine Run.joinK (α := Unit) (fun _ => True) (fun _ => [(1, .box (pd q)), (2, .d (.v (.bool false))), (3, .d (.v (.int .i64 i)))]) (fun _ _ => ?_) (fun k' hk' => ?_)
    rotate_left
    · repeat (first | refine wa ?_ | refine wc ?_ | ((first | refine wl rfl rfl ?_ ?_ | refine wn (wp rfl rfl rfl rfl rfl ?_) rfl ?_); try (first | ((repeat' apply And.intro) <;> first | exact trivial | exact rfl | omega | (simp; done) | (simp; omega)))))
      by_cases hge : q.sz ≤ (i : Int)
      · first | refine OpsAt.say (d := 33) rfl (y := .v (.bool true)) (by show D.v (.bool (decide ((i : Int) ≥ q.sz))) = _; rw [decide_eq_true hge]) ?_ | refine Run.say (d := 33) rfl (y := .v (.bool true)) (by show D.v (.bool (decide ((i : Int) ≥ q.sz))) = _; rw [decide_eq_true hge]) ?_ | refine OpsR.say (q := 33) rfl (y := .v (.bool true)) (by show D.v (.bool (decide ((i : Int) ≥ q.sz))) = _; rw [decide_eq_true hge]) ?_ | refine OpsB.say (d := 33) rfl (y := .v (.bool true)) (by show D.v (.bool (decide ((i : Int) ≥ q.sz))) = _; rw [decide_eq_true hge]) ?_
        repeat (first | ((refine wm rfl rfl rfl ?_ ?_); try (first | ((repeat' apply And.intro) <;> first | exact trivial | exact rfl | omega | (simp; done) | (simp; omega)) | exact ⟨pd_fits (by assumption) rfl, pd_pl _⟩)))
        refine wo rfl (wA rfl rfl rfl (by repeat' (first | exact trivial | exact rfl | assumption | apply And.intro)) (callable (by decide)) (c_rFree q i hw)) rfl ?_
        first | refine OpsAt.say (d := 36) rfl (y := .v (.bool true)) (by rw [not_tk h hi2 hge]; rfl) ?_ | refine Run.say (d := 36) rfl (y := .v (.bool true)) (by rw [not_tk h hi2 hge]; rfl) ?_ | refine OpsR.say (q := 36) rfl (y := .v (.bool true)) (by rw [not_tk h hi2 hge]; rfl) ?_ | refine OpsB.say (d := 36) rfl (y := .v (.bool true)) (by rw [not_tk h hi2 hge]; rfl) ?_
        repeat (first | ((first | refine wl rfl rfl ?_ ?_ | refine wm rfl rfl rfl ?_ ?_); try (first | ((repeat' apply And.intro) <;> first | exact trivial | exact rfl | omega | (simp; done) | (simp; omega)) | exact pd_fa (by assumption) rfl (by decide))))
        first | refine OpsAt.say (d := 41) rfl (y := S q.lv) (rfl) ?_ | refine Run.say (d := 41) rfl (y := S q.lv) (rfl) ?_ | refine OpsR.say (q := 41) rfl (y := S q.lv) (rfl) ?_ | refine OpsB.say (d := 41) rfl (y := S q.lv) (rfl) ?_
        skip
        refine wo rfl (wA rfl rfl rfl (by repeat' (first | exact trivial | exact rfl | assumption | apply And.intro)) (callable (by decide)) (c_refHas q.lv i hw.lm)) rfl ?_
        cases hlv : hasN q.lv (i : Int) with
        | true =>
          repeat (first | ((refine wm rfl rfl rfl ?_ ?_); try (first | ((repeat' apply And.intro) <;> first | exact trivial | exact rfl | omega | (simp; done) | (simp; omega)) | exact pd_fa (by assumption) rfl (by decide))))
          first | refine OpsAt.say (d := 46) rfl (y := S q.dn) (rfl) ?_ | refine Run.say (d := 46) rfl (y := S q.dn) (rfl) ?_ | refine OpsR.say (q := 46) rfl (y := S q.dn) (rfl) ?_ | refine OpsB.say (d := 46) rfl (y := S q.dn) (rfl) ?_
          skip
          refine wo rfl (wA rfl rfl rfl (by repeat' (first | exact trivial | exact rfl | assumption | apply And.intro)) (callable (by decide)) (c_refHas q.dn i hw.dm)) rfl ?_
          first | refine OpsAt.say (d := 48) rfl (y := .v (.bool false)) (by rw [both_not h hi2 hlv]) ?_ | refine Run.say (d := 48) rfl (y := .v (.bool false)) (by rw [both_not h hi2 hlv]) ?_ | refine OpsR.say (q := 48) rfl (y := .v (.bool false)) (by rw [both_not h hi2 hlv]) ?_ | refine OpsB.say (d := 48) rfl (y := .v (.bool false)) (by rw [both_not h hi2 hlv]) ?_
          repeat (first | refine wb ?_ | refine wf ?_ | ((first | refine wl rfl rfl ?_ ?_ | refine wm rfl rfl rfl ?_ ?_ | refine wu rfl ?_ ?_); try (first | ((repeat' apply And.intro) <;> first | exact trivial | exact rfl | omega | (simp; done) | (simp; omega)))))
          refine Run.keep [1, 2, 3] rfl ?_
          exact hk' () trivial
        | false =>
          repeat (first | refine wb ?_ | refine wf ?_ | ((first | refine wl rfl rfl ?_ ?_ | refine wm rfl rfl rfl ?_ ?_ | refine wu rfl ?_ ?_); try (first | ((repeat' apply And.intro) <;> first | exact trivial | exact rfl | omega | (simp; done) | (simp; omega)))) | refine ws rfl rfl ?_)
          refine Run.keep [1, 2, 3] rfl ?_
          exact hk' () trivial
      · first | refine OpsAt.say (d := 33) rfl (y := .v (.bool false)) (by show D.v (.bool (decide ((i : Int) ≥ q.sz))) = _; rw [decide_eq_false hge]) ?_ | refine Run.say (d := 33) rfl (y := .v (.bool false)) (by show D.v (.bool (decide ((i : Int) ≥ q.sz))) = _; rw [decide_eq_false hge]) ?_ | refine OpsR.say (q := 33) rfl (y := .v (.bool false)) (by show D.v (.bool (decide ((i : Int) ≥ q.sz))) = _; rw [decide_eq_false hge]) ?_ | refine OpsB.say (d := 33) rfl (y := .v (.bool false)) (by show D.v (.bool (decide ((i : Int) ≥ q.sz))) = _; rw [decide_eq_false hge]) ?_
        repeat (first | ((first | refine wl rfl rfl ?_ ?_ | refine wm rfl rfl rfl ?_ ?_); try (first | ((repeat' apply And.intro) <;> first | exact trivial | exact rfl | omega | (simp; done) | (simp; omega)) | exact pd_fa (by assumption) rfl (by decide))) | refine ws rfl rfl ?_)
        first | refine OpsAt.say (d := 41) rfl (y := S q.lv) (rfl) ?_ | refine Run.say (d := 41) rfl (y := S q.lv) (rfl) ?_ | refine OpsR.say (q := 41) rfl (y := S q.lv) (rfl) ?_ | refine OpsB.say (d := 41) rfl (y := S q.lv) (rfl) ?_
        skip
        refine wo rfl (wA rfl rfl rfl (by repeat' (first | exact trivial | exact rfl | assumption | apply And.intro)) (callable (by decide)) (c_refHas q.lv i hw.lm)) rfl ?_
        cases hlv : hasN q.lv (i : Int) with
        | true =>
          repeat (first | ((refine wm rfl rfl rfl ?_ ?_); try (first | ((repeat' apply And.intro) <;> first | exact trivial | exact rfl | omega | (simp; done) | (simp; omega)) | exact pd_fa (by assumption) rfl (by decide))))
          first | refine OpsAt.say (d := 46) rfl (y := S q.dn) (rfl) ?_ | refine Run.say (d := 46) rfl (y := S q.dn) (rfl) ?_ | refine OpsR.say (q := 46) rfl (y := S q.dn) (rfl) ?_ | refine OpsB.say (d := 46) rfl (y := S q.dn) (rfl) ?_
          skip
          refine wo rfl (wA rfl rfl rfl (by repeat' (first | exact trivial | exact rfl | assumption | apply And.intro)) (callable (by decide)) (c_refHas q.dn i hw.dm)) rfl ?_
          first | refine OpsAt.say (d := 48) rfl (y := .v (.bool false)) (by rw [both_not h hi2 hlv]) ?_ | refine Run.say (d := 48) rfl (y := .v (.bool false)) (by rw [both_not h hi2 hlv]) ?_ | refine OpsR.say (q := 48) rfl (y := .v (.bool false)) (by rw [both_not h hi2 hlv]) ?_ | refine OpsB.say (d := 48) rfl (y := .v (.bool false)) (by rw [both_not h hi2 hlv]) ?_
          repeat (first | refine wb ?_ | refine wf ?_ | ((first | refine wl rfl rfl ?_ ?_ | refine wm rfl rfl rfl ?_ ?_ | refine wu rfl ?_ ?_); try (first | ((repeat' apply And.intro) <;> first | exact trivial | exact rfl | omega | (simp; done) | (simp; omega)))))
          refine Run.keep [1, 2, 3] rfl ?_
          exact hk' () trivial
        | false =>
          repeat (first | refine wb ?_ | refine wf ?_ | ((first | refine wl rfl rfl ?_ ?_ | refine wm rfl rfl rfl ?_ ?_ | refine wu rfl ?_ ?_); try (first | ((repeat' apply And.intro) <;> first | exact trivial | exact rfl | omega | (simp; done) | (simp; omega)))) | refine ws rfl rfl ?_)
          refine Run.keep [1, 2, 3] rfl ?_
          exact hk' () trivial
    refine wa ?_
    refine Run.ops1 (ld := []) rfl ?_
    repeat (first | ((first | refine wl rfl rfl ?_ ?_ | refine wn (wp rfl rfl rfl rfl rfl ?_) rfl ?_); try (first | ((repeat' apply And.intro) <;> first | exact trivial | exact rfl | omega | (simp; done) | (simp; omega)))))
    by_cases h32 : i < 32
    · first | refine OpsAt.say (d := 53) rfl (y := .v (.bool true)) (by show D.v (.bool (decide ((i : Int) < 32))) = _; rw [decide_eq_true (by omega)]) ?_ | refine Run.say (d := 53) rfl (y := .v (.bool true)) (by show D.v (.bool (decide ((i : Int) < 32))) = _; rw [decide_eq_true (by omega)]) ?_ | refine OpsR.say (q := 53) rfl (y := .v (.bool true)) (by show D.v (.bool (decide ((i : Int) < 32))) = _; rw [decide_eq_true (by omega)]) ?_ | refine OpsB.say (d := 53) rfl (y := .v (.bool true)) (by show D.v (.bool (decide ((i : Int) < 32))) = _; rw [decide_eq_true (by omega)]) ?_
      repeat (first | ((refine wm rfl rfl rfl ?_ ?_); try (first | ((repeat' apply And.intro) <;> first | exact trivial | exact rfl | omega | (simp; done) | (simp; omega)) | exact ⟨pd_fits (by assumption) rfl, pd_pl _⟩)))
      refine wo rfl (wA rfl rfl rfl (by repeat' (first | exact trivial | exact rfl | assumption | apply And.intro)) (callable (by decide)) (c_rFree q i hw)) rfl ?_
      cases ht : hasN (takenP q) (i : Int) with
      | true =>
        repeat (first | refine wb ?_ | refine wc ?_ | refine we ?_ | refine wf ?_ | ((first | refine wl rfl rfl ?_ ?_ | refine wn (wp rfl rfl rfl rfl rfl ?_) rfl ?_ | refine wu rfl ?_ ?_); try (first | ((repeat' apply And.intro) <;> first | exact trivial | exact rfl | omega | (simp; done) | (simp; omega)))) | refine ws rfl rfl ?_)
        first | refine OpsAt.say (d := 3) rfl (y := .v (.int .i64 (i + 1 : Nat))) (by rw [wrap64_in ((i : Int) + 1) (by omega)]; simp) ?_ | refine Run.say (d := 3) rfl (y := .v (.int .i64 (i + 1 : Nat))) (by rw [wrap64_in ((i : Int) + 1) (by omega)]; simp) ?_ | refine OpsR.say (q := 3) rfl (y := .v (.int .i64 (i + 1 : Nat))) (by rw [wrap64_in ((i : Int) + 1) (by omega)]; simp) ?_ | refine OpsB.say (d := 3) rfl (y := .v (.int .i64 (i + 1 : Nat))) (by rw [wrap64_in ((i : Int) + 1) (by omega)]; simp) ?_
        refine Run.keep [1, 2, 3] rfl ?_
        exact ih (i + 1) (by omega) (by omega)
      | false =>
        have hnt : ¬ Tk q i := fun hx => by
          have h1 := (tk_bit q i).2 hx
          rw [has_at64 hi2, h1] at ht
          cases ht
        repeat (first | ((first | refine wl rfl rfl ?_ ?_ | refine wm rfl rfl rfl ?_ ?_); try (first | ((repeat' apply And.intro) <;> first | exact trivial | exact rfl | omega | (simp; done) | (simp; omega)) | exact pd_ld1 (by assumption) rfl)))
        first | refine OpsAt.say (d := 60) rfl (y := gr q.g) (rfl) ?_ | refine Run.say (d := 60) rfl (y := gr q.g) (rfl) ?_ | refine OpsR.say (q := 60) rfl (y := gr q.g) (rfl) ?_ | refine OpsB.say (d := 60) rfl (y := gr q.g) (rfl) ?_
        skip
        refine wo rfl (wA rfl rfl rfl (by repeat' (first | exact trivial | exact rfl | assumption | apply And.intro)) (callable (by decide)) (c_rCut q.g i h32 h.fit.gk)) rfl ?_
        first | refine OpsAt.say (d := 62) rfl (y := gr q.g) (by rw [cut_free h h32 hnt]) ?_ | refine Run.say (d := 62) rfl (y := gr q.g) (by rw [cut_free h h32 hnt]) ?_ | refine OpsR.say (q := 62) rfl (y := gr q.g) (by rw [cut_free h h32 hnt]) ?_ | refine OpsB.say (d := 62) rfl (y := gr q.g) (by rw [cut_free h h32 hnt]) ?_
        repeat (first | ((refine wm rfl rfl rfl ?_ ?_); try (first | ((repeat' apply And.intro) <;> first | exact trivial | exact rfl | omega | (simp; done) | (simp; omega)) | exact pd_ld1 (by assumption) rfl)))
        first | refine OpsAt.say (d := 64) rfl (y := gr q.g) (rfl) ?_ | refine Run.say (d := 64) rfl (y := gr q.g) (rfl) ?_ | refine OpsR.say (q := 64) rfl (y := gr q.g) (rfl) ?_ | refine OpsB.say (d := 64) rfl (y := gr q.g) (rfl) ?_
        refine wo rfl (Ev.bins rfl rfl rfl (by repeat' (first | exact trivial | exact rfl | assumption | apply And.intro)) (BinD.neAr (T := 35) (by kernel_rfl) (grT (d := 9998) h.fit.gk.1 (e := 24) rfl Tryd.underlying24 (fun _ => rfl)))) rfl ?_
        repeat (first | refine wb ?_ | refine wc ?_ | refine we ?_ | refine wf ?_ | ((first | refine wl rfl rfl ?_ ?_ | refine wn (wp rfl rfl rfl rfl rfl ?_) rfl ?_ | refine wu rfl ?_ ?_); try (first | ((repeat' apply And.intro) <;> first | exact trivial | exact rfl | omega | (simp; done) | (simp; omega)))))
        first | refine OpsAt.say (d := 3) rfl (y := .v (.int .i64 (i + 1 : Nat))) (by rw [wrap64_in ((i : Int) + 1) (by omega)]; simp) ?_ | refine Run.say (d := 3) rfl (y := .v (.int .i64 (i + 1 : Nat))) (by rw [wrap64_in ((i : Int) + 1) (by omega)]; simp) ?_ | refine OpsR.say (q := 3) rfl (y := .v (.int .i64 (i + 1 : Nat))) (by rw [wrap64_in ((i : Int) + 1) (by omega)]; simp) ?_ | refine OpsB.say (d := 3) rfl (y := .v (.int .i64 (i + 1 : Nat))) (by rw [wrap64_in ((i : Int) + 1) (by omega)]; simp) ?_
        refine Run.keep [1, 2, 3] rfl ?_
        exact ih (i + 1) (by omega) (by omega)
    · first | refine OpsAt.say (d := 53) rfl (y := .v (.bool false)) (by show D.v (.bool (decide ((i : Int) < 32))) = _; rw [decide_eq_false (by omega)]) ?_ | refine Run.say (d := 53) rfl (y := .v (.bool false)) (by show D.v (.bool (decide ((i : Int) < 32))) = _; rw [decide_eq_false (by omega)]) ?_ | refine OpsR.say (q := 53) rfl (y := .v (.bool false)) (by show D.v (.bool (decide ((i : Int) < 32))) = _; rw [decide_eq_false (by omega)]) ?_ | refine OpsB.say (d := 53) rfl (y := .v (.bool false)) (by show D.v (.bool (decide ((i : Int) < 32))) = _; rw [decide_eq_false (by omega)]) ?_
      repeat (first | refine wb ?_ | refine wc ?_ | refine we ?_ | refine wf ?_ | ((first | refine wl rfl rfl ?_ ?_ | refine wn (wp rfl rfl rfl rfl rfl ?_) rfl ?_ | refine wu rfl ?_ ?_); try (first | ((repeat' apply And.intro) <;> first | exact trivial | exact rfl | omega | (simp; done) | (simp; omega)))) | refine ws rfl rfl ?_)
      first | refine OpsAt.say (d := 3) rfl (y := .v (.int .i64 (i + 1 : Nat))) (by rw [wrap64_in ((i : Int) + 1) (by omega)]; simp) ?_ | refine Run.say (d := 3) rfl (y := .v (.int .i64 (i + 1 : Nat))) (by rw [wrap64_in ((i : Int) + 1) (by omega)]; simp) ?_ | refine OpsR.say (q := 3) rfl (y := .v (.int .i64 (i + 1 : Nat))) (by rw [wrap64_in ((i : Int) + 1) (by omega)]; simp) ?_ | refine OpsB.say (d := 3) rfl (y := .v (.int .i64 (i + 1 : Nat))) (by rw [wrap64_in ((i : Int) + 1) (by omega)]; simp) ?_
      refine Run.keep [1, 2, 3] rfl ?_
      exact ih (i + 1) (by omega) (by omega)
  · repeat (first | refine wa ?_ | refine wb ?_ | refine wc ?_ | ((refine wl rfl rfl ?_ ?_); try (first | exact trivial)) | refine wj rfl ?_)
    exact wD (wE rfl rfl rfl)
end Go.Proofs.YtaflihoopnjcgaaDoor

namespace Go.Proofs.YtaflihoopnjcgaaDoor
open Go Go.Dat

/-- The pool that New makes. -/
def startP (n : Int) : PL := if 1 ≤ n ∧ n ≤ 32 then newP n else zeroP
theorem start_pw (n : Int) : PW (startP n) := by
  unfold startP
  split
  · next h => exact (newS h.1 h.2).pw
  · exact pw0

set_option maxHeartbeats 8000000 in
theorem c_PoolActs (n : Int) (l : List (Int × Int × Int)) (hl : ∀ x ∈ l, 0 ≤ x.1 ∧ x.1 ≤ 255) :
    DFun Tryd.prog 3 [.v (.int .i64 n), .lst .any 3 (ads l)] (.v (.bool true)) := by
  refine DFun.ofRun agree mixed Tryd.func3 rfl rfl ?_
  have hz := pw0
  repeat (first | refine wa ?_ | refine wb ?_ | refine wc ?_ | ((refine wl rfl rfl ?_ ?_); try (first | exact trivial)))
  refine wn (wA rfl rfl rfl (by repeat' (first | exact trivial | exact rfl | assumption | apply And.intro)) (callable (by decide)) (c_alive5)) rfl ?_
  repeat (first | refine wa ?_ | refine wb ?_ | refine wc ?_ | refine wf ?_ | ((first | refine wl rfl rfl ?_ ?_ | refine wn (wp rfl rfl rfl rfl rfl ?_) rfl ?_ | refine wn (wq agree rfl rfl rfl ?_) rfl ?_ | refine wu rfl ?_ ?_); try (first | ((repeat' apply And.intro) <;> first | exact trivial | exact rfl | omega | (simp; done) | (simp; omega)))))
  refine Run.condB rfl rfl (fun h1 => ?_) (fun h1 => ?_)
  · repeat (first | refine wa ?_ | refine wb ?_ | refine wc ?_ | ((refine wl rfl rfl ?_ ?_); try (first | exact trivial)))
    exact wD (wE rfl rfl rfl)
  have hes : l.length ≤ 120 := by have := of_decide_eq_false h1; rw [ads_len] at this; omega
  have hn1 : DFun Tryd.prog 10 [.v (.int .i64 n)] (.tup [pd (startP n), .v (.bool (decide (1 ≤ n ∧ n ≤ 32)))]) := c_pNew n
  have hn2 : DFun Tryd.prog 11 [.v (.int .i64 n)] (.tup [pd (startP n), .v (.bool (decide (1 ≤ n ∧ n ≤ 32)))]) := c_rNew n
  have w0 := start_pw n
  obtain ⟨is, his⟩ : ∃ is, is = decide (1 ≤ n ∧ n ≤ 32) := ⟨_, rfl⟩
  rw [← his] at hn1 hn2
  obtain ⟨s0, hs0⟩ : ∃ s0, s0 = startP n := ⟨_, rfl⟩
  rw [← hs0] at hn1 hn2 w0
  have hps : ((pd s0).get []).pl = true := pd_pl s0
  repeat (first | refine wa ?_ | refine wc ?_ | refine wf ?_ | ((refine wl rfl rfl ?_ ?_); try (first | ((repeat' apply And.intro) <;> first | exact trivial | exact rfl | omega | (simp; done) | (simp; omega)))))
  refine wn (wA rfl rfl rfl (by repeat' (first | exact trivial | exact rfl | assumption | apply And.intro)) (callable (by decide)) (hn1)) rfl ?_
  repeat (first | ((refine wl rfl rfl ?_ ?_); try (first | ((repeat' apply And.intro) <;> first | exact trivial | exact rfl | omega | (simp; done) | (simp; omega)) | exact pd_pl _ | exact noOwns_pb _ _)))
  first | refine OpsAt.sayB (d := 5) rfl (y := pd zeroP) (rfl) ?_ | refine Run.sayB (d := 5) rfl (y := pd zeroP) (rfl) ?_
  refine wv rfl rfl (pd_pl _) (pd_sto w0 hz rfl) rfl ?_
  first | refine OpsAt.sayB (d := 5) rfl (y := pd s0) (rfl) ?_ | refine Run.sayB (d := 5) rfl (y := pd s0) (rfl) ?_
  repeat (first | refine wa ?_ | refine wb ?_ | refine wc ?_ | ((refine wl rfl rfl ?_ ?_); try (first | ((repeat' apply And.intro) <;> first | exact trivial | exact rfl | omega | (simp; done) | (simp; omega)))))
  refine wn (wA rfl rfl rfl (by repeat' (first | exact trivial | exact rfl | assumption | apply And.intro)) (callable (by decide)) (hn2)) rfl ?_
  repeat (first | ((refine wl rfl rfl ?_ ?_); try (first | ((repeat' apply And.intro) <;> first | exact trivial | exact rfl | omega | (simp; done) | (simp; omega)) | exact pd_pl _ | exact noOwns_pb _ _)))
  first | refine OpsAt.sayB (d := 7) rfl (y := pd zeroP) (rfl) ?_ | refine Run.sayB (d := 7) rfl (y := pd zeroP) (rfl) ?_
  refine wv rfl rfl (pd_pl _) (pd_sto w0 hz rfl) rfl ?_
  first | refine OpsAt.sayB (d := 7) rfl (y := pd s0) (rfl) ?_ | refine Run.sayB (d := 7) rfl (y := pd s0) (rfl) ?_
  repeat (first | refine wb ?_ | ((refine wl rfl rfl ?_ ?_); try (first | ((repeat' apply And.intro) <;> first | exact trivial | exact rfl | omega | (simp; done) | (simp; omega)))))
  first | refine OpsAt.say (d := 6) rfl (y := .v (.bool is)) (rfl) ?_ | refine Run.say (d := 6) rfl (y := .v (.bool is)) (rfl) ?_ | refine OpsR.say (q := 6) rfl (y := .v (.bool is)) (rfl) ?_ | refine OpsB.say (d := 6) rfl (y := .v (.bool is)) (rfl) ?_
  first | refine OpsAt.say (d := 8) rfl (y := .v (.bool is)) (rfl) ?_ | refine Run.say (d := 8) rfl (y := .v (.bool is)) (rfl) ?_ | refine OpsR.say (q := 8) rfl (y := .v (.bool is)) (rfl) ?_ | refine OpsB.say (d := 8) rfl (y := .v (.bool is)) (rfl) ?_
  refine Run.keep [1, 4, 5, 6, 7, 8] rfl ?_
  refine wa ?_
  skip
  refine wa ?_
  refine Run.ops1 (ld := []) rfl ?_
  repeat (first | ((refine wl rfl rfl ?_ ?_); try (first | ((repeat' apply And.intro) <;> first | exact trivial | exact rfl | omega | (simp; done) | (simp; omega)))))
  refine wn (Ev.bins rfl rfl rfl (by repeat' (first | exact trivial | exact rfl | assumption | apply And.intro)) ((BinD.neB Tryd.underlying4))) rfl ?_
  first | refine OpsAt.say (d := 31) rfl (y := .v (.bool false)) (by simp) ?_ | refine Run.say (d := 31) rfl (y := .v (.bool false)) (by simp) ?_ | refine OpsR.say (q := 31) rfl (y := .v (.bool false)) (by simp) ?_ | refine OpsB.say (d := 31) rfl (y := .v (.bool false)) (by simp) ?_
  repeat (first | ((first | refine wl rfl rfl ?_ ?_ | refine wm rfl rfl rfl ?_ ?_); try (first | ((repeat' apply And.intro) <;> first | exact trivial | exact rfl | omega | (simp; done) | (simp; omega)) | exact ⟨pd_fits (by assumption) rfl, pd_pl _⟩)))
  refine wo rfl (wA rfl rfl rfl (by repeat' (first | exact trivial | exact rfl | assumption | apply And.intro)) (callable (by decide)) (c_Ours5 s0 w0)) rfl ?_
  repeat (first | ((refine wm rfl rfl rfl ?_ ?_); try (first | exact ⟨pd_fits (by assumption) rfl, pd_pl _⟩)))
  refine wo rfl (Ev.bins rfl rfl rfl (by repeat' (first | exact trivial | exact rfl | assumption | apply And.intro)) (neRef w0)) rfl ?_
  repeat (first | refine wa ?_ | refine wb ?_ | refine wc ?_ | refine wd ?_ | refine wf ?_ | ((first | refine wl rfl rfl ?_ ?_ | refine wn (wq agree rfl rfl rfl ?_) rfl ?_ | refine wu rfl ?_ ?_); try (first | exact trivial | ((repeat' apply And.intro) <;> first | exact trivial | exact rfl | omega | (simp; done) | (simp; omega)))))
  have hlx : ((ads l).length : Int) = l.length := by rw [ads_len]
  refine Run.keep [4, 5, 6, 7, 38, 39, 40] rfl ?_
  by_cases hr : 1 ≤ n ∧ n ≤ 32
  · have his2 : is = true := his.trans (decide_eq_true hr)
    have hs2 : s0 = actsP n [] := by rw [hs0, startP, if_pos hr]; rfl
    subst his2
    refine Run.at (l' := [(4, .d (.v (.bool false))), (5, .box (pd (actsP n []))), (6, .d (.v (.bool true))), (7, .box (pd (actsP n []))), (38, .d (.lst .any 3 (ads l))), (39, .d (.v (.int .i64 l.length))), (40, .d (.v (.int .i64 (0 : Nat))))]) (by rw [← hlx, ← hs2]; rfl) ?_
    refine Run.loopL (α := List (Int × Int × Int) × List (Int × Int × Int)) (fun q => l = q.1 ++ q.2) (fun q => [(4, .d (.v (.bool false))), (5, .box (pd (actsP n q.1))), (6, .d (.v (.bool true))), (7, .box (pd (actsP n q.1))), (38, .d (.lst .any 3 (ads l))), (39, .d (.v (.int .i64 l.length))), (40, .d (.v (.int .i64 q.1.length)))]) (fun q => q.2.length) ([], l) rfl ?_
    rintro ⟨pre, post⟩ hpp ih
    simp only at hpp
    have hlen : l.length = pre.length + post.length := by rw [hpp]; simp
    have hap := acts_ok hr.1 hr.2 pre
    have hsn := acts_snoc n pre
    obtain ⟨p, hp0⟩ : ∃ p, p = actsP n pre := ⟨_, rfl⟩
    rw [← hp0] at hap hsn
    refine Run.at (l' := [(4, .d (.v (.bool false))), (5, .box (pd p)), (6, .d (.v (.bool true))), (7, .box (pd p)), (38, .d (.lst .any 3 (ads l))), (39, .d (.v (.int .i64 l.length))), (40, .d (.v (.int .i64 pre.length)))]) (by rw [hp0]) ?_
    have hct : p.ct ≤ 1000 := by have := hap.ct; omega
    have hw := hap.sp.pw
    have hpp1 : ((pd p).get []).pl = true := pd_pl p
    repeat (first | refine wa ?_ | refine wb ?_ | refine wc ?_ | ((refine wn (wp rfl rfl rfl rfl rfl ?_) rfl ?_); try (first | ((repeat' apply And.intro) <;> first | exact trivial | exact rfl | omega | (simp; done) | (simp; omega)))))
    refine Run.condB rfl rfl (fun hb => ?_) (fun hb => ?_)
    · cases post with
      | nil => simp at hlen hb; omega
      | cons x post =>
        have hgd : (ads l).getD ((pre.length : Int)).toNat un = ad x := by rw [hpp]; exact ads_pre pre post x
        have hkx := hl x (by rw [hpp]; simp)
        repeat (first | refine wa ?_ | refine wc ?_ | refine wd ?_ | refine wf ?_ | ((refine wl rfl rfl ?_ ?_)))
        · exact ⟨rfl, rfl, by omega, by rw [ads_len, hpp]; simp⟩
        first | refine OpsAt.say (d := 42) rfl (y := .pt (ad x)) (congrArg D.pt hgd) ?_ | refine Run.say (d := 42) rfl (y := .pt (ad x)) (congrArg D.pt hgd) ?_ | refine OpsR.say (q := 42) rfl (y := .pt (ad x)) (congrArg D.pt hgd) ?_ | refine OpsB.say (d := 42) rfl (y := .pt (ad x)) (congrArg D.pt hgd) ?_
        repeat (first | ((refine wl rfl rfl ?_ ?_); try (first | ((repeat' apply And.intro) <;> first | exact trivial | exact rfl | omega | (simp; done) | (simp; omega)))))
        refine wv rfl rfl rfl rfl rfl ?_
        first | refine OpsAt.sayB (d := 10) rfl (y := ad x) (rfl) ?_ | refine Run.sayB (d := 10) rfl (y := ad x) (rfl) ?_
        have hpa : ((ad x).get []).pl = true := rfl
        repeat (first | refine wa ?_ | refine wb ?_ | refine wc ?_ | refine wf ?_ | ((first | refine wl rfl rfl ?_ ?_ | refine wu rfl ?_ ?_); try (first | ((repeat' apply And.intro) <;> first | exact trivial | exact rfl | omega | (simp; done) | (simp; omega)) | exact ⟨pd_fits (by assumption) rfl, pd_pl _⟩)))
        refine wn (wA rfl rfl rfl (by repeat' (first | exact trivial | exact rfl | assumption | apply And.intro)) (callable (by decide)) (c_does p p x hap.sp hap.sp.rp (by omega) (by omega) hkx)) rfl ?_
        have hsx := hap.sp.does x
        have hx := hsx.pw
        rw [sameP_self]
        have hno := noOwns_ppb (doesP p x) (doesP p x) (.bool true)
        obtain ⟨d, hd⟩ : ∃ d, d = doesP p x := ⟨_, rfl⟩
        have hsx1 := hsn x
        rw [← hd] at hsx hx hno hsx1 ⊢
        repeat (first | ((refine wl rfl rfl ?_ ?_); try (first | ((repeat' apply And.intro) <;> first | exact trivial | exact rfl | omega | (simp; done) | (simp; omega)) | exact pd_pl _)))
        first | refine OpsAt.sayB (d := 11) rfl (y := pd zeroP) (rfl) ?_ | refine Run.sayB (d := 11) rfl (y := pd zeroP) (rfl) ?_
        refine wv rfl rfl (pd_pl _) (pd_sto hx hz rfl) rfl ?_
        first | refine OpsAt.sayB (d := 11) rfl (y := pd d) (rfl) ?_ | refine Run.sayB (d := 11) rfl (y := pd d) (rfl) ?_
        first | refine OpsAt.sayB (d := 12) rfl (y := pd zeroP) (rfl) ?_ | refine Run.sayB (d := 12) rfl (y := pd zeroP) (rfl) ?_
        refine wv rfl rfl (pd_pl _) (pd_sto hx hz rfl) rfl ?_
        first | refine OpsAt.sayB (d := 12) rfl (y := pd d) (rfl) ?_ | refine Run.sayB (d := 12) rfl (y := pd d) (rfl) ?_
        repeat (first | refine wb ?_ | ((refine wl rfl rfl ?_ ?_); try (first | ((repeat' apply And.intro) <;> first | exact trivial | exact rfl | omega | (simp; done) | (simp; omega)))))
        first | refine OpsAt.say (d := 13) rfl (y := .v (.bool true)) (rfl) ?_ | refine Run.say (d := 13) rfl (y := .v (.bool true)) (rfl) ?_ | refine OpsR.say (q := 13) rfl (y := .v (.bool true)) (rfl) ?_ | refine OpsB.say (d := 13) rfl (y := .v (.bool true)) (rfl) ?_
        refine Run.keep [4, 5, 6, 7, 11, 12, 13, 38, 39, 40] rfl ?_
        refine wa ?_
        refine Run.opsB agree mixed rfl rfl ?_
        repeat (first | ((refine yb rfl rfl ?_ ?_); try (first | exact ⟨pd_fits (by assumption) rfl, pd_pl _⟩)))
        refine yd rfl rfl (pd_pl _) (pd_sto hx hw rfl) ?_
        refine yd rfl rfl (pd_pl _) (pd_sto hx hw rfl) ?_
        repeat (first | refine ya ?_)
        refine Run.keep [4, 5, 6, 7, 13, 38, 39, 40] rfl ?_
        refine Run.at (l' := [(4, .d (.v (.bool false))), (5, .box (pd d)), (6, .d (.v (.bool true))), (7, .box (pd d)), (13, .d (.v (.bool true))), (38, .d (.lst .any 3 (ads l))), (39, .d (.v (.int .i64 l.length))), (40, .d (.v (.int .i64 pre.length)))]) rfl ?_
        have hpd1 : ((pd d).get []).pl = true := pd_pl d
        refine wa ?_
        refine Run.ops1 (ld := []) rfl ?_
        repeat (first | ((first | refine wl rfl rfl ?_ ?_ | refine wm rfl rfl rfl ?_ ?_); try (first | ((repeat' apply And.intro) <;> first | exact trivial | exact rfl | omega | (simp; done) | (simp; omega)) | exact ⟨pd_fits (by assumption) rfl, pd_pl _⟩)))
        refine wo rfl (wA rfl rfl rfl (by repeat' (first | exact trivial | exact rfl | assumption | apply And.intro)) (callable (by decide)) (c_Ours5 d hx)) rfl ?_
        repeat (first | ((refine wm rfl rfl rfl ?_ ?_); try (first | exact ⟨pd_fits (by assumption) rfl, pd_pl _⟩)))
        refine wo rfl (Ev.bins rfl rfl rfl (by repeat' (first | exact trivial | exact rfl | assumption | apply And.intro)) (neRef hx)) rfl ?_
        repeat (first | ((first | refine wl rfl rfl ?_ ?_ | refine wm rfl rfl rfl ?_ ?_); try (first | ((repeat' apply And.intro) <;> first | exact trivial | exact rfl | omega | (simp; done) | (simp; omega)) | exact ⟨pd_fits (by assumption) rfl, pd_pl _⟩)))
        refine wo rfl (wA rfl rfl rfl (by repeat' (first | exact trivial | exact rfl | assumption | apply And.intro)) (callable (by decide)) (c_Sound d hsx)) rfl ?_
        repeat (first | refine wb ?_ | refine wc ?_ | refine we ?_ | refine wf ?_ | ((first | refine wl rfl rfl ?_ ?_ | refine wn (wp rfl rfl rfl rfl rfl ?_) rfl ?_ | refine wm rfl rfl rfl ?_ ?_ | refine wu rfl ?_ ?_); try (first | ((repeat' apply And.intro) <;> first | exact trivial | exact rfl | omega | (simp; done) | (simp; omega)))))
        first | refine OpsAt.say (d := 40) rfl (y := .v (.int .i64 ((pre ++ [x]).length : Nat))) (by rw [wrap64_in ((pre.length : Int) + 1) (by omega)]; simp) ?_ | refine Run.say (d := 40) rfl (y := .v (.int .i64 ((pre ++ [x]).length : Nat))) (by rw [wrap64_in ((pre.length : Int) + 1) (by omega)]; simp) ?_ | refine OpsR.say (q := 40) rfl (y := .v (.int .i64 ((pre ++ [x]).length : Nat))) (by rw [wrap64_in ((pre.length : Int) + 1) (by omega)]; simp) ?_ | refine OpsB.say (d := 40) rfl (y := .v (.int .i64 ((pre ++ [x]).length : Nat))) (by rw [wrap64_in ((pre.length : Int) + 1) (by omega)]; simp) ?_
        first | refine OpsAt.sayB (d := 5) rfl (y := pd (actsP n (pre ++ [x]))) (by rw [hsx1]) ?_ | refine Run.sayB (d := 5) rfl (y := pd (actsP n (pre ++ [x]))) (by rw [hsx1]) ?_
        first | refine OpsAt.sayB (d := 7) rfl (y := pd (actsP n (pre ++ [x]))) (by rw [hsx1]) ?_ | refine Run.sayB (d := 7) rfl (y := pd (actsP n (pre ++ [x]))) (by rw [hsx1]) ?_
        refine Run.keep [4, 5, 6, 7, 38, 39, 40] rfl ?_
        exact ih (pre ++ [x], post) (by simp [hpp]) (by simp)
    · repeat (first | refine wa ?_ | refine wb ?_ | refine wc ?_ | ((refine wl rfl rfl ?_ ?_); try (first | exact trivial)) | refine wj rfl ?_)
      exact wD (wE rfl rfl rfl)
  · have his2 : is = false := his.trans (decide_eq_false hr)
    subst his2
    refine Run.at (l' := [(4, .d (.v (.bool false))), (5, .box (pd s0)), (6, .d (.v (.bool false))), (7, .box (pd s0)), (38, .d (.lst .any 3 (ads l))), (39, .d (.v (.int .i64 l.length))), (40, .d (.v (.int .i64 (0 : Nat))))]) (by rw [← hlx]; rfl) ?_
    refine Run.loopL (α := Unit) (fun _ => True) (fun _ => [(4, .d (.v (.bool false))), (5, .box (pd s0)), (6, .d (.v (.bool false))), (7, .box (pd s0)), (38, .d (.lst .any 3 (ads l))), (39, .d (.v (.int .i64 l.length))), (40, .d (.v (.int .i64 (0 : Nat))))]) (fun _ => 0) () trivial ?_
    rintro ⟨⟩ _ _
    repeat (first | refine wa ?_ | refine wb ?_ | refine wc ?_ | ((refine wn (wp rfl rfl rfl rfl rfl ?_) rfl ?_); try (first | ((repeat' apply And.intro) <;> first | exact trivial | exact rfl | omega | (simp; done) | (simp; omega)))))
    refine Run.condB rfl rfl (fun hb => ?_) (fun hb => ?_)
    · cases l with
      | nil => simp at hb
      | cons x post =>
        have hgd : (ads (x :: post)).getD (((0 : Nat) : Int)).toNat un = ad x := rfl
        repeat (first | refine wa ?_ | refine wc ?_ | refine wd ?_ | refine wf ?_ | ((refine wl rfl rfl ?_ ?_)))
        · exact ⟨rfl, rfl, by omega, by rw [ads_len]; simp⟩
        first | refine OpsAt.say (d := 42) rfl (y := .pt (ad x)) (congrArg D.pt hgd) ?_ | refine Run.say (d := 42) rfl (y := .pt (ad x)) (congrArg D.pt hgd) ?_ | refine OpsR.say (q := 42) rfl (y := .pt (ad x)) (congrArg D.pt hgd) ?_ | refine OpsB.say (d := 42) rfl (y := .pt (ad x)) (congrArg D.pt hgd) ?_
        repeat (first | ((refine wl rfl rfl ?_ ?_); try (first | ((repeat' apply And.intro) <;> first | exact trivial | exact rfl | omega | (simp; done) | (simp; omega)))))
        refine wv rfl rfl rfl rfl rfl ?_
        first | refine OpsAt.sayB (d := 10) rfl (y := ad x) (rfl) ?_ | refine Run.sayB (d := 10) rfl (y := ad x) (rfl) ?_
        repeat (first | refine wa ?_ | refine wb ?_ | refine wc ?_ | ((first | refine wl rfl rfl ?_ ?_ | refine wt rfl ?_ ?_); try (first | exact trivial | ((repeat' apply And.intro) <;> first | exact trivial | exact rfl | omega | (simp; done) | (simp; omega)))))
        exact wD (wE rfl rfl rfl)
    · repeat (first | refine wa ?_ | refine wb ?_ | refine wc ?_ | ((refine wl rfl rfl ?_ ?_); try (first | exact trivial)) | refine wj rfl ?_)
      exact wD (wE rfl rfl rfl)
end Go.Proofs.YtaflihoopnjcgaaDoor

namespace Go.Proofs.YtaflihoopnjcgaaDoor.rowPoolActs
open Go Go.Dat
open Go.ChangeShapes Go.WideShapes Go.ChangeAt Go.RowKit

theorem same : Rows.poolActsRow.laid = one := rfl
theorem own : ownKnob Tryd.prog.godebug = none := by kernel_rfl
theorem laidOut : laidOutB Tryd.prog = true := by kernel_rfl

set_option maxRecDepth 100000 in
theorem lifted (os : Os) (started : os.Started) (H : Type) (enc : TypeId × Value → H) :
    ReturnsInHanded {} Tryd.checked os 3 .any (fun w args => (Rows.poolActsSpec.pre enc Tryd.prog Tryd.f3 [] false w args ∧ laidMetH Tryd.prog one w) ∧ sizedMet enc Tryd.prog Tryd.f3 (OpenSpec.ofChange Rows.poolActsSpec) false w args)
      (Rows.poolActsSpec.post enc Tryd.prog Tryd.f3 false true false false) := by
  refine returnsInHanded_of_change_and (C := Tryd.checked) (X := fun w _ => laidMetH Tryd.prog one w) (fun _ _ _ hh h => h.of_heap hh) own started (by kernel_rfl) Tryd.func3
    (ChangeSpec.witness_shaped (enc := enc) (C := Tryd.checked) (os := os) (X := fun w _ => laidMetH Tryd.prog one w) false (World.laidAll Tryd.prog os one) #[.int .i64 0, .slice none 0 0] 8 (World.laidAll_os _ _ _) (World.shaped_of_ZipB (by kernel_rfl) (by kernel_rfl)) (by kernel_rfl) (by kernel_rfl) (by kernel_rfl) (one_met os _)) ?_
  intro W base args ds gs before hval0 hW _ _ hL _
  obtain ⟨tdom, tab⟩ := one_gives hL
  have hval : ∀ (j : Nat) t v, Tryd.f3.params[j]? = some t → args[j]? = some v → Value.okWide Tryd.prog W .any base t v := hval0
  have hW' := hW
  obtain ⟨p, q, hA0, hV, rfl, hfz, hnd⟩ := hW
  have hA : DataW.TrodAll enc Tryd.prog W 0 (fun _ => true) true Tryd.f3.params.toList args.toList ds p := hA0
  rw [Tryd.params3] at hA hval
  obtain ⟨v0, vs0, d0, ds0, p0, q0, hargs, rfl, rfl, h0, r0⟩ := trodAll_cons hA
  obtain ⟨v1, vs1, d1, ds1, p1, q1, rfl, rfl, rfl, h1, r1⟩ := trodAll_cons r0
  obtain ⟨rfl, rfl, rfl⟩ := trodAll_nil r1
  obtain rfl : args = #[v0, v1] := by cases args; simp_all
  obtain ⟨rfl, rfl⟩ := trodVars_none hV
  have lt0 : ∀ x ∈ p0, x.block < W.heap.size := by obtain ⟨m, hm⟩ := h0; exact DataW.trod_lt m _ _ _ hm
  obtain ⟨a0, e0⟩ := pI.argI (fun _ => rfl) Tryd.underlying3 (hval 0 3 v0 rfl rfl) h0
  have lt1 : ∀ x ∈ p1, x.block < W.heap.size := by obtain ⟨m, hm⟩ := h1; exact DataW.trod_lt m _ _ _ hm
  obtain ⟨a1, e1⟩ := pActs.argSl (fun _ => rfl) Tryd.underlying22 (hval 1 22 v1 rfl rfl) h1
  have hrpv : Rpv (fun b => b < W.heap.size) W [.v (.int .i64 a0), .lst .any 3 (ads a1.1)] [v0, v1] := (Rpv.ofCons e0 (Rpv.ofCons e1 Rpv.ofNil))
  clear hA0 hval0
  refine ((c_PoolActs a0 a1.1 a1.2).walk ⟨tdom, tab⟩ hrpv).mono fun e W' ⟨he, bel⟩ => ?_
  subst he
  exact ⟨_, rfl, _, _, _, [], _, [], hW', trodAll_mk1 (shut_bool Tryd.underlying4 _), (trodAll_cons_mk (Below.trod laidOut (by kernel_rfl) (of_decide_eq_true (by kernel_rfl)) h0 bel lt0) (trodAll_cons_mk (Below.trod laidOut (by kernel_rfl) (of_decide_eq_true (by kernel_rfl)) h1 bel lt1) trodAll_mk0)), rfl, bel.frame _, fun h => by cases h⟩

theorem over : Rows.poolActsRow.holds Tryd.pinned (OpenSpec.ofChange Rows.poolActsSpec) :=
  OpenClaim.holds_of_wide 3 Tryd.f3 rfl rfl rfl rfl rfl rfl rfl ⟨rfl, rfl, rfl, rfl, rfl⟩ rfl rfl rfl rfl rfl (by kernel_rfl) Tryd.func3 (by kernel_rfl)
    (of_decide_eq_true (by kernel_rfl)) (by unfold Func.isWrapper; first | (rw [if_pos (by decide +kernel)]; kernel_rfl) | (rw [if_neg (by decide +kernel)]; exact ⟨rfl, rfl⟩))
    (fun os started H enc _ => lifted os started H enc)

theorem proved : Rows.PoolActsSaid := over
end Go.Proofs.YtaflihoopnjcgaaDoor.rowPoolActs

namespace Go.Proofs.YtaflihoopnjcgaaDoor.cardPoolActs
open Go

theorem proved : Rows.PoolActsCardSaid :=
  Claim7.holds_tied_plain_at .later [] [.data] true (true, "35591b53fd09d4d5934b113e4c7e45025bbae91d012d3ef1f358135f0f8ec358") false
    rowPoolActs.proved (fun _ h => by cases h) (by kernel_rfl) (fun _ h => by cases h) poolActs_row_tie rfl ⟨rfl, rfl⟩ (by kernel_rfl) rfl
    (fun f fn hf hfn => by
      obtain rfl : f = 3 := Option.some.inj ((show Tryd.prog.funcNamed "warpbeam/warpbeamlaw05.PoolActs" = some 3 by kernel_rfl).symm.trans hf) |>.symm
      obtain rfl : fn = Tryd.f3 := (Option.some.inj (Tryd.func3.symm.trans hfn)).symm
      exact ⟨by kernel_rfl, fun j t ht => by
        rw [Tryd.params3] at ht
        have hm : t ∈ [3, 22] := by simpa using Array.mem_of_getElem? ht
        have hall : ([3, 22].all fun u => !Tryd.prog.wantsStandIn u) = true := by kernel_rfl
        exact (show Tryd.prog.wantsStandIn t = false by simpa using List.all_eq_true.1 hall t hm)⟩)
    (by kernel_rfl)
end Go.Proofs.YtaflihoopnjcgaaDoor.cardPoolActs
