/- Texts W10, W11, W12, W13, W14, W15, W16 in one file. No conditions. -/
import Derived.Test.YtaflihoopnjcgaaDoorWA
import Derived.Test.YtaflihoopnjcgaaDoorTD
import Derived.Test.YtaflihoopnjcgaaDoorTC

namespace Go.Proofs.YtaflihoopnjcgaaDoor
open Go Go.Dat

theorem has_taken (q : PL) (i : Int) : hasN (takenP q) i = (hasN q.lv i || hasN q.dn i) := by
  unfold hasN takenP
  rw [Nat.testBit_or]
  cases small i <;> simp
theorem free_is (q : PL) (i : Int) : (!hasN q.lv i && !hasN q.dn i) = !hasN (takenP q) i := by
  rw [has_taken, Bool.not_or]

theorem c_rFree (q : PL) (i : Int) (h : PW q) : DFun Tryd.prog 38 [pd q, .v (.int .i64 i)] (.v (.bool (!hasN (takenP q) i))) := by
  rw [← free_is]
  refine DFun.ofRun agree mixed Tryd.func38 rfl rfl ?_
  repeat (first | refine wa ?_ | refine wb ?_ | refine wc ?_ | ((refine wl rfl rfl ?_ ?_); try (first | exact trivial | ((repeat' apply And.intro) <;> first | exact trivial | exact rfl | omega | (simp; done) | (simp; omega)) | exact pd_fa (by assumption) rfl (by decide) | exact pd_pl _)))
  first | refine OpsAt.say (d := 6) rfl (y := S q.lv) (rfl) ?_ | refine Run.say (d := 6) rfl (y := S q.lv) (rfl) ?_ | refine OpsR.say (q := 6) rfl (y := S q.lv) (rfl) ?_ | refine OpsB.say (d := 6) rfl (y := S q.lv) (rfl) ?_
  skip
  refine wn (wA rfl rfl rfl (by repeat' (first | exact trivial | exact rfl | assumption | apply And.intro)) (callable (by decide)) (c_refHas q.lv i h.lm)) rfl ?_
  cases h1 : hasN q.lv i with
  | true =>
    repeat (first | refine wb ?_ | ((refine wl rfl rfl ?_ ?_); try (first | ((repeat' apply And.intro) <;> first | exact trivial | exact rfl | omega | (simp; done) | (simp; omega)))) | refine ws rfl rfl ?_)
    exact wD (wE rfl rfl rfl)
  | false =>
    repeat (first | ((first | refine wl rfl rfl ?_ ?_ | refine wm rfl rfl rfl ?_ ?_); try (first | ((repeat' apply And.intro) <;> first | exact trivial | exact rfl | omega | (simp; done) | (simp; omega)) | exact pd_fa (by assumption) rfl (by decide))))
    first | refine OpsAt.say (d := 12) rfl (y := S q.dn) (rfl) ?_ | refine Run.say (d := 12) rfl (y := S q.dn) (rfl) ?_ | refine OpsR.say (q := 12) rfl (y := S q.dn) (rfl) ?_ | refine OpsB.say (d := 12) rfl (y := S q.dn) (rfl) ?_
    skip
    refine wo rfl (wA rfl rfl rfl (by repeat' (first | exact trivial | exact rfl | assumption | apply And.intro)) (callable (by decide)) (c_refHas q.dn i h.dm)) rfl ?_
    repeat (first | refine wb ?_ | ((first | refine wl rfl rfl ?_ ?_ | refine wm rfl rfl rfl ?_ ?_); try (first | ((repeat' apply And.intro) <;> first | exact trivial | exact rfl | omega | (simp; done) | (simp; omega)))))
    exact wD (wE rfl rfl rfl)

theorem c_rEnd (q : PL) (s : Int) (h : PW q) : DFun Tryd.prog 33 [pd q, .v (.int .i64 s)] (.tup [pd (endP q s).1, .v (.int .i64 (endP q s).2)]) := by
  refine DFun.ofRun agree mixed Tryd.func33 rfl rfl ?_
  have hz := pw0
  repeat (first | refine wa ?_ | refine wb ?_ | refine wc ?_ | ((refine wl rfl rfl ?_ ?_); try (first | exact trivial | ((repeat' apply And.intro) <;> first | exact trivial | exact rfl | omega | (simp; done) | (simp; omega)) | exact pd_fa (by assumption) rfl (by decide) | exact pd_pl _)))
  first | refine OpsAt.say (d := 7) rfl (y := S q.lv) (rfl) ?_ | refine Run.say (d := 7) rfl (y := S q.lv) (rfl) ?_ | refine OpsR.say (q := 7) rfl (y := S q.lv) (rfl) ?_ | refine OpsB.say (d := 7) rfl (y := S q.lv) (rfl) ?_
  first | refine OpsAt.sayB (d := 4) rfl (y := pd zeroP) (rfl) ?_ | refine Run.sayB (d := 4) rfl (y := pd zeroP) (rfl) ?_
  skip
  refine wn (wA rfl rfl rfl (by repeat' (first | exact trivial | exact rfl | assumption | apply And.intro)) (callable (by decide)) (c_refHas q.lv s h.lm)) rfl ?_
  repeat (first | refine wb ?_ | ((refine wl rfl rfl ?_ ?_); try (first | ((repeat' apply And.intro) <;> first | exact trivial | exact rfl | omega | (simp; done) | (simp; omega)))))
  refine Run.condB rfl rfl (fun h1 => ?_) (fun h1 => ?_)
  · have e : endP q s = (q, 3) := by unfold endP; rw [if_pos h1]
    rw [e]
    repeat (first | refine wa ?_ | refine wb ?_ | refine wc ?_ | ((refine wl rfl rfl ?_ ?_); try (first | exact trivial | exact ⟨pd_fits (by assumption) rfl, pd_pl _⟩)) | refine wv rfl rfl (pd_pl _) (pd_sto (by assumption) (by assumption) rfl) rfl ?_)
    exact wD (Ends.tupE agree rfl ⟨⟨pd_fits h rfl, pd_pl _⟩, rfl, trivial⟩ rfl rfl)
  · have e : endP q s = ({ q with lv := lessN q.lv s, dn := withN q.dn s }, 0) := by unfold endP; rw [if_neg (by rw [h1]; decide)]
    rw [e]
    repeat (first | refine wa ?_ | refine wc ?_ | refine wf ?_ | ((refine wl rfl rfl ?_ ?_); try (first | ((repeat' apply And.intro) <;> first | exact trivial | exact rfl | omega | (simp; done) | (simp; omega)) | exact pd_fa (by assumption) rfl (by decide))))
    first | refine OpsAt.say (d := 13) rfl (y := S q.lv) (rfl) ?_ | refine Run.say (d := 13) rfl (y := S q.lv) (rfl) ?_ | refine OpsR.say (q := 13) rfl (y := S q.lv) (rfl) ?_ | refine OpsB.say (d := 13) rfl (y := S q.lv) (rfl) ?_
    refine wn (wA rfl rfl rfl (by repeat' (first | exact trivial | exact rfl | assumption | apply And.intro)) (callable (by decide)) (c_rLess q.lv s h.lm)) rfl ?_
    repeat (first | refine wb ?_ | ((first | refine wl rfl rfl ?_ ?_ | refine wv rfl rfl ?_ rfl rfl ?_); try (first | ((repeat' apply And.intro) <;> first | exact trivial | exact rfl | omega | (simp; done) | (simp; omega)) | exact pd_fa (by assumption) rfl (by decide))))
    first | refine OpsAt.sayB (d := 2) rfl (y := pd { q with lv := lessN q.lv s }) (rfl) ?_ | refine Run.sayB (d := 2) rfl (y := pd { q with lv := lessN q.lv s }) (rfl) ?_
    have h2 := h.withLv (lessN_lt q.lv s)
    repeat (first | refine wa ?_ | refine wc ?_ | ((refine wl rfl rfl ?_ ?_); try (first | ((repeat' apply And.intro) <;> first | exact trivial | exact rfl | omega | (simp; done) | (simp; omega)) | exact pd_fa (by assumption) rfl (by decide))))
    first | refine OpsAt.say (d := 18) rfl (y := S q.dn) (rfl) ?_ | refine Run.say (d := 18) rfl (y := S q.dn) (rfl) ?_ | refine OpsR.say (q := 18) rfl (y := S q.dn) (rfl) ?_ | refine OpsB.say (d := 18) rfl (y := S q.dn) (rfl) ?_
    refine wn (wA rfl rfl rfl (by repeat' (first | exact trivial | exact rfl | assumption | apply And.intro)) (callable (by decide)) (c_rWith q.dn s h.dm)) rfl ?_
    repeat (first | refine wb ?_ | ((first | refine wl rfl rfl ?_ ?_ | refine wv rfl rfl ?_ rfl rfl ?_); try (first | ((repeat' apply And.intro) <;> first | exact trivial | exact rfl | omega | (simp; done) | (simp; omega)) | exact pd_fa (by assumption) rfl (by decide))))
    first | refine OpsAt.sayB (d := 2) rfl (y := pd { q with lv := lessN q.lv s, dn := withN q.dn s }) (rfl) ?_ | refine Run.sayB (d := 2) rfl (y := pd { q with lv := lessN q.lv s, dn := withN q.dn s }) (rfl) ?_
    have h3 := h2.withDn (withN_lt s h.dm)
    repeat (first | refine wa ?_ | refine wb ?_ | refine wc ?_ | ((refine wl rfl rfl ?_ ?_); try (first | exact trivial | exact ⟨pd_fits (by assumption) rfl, pd_pl _⟩)) | refine wv rfl rfl (pd_pl _) (pd_sto (by assumption) (by assumption) rfl) rfl ?_)
    exact wD (Ends.tupE agree rfl ⟨⟨pd_fits h3 rfl, pd_pl _⟩, rfl, trivial⟩ rfl rfl)

theorem c_rEdge (q : PL) (a b : Int) (h : PW q) : DFun Tryd.prog 32 [pd q, .v (.int .i64 a), .v (.int .i64 b)] (.tup [pd (edgeP q a b).1, .v (.int .i64 (edgeP q a b).2)]) := by
  refine DFun.ofRun agree mixed Tryd.func32 rfl rfl ?_
  have hz := pw0
  repeat (first | refine wa ?_ | refine wb ?_ | refine wc ?_ | ((first | refine wl rfl rfl ?_ ?_ | refine wn (wp rfl rfl rfl rfl rfl ?_) rfl ?_); try (first | exact trivial | ((repeat' apply And.intro) <;> first | exact trivial | exact rfl | omega | (simp; done) | (simp; omega)) | exact pd_pl _)))
  first | refine OpsAt.sayB (d := 6) rfl (y := pd zeroP) (rfl) ?_ | refine Run.sayB (d := 6) rfl (y := pd zeroP) (rfl) ?_
  refine Run.condB rfl rfl (fun h0 => ?_) (fun h0 => ?_)
  · have h0' := of_decide_eq_true h0
    have e : edgeP q a b = (q, 2) := by unfold edgeP; rw [if_pos h0']
    rw [e]
    repeat (first | refine wa ?_ | refine wb ?_ | refine wc ?_ | ((refine wl rfl rfl ?_ ?_); try (first | exact trivial | exact ⟨pd_fits (by assumption) rfl, pd_pl _⟩)) | refine wv rfl rfl (pd_pl _) (pd_sto (by assumption) (by assumption) rfl) rfl ?_)
    exact wD (Ends.tupE agree rfl ⟨⟨pd_fits h rfl, pd_pl _⟩, rfl, trivial⟩ rfl rfl)
  have hab := of_decide_eq_false h0
  have hpl : ((pd q).get []).pl = true := pd_pl q
  repeat (first | refine wa ?_ | refine wc ?_ | refine wf ?_ | ((refine wl rfl rfl ?_ ?_); try (first | ((repeat' apply And.intro) <;> first | exact trivial | exact rfl | omega | (simp; done) | (simp; omega)) | exact ⟨pd_fits (by assumption) rfl, pd_pl _⟩)))
  refine wn (wA rfl rfl rfl (by repeat' (first | exact trivial | exact rfl | assumption | apply And.intro)) (callable (by decide)) (c_rFree q a h)) rfl ?_
  cases ha : hasN (takenP q) a with
  | false =>
    have e : edgeP q a b = (q, 3) := by unfold edgeP; rw [if_neg hab, ha]; rfl
    rw [e]
    repeat (first | refine wa ?_ | refine wb ?_ | refine wc ?_ | ((first | refine wl rfl rfl ?_ ?_ | refine wt rfl ?_ ?_); try (first | exact trivial | ((repeat' apply And.intro) <;> first | exact trivial | exact rfl | omega | (simp; done) | (simp; omega)) | exact ⟨pd_fits (by assumption) rfl, pd_pl _⟩)) | refine ws rfl rfl ?_ | refine wv rfl rfl (pd_pl _) (pd_sto (by assumption) (by assumption) rfl) rfl ?_)
    exact wD (Ends.tupE agree rfl ⟨⟨pd_fits h rfl, pd_pl _⟩, rfl, trivial⟩ rfl rfl)
  | true =>
  repeat (first | ((first | refine wl rfl rfl ?_ ?_ | refine wm rfl rfl rfl ?_ ?_); try (first | ((repeat' apply And.intro) <;> first | exact trivial | exact rfl | omega | (simp; done) | (simp; omega)) | exact ⟨pd_fits (by assumption) rfl, pd_pl _⟩)))
  refine wo rfl (wA rfl rfl rfl (by repeat' (first | exact trivial | exact rfl | assumption | apply And.intro)) (callable (by decide)) (c_rFree q b h)) rfl ?_
  cases hb : hasN (takenP q) b with
  | false =>
    have e : edgeP q a b = (q, 3) := by unfold edgeP; rw [if_neg hab, ha, hb]; rfl
    rw [e]
    repeat (first | refine wa ?_ | refine wb ?_ | refine wc ?_ | ((first | refine wl rfl rfl ?_ ?_ | refine wt rfl ?_ ?_); try (first | exact trivial | ((repeat' apply And.intro) <;> first | exact trivial | exact rfl | omega | (simp; done) | (simp; omega)) | exact ⟨pd_fits (by assumption) rfl, pd_pl _⟩)) | refine wv rfl rfl (pd_pl _) (pd_sto (by assumption) (by assumption) rfl) rfl ?_)
    exact wD (Ends.tupE agree rfl ⟨⟨pd_fits h rfl, pd_pl _⟩, rfl, trivial⟩ rfl rfl)
  | true =>
  repeat (first | refine wa ?_ | refine wb ?_ | refine wc ?_ | refine wf ?_ | ((first | refine wl rfl rfl ?_ ?_ | refine wu rfl ?_ ?_); try (first | ((repeat' apply And.intro) <;> first | exact trivial | exact rfl | omega | (simp; done) | (simp; omega)) | exact pd_fa (by assumption) rfl (by decide) | exact pd_ld1 (by assumption) rfl | exact pd_ld2 (by assumption) rfl)))
  first | refine OpsAt.say (d := 26) rfl (y := gr q.g) (rfl) ?_ | refine Run.say (d := 26) rfl (y := gr q.g) (rfl) ?_ | refine OpsR.say (q := 26) rfl (y := gr q.g) (rfl) ?_ | refine OpsB.say (d := 26) rfl (y := gr q.g) (rfl) ?_
  first | refine OpsAt.say (d := 28) rfl (y := ord q.o) (rfl) ?_ | refine Run.say (d := 28) rfl (y := ord q.o) (rfl) ?_ | refine OpsR.say (q := 28) rfl (y := ord q.o) (rfl) ?_ | refine OpsB.say (d := 28) rfl (y := ord q.o) (rfl) ?_
  have hp1 : (gr q.g).pl = true := gr_pl _
  have hp2 : (ord q.o).pl = true := ord_pl _
  refine wn (wA rfl rfl rfl (by repeat' (first | exact trivial | exact rfl | assumption | apply And.intro)) (callable (by decide)) (c_rInsert q.g q.o a b h.g h.o)) rfl ?_
  have hg2 := ins_gok h.g q.o a b
  have ho2 := ins_len q.g h.o a b
  have e : ∀ is, (insG q.g q.o a b).2.2 = is → edgeP q a b = if is then ({ q with g := (insG q.g q.o a b).1, o := (insG q.g q.o a b).2.1 }, 0) else (q, 5) := fun is hi => by
    unfold edgeP; rw [if_neg hab, ha, hb, hi]; rfl
  generalize (insG q.g q.o a b).1 = g2 at *
  generalize (insG q.g q.o a b).2.1 = o2 at *
  generalize (insG q.g q.o a b).2.2 = is at *
  rw [e is rfl]
  clear e
  have hp3 : (gr g2).pl = true := gr_pl _
  have hp4 : (ord o2).pl = true := ord_pl _
  have hno : noOwns [gr g2, ord o2, .v (.bool is)] = true := noOwns_gl _ _ _
  repeat (first | ((refine wl rfl rfl ?_ ?_); try (first | ((repeat' apply And.intro) <;> first | exact trivial | exact rfl | omega | (simp; done) | (simp; omega)))))
  first | refine OpsAt.say (d := 32) rfl (y := gr g2) (rfl) ?_ | refine Run.say (d := 32) rfl (y := gr g2) (rfl) ?_ | refine OpsR.say (q := 32) rfl (y := gr g2) (rfl) ?_ | refine OpsB.say (d := 32) rfl (y := gr g2) (rfl) ?_
  first | refine OpsAt.say (d := 33) rfl (y := ord o2) (rfl) ?_ | refine Run.say (d := 33) rfl (y := ord o2) (rfl) ?_ | refine OpsR.say (q := 33) rfl (y := ord o2) (rfl) ?_ | refine OpsB.say (d := 33) rfl (y := ord o2) (rfl) ?_
  first | refine OpsAt.say (d := 34) rfl (y := .v (.bool is)) (rfl) ?_ | refine Run.say (d := 34) rfl (y := .v (.bool is)) (rfl) ?_ | refine OpsR.say (q := 34) rfl (y := .v (.bool is)) (rfl) ?_ | refine OpsB.say (d := 34) rfl (y := .v (.bool is)) (rfl) ?_
  refine wv rfl rfl hp3 (gr_stoAll (z := List.replicate 32 0) hg2.1 rfl rfl) rfl ?_
  first | refine OpsAt.sayB (d := 8) rfl (y := gr g2) (rfl) ?_ | refine Run.sayB (d := 8) rfl (y := gr g2) (rfl) ?_
  refine wv rfl rfl hp4 (ord_stoAll (z := List.replicate 32 0) ho2 rfl rfl) rfl ?_
  first | refine OpsAt.sayB (d := 9) rfl (y := ord o2) (rfl) ?_ | refine Run.sayB (d := 9) rfl (y := ord o2) (rfl) ?_
  repeat (first | refine wa ?_ | refine wb ?_ | refine wc ?_ | ((refine wl rfl rfl ?_ ?_); try (first | ((repeat' apply And.intro) <;> first | exact trivial | exact rfl | omega | (simp; done) | (simp; omega)))))
  refine Run.condB rfl rfl (fun hi => ?_) (fun hi => ?_)
  · have hi2 : is = false := by cases is with | false => rfl | true => cases hi
    subst hi2
    repeat (first | refine wa ?_ | refine wb ?_ | refine wc ?_ | ((refine wl rfl rfl ?_ ?_); try (first | exact trivial | exact ⟨pd_fits (by assumption) rfl, pd_pl _⟩)) | refine wv rfl rfl (pd_pl _) (pd_sto (by assumption) (by assumption) rfl) rfl ?_)
    exact wD (Ends.tupE agree rfl ⟨⟨pd_fits h rfl, pd_pl _⟩, rfl, trivial⟩ rfl rfl)
  · have hi2 : is = true := by cases is with | true => rfl | false => cases hi
    subst hi2
    have h2 := h.withG hg2
    refine Run.keep [1, 2, 3, 6, 8, 9] rfl ?_
    repeat (first | refine wf ?_)
    refine wa ?_
    refine wc ?_
    repeat (first | ((refine wl rfl rfl ?_ ?_)))
    · exact ⟨gr_fits hg2.1 rfl, gr_pl _⟩
    first | refine OpsAt.say (d := 38) rfl (y := gr g2) (rfl) ?_ | refine Run.say (d := 38) rfl (y := gr g2) (rfl) ?_ | refine OpsR.say (q := 38) rfl (y := gr g2) (rfl) ?_ | refine OpsB.say (d := 38) rfl (y := gr g2) (rfl) ?_
    repeat (first | ((refine wl rfl rfl ?_ ?_); try (first | ((repeat' apply And.intro) <;> first | exact trivial | exact rfl | omega | (simp; done) | (simp; omega)))))
    refine wv rfl rfl hp3 (pd_st1 h hg2.1 rfl) rfl ?_
    first | refine OpsAt.sayB (d := 3) rfl (y := pd { q with g := g2 }) (rfl) ?_ | refine Run.sayB (d := 3) rfl (y := pd { q with g := g2 }) (rfl) ?_
    repeat (first | refine wb ?_)
    refine Run.keep [1, 2, 3, 6, 9] rfl ?_
    refine wa ?_
    refine wc ?_
    repeat (first | ((refine wl rfl rfl ?_ ?_)))
    · exact ⟨ord_fits ho2 rfl, ord_pl _⟩
    first | refine OpsAt.say (d := 40) rfl (y := ord o2) (rfl) ?_ | refine Run.say (d := 40) rfl (y := ord o2) (rfl) ?_ | refine OpsR.say (q := 40) rfl (y := ord o2) (rfl) ?_ | refine OpsB.say (d := 40) rfl (y := ord o2) (rfl) ?_
    repeat (first | ((refine wl rfl rfl ?_ ?_); try (first | exact pd_fa (by assumption) rfl (by decide))))
    refine wv rfl rfl hp4 (pd_st2 h2 ho2 rfl) rfl ?_
    first | refine OpsAt.sayB (d := 3) rfl (y := pd { q with g := g2, o := o2 }) (rfl) ?_ | refine Run.sayB (d := 3) rfl (y := pd { q with g := g2, o := o2 }) (rfl) ?_
    have h3 : PW { q with g := g2, o := o2 } := ⟨hg2, ho2, h.ids, h.lm, h.dm⟩
    repeat (first | refine wa ?_ | refine wb ?_ | refine wc ?_ | ((refine wl rfl rfl ?_ ?_); try (first | exact trivial | exact ⟨pd_fits (by assumption) rfl, pd_pl _⟩)) | refine wv rfl rfl (pd_pl _) (pd_sto (by assumption) (by assumption) rfl) rfl ?_)
    exact wD (Ends.tupE agree rfl ⟨⟨pd_fits h3 rfl, pd_pl _⟩, rfl, trivial⟩ rfl rfl)
end Go.Proofs.YtaflihoopnjcgaaDoor

namespace Go.Proofs.YtaflihoopnjcgaaDoor
open Go Go.Dat

/-- What the reference may be asked of. -/
structure RP (q : PL) : Prop where
  w : PW q
  d32 : ∀ k, q.dn.testBit k = true → k < 32
  s2 : q.sz ≤ 32
  c0 : 0 ≤ q.ct
theorem SP.rp {q : PL} (h : SP q) : RP q := ⟨h.pw, fun _ hk => h.t32 (.inr hk), h.s2, h.c0⟩
theorem rp0 : RP zeroP := ⟨pw0, (fun k hk => by rw [show zeroP.dn = 0 from rfl, Nat.zero_testBit] at hk; cases hk), (by show (0 : Int) ≤ 32; decide), (by show (0 : Int) ≤ 0; decide)⟩
theorem less_was {s : Nat} (hs : s < M64) {i k : Nat} (hi : i < 32) (h : (lessN s (i : Int)).testBit k = true) : s.testBit k = true := ((less_nat hs hi).1 h).1
theorem RP.go {q : PL} (h : RP q) {i : Nat} (hi : i < 32) : RP (goP q i) :=
  ⟨((h.w.withG (cutTo_gok h.w.g i 32)).withDn (lessN_lt q.dn (i : Int))).withIds i 0, fun k hk => h.d32 k (less_was h.w.dm hi hk), h.s2, h.c0⟩

def rsrc (q : PL) (n : Nat) : Option Nat := (List.range n).foldl (fun acc i => if q.dn.testBit i then srcStep q acc i else acc) none
theorem rsrc_succ (q : PL) (n : Nat) : rsrc q (n + 1) = if q.dn.testBit n then srcStep q (rsrc q n) n else rsrc q n := by
  unfold rsrc
  rw [List.range_succ, List.foldl_append]
  rfl
theorem rsrc_lt (q : PL) : ∀ (n b : Nat), rsrc q n = some b → b < n
  | 0, b, h => by cases h
  | n + 1, b, h => by
    rw [rsrc_succ] at h
    split at h
    · unfold srcStep at h
      split at h
      · cases h; omega
      · have := rsrc_lt q n b h; omega
    · have := rsrc_lt q n b h; omega
theorem rsrc_is {q : PL} (h : ∀ k, q.dn.testBit k = true → k < 32) : rsrc q 32 = srcP q := by
  have h1 : ∀ n, rsrc q (32 + n) = rsrc q 32 := fun n => by
    induction n with
    | zero => rfl
    | succ n ih =>
      rw [show 32 + (n + 1) = 32 + n + 1 by omega, rsrc_succ, if_neg, ih]
      intro hk
      have := h _ hk
      omega
  rw [← h1 32]
  unfold srcP itemsL rsrc
  rw [List.foldl_filter]
def optR : Option Nat → Int
  | none => -1
  | some i => i
theorem turn_outs (g : List Nat) (i : Nat) : outsN (turnG g) (i : Int) = insN g (i : Int) := by
  refine Nat.eq_of_testBit_eq fun k => ?_
  rw [outs_bit, ins_bit, turn_edge]

theorem c_rsource (q : PL) (h : RP q) : DFun Tryd.prog 58 [pd q] (.v (.int .i64 (optR (srcP q)))) := by
  refine DFun.ofRun agree mixed Tryd.func58 rfl rfl ?_
  have hw := h.w
  repeat (first | refine wa ?_ | refine wb ?_ | refine wc ?_ | ((refine wl rfl rfl ?_ ?_); try (first | exact trivial | ((repeat' apply And.intro) <;> first | exact trivial | exact rfl | omega | (simp; done) | (simp; omega)) | exact pd_pl _ | exact pd_ld1 (by assumption) rfl)))
  first | refine OpsAt.say (d := 7) rfl (y := gr q.g) (rfl) ?_ | refine Run.say (d := 7) rfl (y := gr q.g) (rfl) ?_ | refine OpsR.say (q := 7) rfl (y := gr q.g) (rfl) ?_ | refine OpsB.say (d := 7) rfl (y := gr q.g) (rfl) ?_
  have hpg : (gr q.g).pl = true := gr_pl _
  refine wn (wA rfl rfl rfl (by repeat' (first | exact trivial | exact rfl | assumption | apply And.intro)) (callable (by decide)) (c_rTurn q.g hw.g)) rfl ?_
  have htg := turnG_gok q.g
  have hpt : (gr (turnG q.g)).pl = true := gr_pl _
  repeat (first | refine wa ?_ | refine wb ?_ | refine wc ?_ | refine wd ?_ | ((first | refine wl rfl rfl ?_ ?_ | refine wv rfl rfl ?_ rfl rfl ?_); try (first | exact trivial | ((repeat' apply And.intro) <;> first | exact trivial | exact rfl | omega | (simp; done) | (simp; omega)))))
  refine Run.keep [1, 3, 4, 5] rfl ?_
  refine Run.at (l' := [(1, .box (pd q)), (3, .d (.v (.int .i64 (optR (rsrc q 0))))), (4, .box (gr (turnG q.g))), (5, .d (.v (.int .i64 (0 : Nat))))]) rfl ?_
  refine Run.loopL (α := Nat) (fun n => n ≤ 32) (fun n => [(1, .box (pd q)), (3, .d (.v (.int .i64 (optR (rsrc q n))))), (4, .box (gr (turnG q.g))), (5, .d (.v (.int .i64 n)))]) (fun n => 32 - n) 0 (by decide) ?_
  intro n hn ih
  have hlt := rsrc_lt q n
  have hsucc := rsrc_succ q n
  have hend : n = 32 → rsrc q n = srcP q := fun e => by rw [e, rsrc_is h.d32]
  obtain ⟨acc, hacc⟩ : ∃ acc, acc = rsrc q n := ⟨_, rfl⟩
  rw [← hacc] at hlt hsucc hend
  refine Run.at (l' := [(1, .box (pd q)), (3, .d (.v (.int .i64 (optR acc)))), (4, .box (gr (turnG q.g))), (5, .d (.v (.int .i64 n)))]) (by rw [hacc]) ?_
  repeat (first | refine wa ?_ | refine wb ?_ | refine wc ?_ | ((first | refine wl rfl rfl ?_ ?_ | refine wn (wp rfl rfl rfl rfl rfl ?_) rfl ?_); try (first | ((repeat' apply And.intro) <;> first | exact trivial | exact rfl | omega | (simp; done) | (simp; omega)))))
  refine Run.condB rfl rfl (fun hb => ?_) (fun hb => ?_)
  · have hn2 : n < 32 := by simp at hb; omega
    repeat (first | refine wa ?_ | refine wd ?_ | refine wf ?_)
    refine Run.ops1 (ld := []) rfl ?_
    repeat (first | ((refine wl rfl rfl ?_ ?_); try (first | ((repeat' apply And.intro) <;> first | exact trivial | exact rfl | omega | (simp; done) | (simp; omega)) | exact pd_fa (by assumption) rfl (by decide))))
    first | refine OpsAt.say (d := 14) rfl (y := S q.dn) (rfl) ?_ | refine Run.say (d := 14) rfl (y := S q.dn) (rfl) ?_ | refine OpsR.say (q := 14) rfl (y := S q.dn) (rfl) ?_ | refine OpsB.say (d := 14) rfl (y := S q.dn) (rfl) ?_
    skip
    refine wn (wA rfl rfl rfl (by repeat' (first | exact trivial | exact rfl | assumption | apply And.intro)) (callable (by decide)) (c_refHas q.dn n hw.dm)) rfl ?_
    have hhas : hasN q.dn (n : Int) = q.dn.testBit n := has_bit _ _ (by omega)
    have hstay : srcStep q acc n = acc ∨ q.dn.testBit n = false → rsrc q (n + 1) = acc := fun hx => by
      rw [hsucc]
      rcases hx with hx | hx
      · rw [hx]; split <;> rfl
      · rw [hx]; rfl
    cases hd : q.dn.testBit n with
    | false =>
      first | refine OpsAt.say (d := 16) rfl (y := .v (.bool false)) (by rw [hhas, hd]) ?_ | refine Run.say (d := 16) rfl (y := .v (.bool false)) (by rw [hhas, hd]) ?_ | refine OpsR.say (q := 16) rfl (y := .v (.bool false)) (by rw [hhas, hd]) ?_ | refine OpsB.say (d := 16) rfl (y := .v (.bool false)) (by rw [hhas, hd]) ?_
      repeat (first | refine wb ?_ | refine wc ?_ | refine we ?_ | refine wf ?_ | ((first | refine wl rfl rfl ?_ ?_ | refine wn (wp rfl rfl rfl rfl rfl ?_) rfl ?_ | refine wu rfl ?_ ?_); try (first | ((repeat' apply And.intro) <;> first | exact trivial | exact rfl | omega | (simp; done) | (simp; omega)))) | refine ws rfl rfl ?_)
      first | refine OpsAt.say (d := 3) rfl (y := .v (.int .i64 (optR (rsrc q (n + 1))))) (by rw [hstay (.inr hd)]) ?_ | refine Run.say (d := 3) rfl (y := .v (.int .i64 (optR (rsrc q (n + 1))))) (by rw [hstay (.inr hd)]) ?_ | refine OpsR.say (q := 3) rfl (y := .v (.int .i64 (optR (rsrc q (n + 1))))) (by rw [hstay (.inr hd)]) ?_ | refine OpsB.say (d := 3) rfl (y := .v (.int .i64 (optR (rsrc q (n + 1))))) (by rw [hstay (.inr hd)]) ?_
      first | refine OpsAt.say (d := 5) rfl (y := .v (.int .i64 (n + 1 : Nat))) (by rw [wrap64_in ((n : Int) + 1) (by omega)]; simp) ?_ | refine Run.say (d := 5) rfl (y := .v (.int .i64 (n + 1 : Nat))) (by rw [wrap64_in ((n : Int) + 1) (by omega)]; simp) ?_ | refine OpsR.say (q := 5) rfl (y := .v (.int .i64 (n + 1 : Nat))) (by rw [wrap64_in ((n : Int) + 1) (by omega)]; simp) ?_ | refine OpsB.say (d := 5) rfl (y := .v (.int .i64 (n + 1 : Nat))) (by rw [wrap64_in ((n : Int) + 1) (by omega)]; simp) ?_
      refine Run.keep [1, 3, 4, 5] rfl ?_
      exact ih (n + 1) (by omega) (by omega)
    | true =>
      have hgo : rsrc q (n + 1) = srcStep q acc n := by rw [hsucc, hd]; rfl
      first | refine OpsAt.say (d := 16) rfl (y := .v (.bool true)) (by rw [hhas, hd]) ?_ | refine Run.say (d := 16) rfl (y := .v (.bool true)) (by rw [hhas, hd]) ?_ | refine OpsR.say (q := 16) rfl (y := .v (.bool true)) (by rw [hhas, hd]) ?_ | refine OpsB.say (d := 16) rfl (y := .v (.bool true)) (by rw [hhas, hd]) ?_
      have hpt2 : ((gr (turnG q.g)).get []).pl = true := gr_pl _
      repeat (first | ((first | refine wl rfl rfl ?_ ?_ | refine wm rfl rfl rfl ?_ ?_); try (first | ((repeat' apply And.intro) <;> first | exact trivial | exact rfl | omega | (simp; done) | (simp; omega)))))
      refine wo rfl (wA rfl rfl rfl (by repeat' (first | exact trivial | exact rfl | assumption | apply And.intro)) (callable (by decide)) (c_rOuts (turnG q.g) n htg)) rfl ?_
      by_cases h0 : insN q.g (n : Int) = 0
      · first | refine OpsAt.say (d := 20) rfl (y := S 0) (by rw [turn_outs, h0]) ?_ | refine Run.say (d := 20) rfl (y := S 0) (by rw [turn_outs, h0]) ?_ | refine OpsR.say (q := 20) rfl (y := S 0) (by rw [turn_outs, h0]) ?_ | refine OpsB.say (d := 20) rfl (y := S 0) (by rw [turn_outs, h0]) ?_
        cases acc with
        | none =>
          have hstep : srcStep q none n = some n := if_pos ⟨h0, hn2, fun b hb => by cases hb⟩
          rw [hstep] at hgo
          repeat (first | refine wb ?_ | refine wc ?_ | refine we ?_ | ((first | refine wl rfl rfl ?_ ?_ | refine wn (wp rfl rfl rfl rfl rfl ?_) rfl ?_ | refine wm rfl rfl rfl ?_ ?_ | refine wo rfl (wp rfl rfl rfl rfl rfl ?_) rfl ?_ | refine wt rfl ?_ ?_); try (first | ((repeat' apply And.intro) <;> first | exact trivial | exact rfl | omega | (simp; done) | (simp; omega)))) | refine ws rfl rfl ?_)
          first | refine OpsAt.say (d := 3) rfl (y := .v (.int .i64 (optR (rsrc q (n + 1))))) (by rw [hgo]; rfl) ?_ | refine Run.say (d := 3) rfl (y := .v (.int .i64 (optR (rsrc q (n + 1))))) (by rw [hgo]; rfl) ?_ | refine OpsR.say (q := 3) rfl (y := .v (.int .i64 (optR (rsrc q (n + 1))))) (by rw [hgo]; rfl) ?_ | refine OpsB.say (d := 3) rfl (y := .v (.int .i64 (optR (rsrc q (n + 1))))) (by rw [hgo]; rfl) ?_
          first | refine OpsAt.say (d := 5) rfl (y := .v (.int .i64 (n + 1 : Nat))) (by rw [wrap64_in ((n : Int) + 1) (by omega)]; simp) ?_ | refine Run.say (d := 5) rfl (y := .v (.int .i64 (n + 1 : Nat))) (by rw [wrap64_in ((n : Int) + 1) (by omega)]; simp) ?_ | refine OpsR.say (q := 5) rfl (y := .v (.int .i64 (n + 1 : Nat))) (by rw [wrap64_in ((n : Int) + 1) (by omega)]; simp) ?_ | refine OpsB.say (d := 5) rfl (y := .v (.int .i64 (n + 1 : Nat))) (by rw [wrap64_in ((n : Int) + 1) (by omega)]; simp) ?_
          refine Run.keep [1, 3, 4, 5] rfl ?_
          exact ih (n + 1) (by omega) (by omega)
        | some b =>
          have hb32 : b < 32 := by have := hlt b rfl; omega
          have hgx := ids_at hw hn2
          have hgb := ids_at hw hb32
          repeat (first | ((first | refine wl rfl rfl ?_ ?_ | refine wm rfl rfl rfl ?_ ?_ | refine wo rfl (wp rfl rfl rfl rfl rfl ?_) rfl ?_); try (first | ((repeat' apply And.intro) <;> first | exact trivial | exact rfl | omega | (simp; done) | (simp; omega)) | exact pd_fa (by assumption) rfl (by decide))))
          · exact ⟨rfl, rfl, by rw [ints_len]; exact hw.ids, by omega, by omega⟩
          refine wo rfl (Ev.ldBox rfl (adrOf_sound rfl) (ld_ok (T := 3) hgx rfl).1 (ld_ok (T := 3) hgx rfl).2) rfl ?_
          first | refine OpsAt.say (d := 30) rfl (y := .v (.int .i64 (q.ids.getD n 0))) (hgx) ?_ | refine Run.say (d := 30) rfl (y := .v (.int .i64 (q.ids.getD n 0))) (hgx) ?_ | refine OpsR.say (q := 30) rfl (y := .v (.int .i64 (q.ids.getD n 0))) (hgx) ?_ | refine OpsB.say (d := 30) rfl (y := .v (.int .i64 (q.ids.getD n 0))) (hgx) ?_
          repeat (first | ((refine wm rfl rfl rfl ?_ ?_); try (first | ((repeat' apply And.intro) <;> first | exact trivial | exact rfl | omega | (simp; done) | (simp; omega)) | exact pd_fa (by assumption) rfl (by decide))))
          · exact ⟨rfl, rfl, by rw [ints_len]; exact hw.ids, by show (0 : Int) ≤ (b : Int); omega, by show (b : Int) < 32; omega⟩
          refine wo rfl (Ev.ldBox rfl (adrOf_sound rfl) (ld_ok (T := 3) hgb rfl).1 (ld_ok (T := 3) hgb rfl).2) rfl ?_
          first | refine OpsAt.say (d := 34) rfl (y := .v (.int .i64 (q.ids.getD b 0))) (hgb) ?_ | refine Run.say (d := 34) rfl (y := .v (.int .i64 (q.ids.getD b 0))) (hgb) ?_ | refine OpsR.say (q := 34) rfl (y := .v (.int .i64 (q.ids.getD b 0))) (hgb) ?_ | refine OpsB.say (d := 34) rfl (y := .v (.int .i64 (q.ids.getD b 0))) (hgb) ?_
          repeat (first | refine wb ?_ | ((first | refine wl rfl rfl ?_ ?_ | refine wm rfl rfl rfl ?_ ?_ | refine wo rfl (wp rfl rfl rfl rfl rfl ?_) rfl ?_); try (first | ((repeat' apply And.intro) <;> first | exact trivial | exact rfl | omega | (simp; done) | (simp; omega)))))
          refine Run.condB rfl rfl (fun hc => ?_) (fun hc => ?_)
          · have hstep : srcStep q (some b) n = some n := if_pos ⟨h0, hn2, fun b' hb' => by cases hb'; exact of_decide_eq_true hc⟩
            rw [hstep] at hgo
            repeat (first | refine wb ?_ | refine wc ?_ | refine we ?_ | ((first | refine wl rfl rfl ?_ ?_ | refine wn (wp rfl rfl rfl rfl rfl ?_) rfl ?_); try (first | ((repeat' apply And.intro) <;> first | exact trivial | exact rfl | omega | (simp; done) | (simp; omega)))))
            first | refine OpsAt.say (d := 3) rfl (y := .v (.int .i64 (optR (rsrc q (n + 1))))) (by rw [hgo]; rfl) ?_ | refine Run.say (d := 3) rfl (y := .v (.int .i64 (optR (rsrc q (n + 1))))) (by rw [hgo]; rfl) ?_ | refine OpsR.say (q := 3) rfl (y := .v (.int .i64 (optR (rsrc q (n + 1))))) (by rw [hgo]; rfl) ?_ | refine OpsB.say (d := 3) rfl (y := .v (.int .i64 (optR (rsrc q (n + 1))))) (by rw [hgo]; rfl) ?_
            first | refine OpsAt.say (d := 5) rfl (y := .v (.int .i64 (n + 1 : Nat))) (by rw [wrap64_in ((n : Int) + 1) (by omega)]; simp) ?_ | refine Run.say (d := 5) rfl (y := .v (.int .i64 (n + 1 : Nat))) (by rw [wrap64_in ((n : Int) + 1) (by omega)]; simp) ?_ | refine OpsR.say (q := 5) rfl (y := .v (.int .i64 (n + 1 : Nat))) (by rw [wrap64_in ((n : Int) + 1) (by omega)]; simp) ?_ | refine OpsB.say (d := 5) rfl (y := .v (.int .i64 (n + 1 : Nat))) (by rw [wrap64_in ((n : Int) + 1) (by omega)]; simp) ?_
            refine Run.keep [1, 3, 4, 5] rfl ?_
            exact ih (n + 1) (by omega) (by omega)
          · have hstep : srcStep q (some b) n = some b := if_neg fun hx => (of_decide_eq_false hc) (hx.2.2 b rfl)
            rw [hstep] at hgo
            repeat (first | refine wb ?_ | refine wc ?_ | refine we ?_ | refine wf ?_ | ((first | refine wl rfl rfl ?_ ?_ | refine wn (wp rfl rfl rfl rfl rfl ?_) rfl ?_); try (first | ((repeat' apply And.intro) <;> first | exact trivial | exact rfl | omega | (simp; done) | (simp; omega)))))
            first | refine OpsAt.say (d := 3) rfl (y := .v (.int .i64 (optR (rsrc q (n + 1))))) (by rw [hgo]) ?_ | refine Run.say (d := 3) rfl (y := .v (.int .i64 (optR (rsrc q (n + 1))))) (by rw [hgo]) ?_ | refine OpsR.say (q := 3) rfl (y := .v (.int .i64 (optR (rsrc q (n + 1))))) (by rw [hgo]) ?_ | refine OpsB.say (d := 3) rfl (y := .v (.int .i64 (optR (rsrc q (n + 1))))) (by rw [hgo]) ?_
            first | refine OpsAt.say (d := 5) rfl (y := .v (.int .i64 (n + 1 : Nat))) (by rw [wrap64_in ((n : Int) + 1) (by omega)]; simp) ?_ | refine Run.say (d := 5) rfl (y := .v (.int .i64 (n + 1 : Nat))) (by rw [wrap64_in ((n : Int) + 1) (by omega)]; simp) ?_ | refine OpsR.say (q := 5) rfl (y := .v (.int .i64 (n + 1 : Nat))) (by rw [wrap64_in ((n : Int) + 1) (by omega)]; simp) ?_ | refine OpsB.say (d := 5) rfl (y := .v (.int .i64 (n + 1 : Nat))) (by rw [wrap64_in ((n : Int) + 1) (by omega)]; simp) ?_
            refine Run.keep [1, 3, 4, 5] rfl ?_
            exact ih (n + 1) (by omega) (by omega)
      · have hstep : srcStep q acc n = acc := if_neg fun hx => h0 hx.1
        rw [hstep] at hgo
        first | refine OpsAt.say (d := 20) rfl (y := S (insN q.g (n : Int))) (by rw [turn_outs]) ?_ | refine Run.say (d := 20) rfl (y := S (insN q.g (n : Int))) (by rw [turn_outs]) ?_ | refine OpsR.say (q := 20) rfl (y := S (insN q.g (n : Int))) (by rw [turn_outs]) ?_ | refine OpsB.say (d := 20) rfl (y := S (insN q.g (n : Int))) (by rw [turn_outs]) ?_
        repeat (first | ((first | refine wl rfl rfl ?_ ?_ | refine wo rfl (wp rfl rfl rfl rfl rfl ?_) rfl ?_); try (first | ((repeat' apply And.intro) <;> first | exact trivial | exact rfl | omega | (simp; done) | (simp; omega)))))
        have hz : ((((insN q.g (n : Int) : Nat) : Int) == 0)) = false := by simp only [beq_eq_false_iff_ne, ne_eq]; omega
        first | refine OpsAt.say (d := 23) rfl (y := .v (.bool false)) (congrArg (fun z => D.v (.bool z)) hz) ?_ | refine Run.say (d := 23) rfl (y := .v (.bool false)) (congrArg (fun z => D.v (.bool z)) hz) ?_ | refine OpsR.say (q := 23) rfl (y := .v (.bool false)) (congrArg (fun z => D.v (.bool z)) hz) ?_ | refine OpsB.say (d := 23) rfl (y := .v (.bool false)) (congrArg (fun z => D.v (.bool z)) hz) ?_
        repeat (first | refine wb ?_ | refine wc ?_ | refine we ?_ | refine wf ?_ | ((first | refine wl rfl rfl ?_ ?_ | refine wn (wp rfl rfl rfl rfl rfl ?_) rfl ?_ | refine wu rfl ?_ ?_); try (first | ((repeat' apply And.intro) <;> first | exact trivial | exact rfl | omega | (simp; done) | (simp; omega)))) | refine ws rfl rfl ?_)
        first | refine OpsAt.say (d := 3) rfl (y := .v (.int .i64 (optR (rsrc q (n + 1))))) (by rw [hgo]) ?_ | refine Run.say (d := 3) rfl (y := .v (.int .i64 (optR (rsrc q (n + 1))))) (by rw [hgo]) ?_ | refine OpsR.say (q := 3) rfl (y := .v (.int .i64 (optR (rsrc q (n + 1))))) (by rw [hgo]) ?_ | refine OpsB.say (d := 3) rfl (y := .v (.int .i64 (optR (rsrc q (n + 1))))) (by rw [hgo]) ?_
        first | refine OpsAt.say (d := 5) rfl (y := .v (.int .i64 (n + 1 : Nat))) (by rw [wrap64_in ((n : Int) + 1) (by omega)]; simp) ?_ | refine Run.say (d := 5) rfl (y := .v (.int .i64 (n + 1 : Nat))) (by rw [wrap64_in ((n : Int) + 1) (by omega)]; simp) ?_ | refine OpsR.say (q := 5) rfl (y := .v (.int .i64 (n + 1 : Nat))) (by rw [wrap64_in ((n : Int) + 1) (by omega)]; simp) ?_ | refine OpsB.say (d := 5) rfl (y := .v (.int .i64 (n + 1 : Nat))) (by rw [wrap64_in ((n : Int) + 1) (by omega)]; simp) ?_
        refine Run.keep [1, 3, 4, 5] rfl ?_
        exact ih (n + 1) (by omega) (by omega)
  · have hn2 : n = 32 := by simp at hb; omega
    repeat (first | refine wa ?_ | refine wb ?_ | refine wc ?_ | ((refine wl rfl rfl ?_ ?_); try (first | ((repeat' apply And.intro) <;> first | exact trivial | exact rfl | omega | (simp; done) | (simp; omega)))) | refine wj rfl ?_)
    refine wD (wE rfl rfl ?_)
    rw [hend hn2]
end Go.Proofs.YtaflihoopnjcgaaDoor

namespace Go.Proofs.YtaflihoopnjcgaaDoor
open Go Go.Dat

theorem src_lt {q : PL} {i : Nat} (h : srcP q = some i) : q.dn.testBit i = true ∧ i < 32 := ⟨(src_some h).1, (src_some h).2.2⟩
set_option maxHeartbeats 4000000 in
theorem c_rCollect (q : PL) (h : RP q) : DFun Tryd.prog 34 [pd q] (.tup [pd (colP 64 q).1, .lst .any 1 (ints (colP 64 q).2)]) := by
  refine DFun.ofRun agree mixed Tryd.func34 rfl rfl ?_
  have hz := pw0
  have hpq : ((pd q).get []).pl = true := pd_pl q
  have hwq := h.w
  refine wa ?_
  refine wc ?_
  repeat (first | refine wb ?_ | ((refine wl rfl rfl ?_ ?_); try (first | exact trivial | ((repeat' apply And.intro) <;> first | exact trivial | exact rfl | omega | (simp; done) | (simp; omega)) | exact pd_pl _)))
  first | refine OpsAt.sayB (d := 2) rfl (y := pd zeroP) (rfl) ?_ | refine Run.sayB (d := 2) rfl (y := pd zeroP) (rfl) ?_
  refine wa ?_
  refine wc ?_
  repeat (first | refine wb ?_ | ((refine wl rfl rfl ?_ ?_); try (first | exact trivial)))
  refine Run.ownNil 4 3 1 rfl ?_
  refine wa ?_
  refine wc ?_
  repeat (first | ((refine wl rfl rfl ?_ ?_); try (first | exact ⟨pd_fits (by assumption) rfl, pd_pl _⟩)))
  refine wn (wA rfl rfl rfl (by repeat' (first | exact trivial | exact rfl | assumption | apply And.intro)) (callable (by decide)) (c_rsource q h)) rfl ?_
  repeat (first | refine wb ?_ | ((refine wl rfl rfl ?_ ?_); try (first | ((repeat' apply And.intro) <;> first | exact trivial | exact rfl | omega | (simp; done) | (simp; omega)))))
  refine Run.keep [1, 2, 4, 5] rfl ?_
  repeat (first | refine wa ?_ | refine wd ?_)
  refine Run.at (l' := [(1, .box (pd q)), (2, .box (pd zeroP)), (4, .d (.own ([] : List Int).isEmpty 3 1 (ints []))), (5, .d (.v (.int .i64 (optR (srcP q)))))]) rfl ?_
  refine Run.loopL (α := PL × List Int × Nat) (fun x => RP x.1 ∧ (colP 64 q).1 = (colP x.2.2 x.1).1 ∧ (colP 64 q).2 = x.2.1 ++ (colP x.2.2 x.1).2 ∧ (itemsL x.1.dn).length ≤ x.2.2 ∧ x.2.1.length + x.2.2 = 64) (fun x => [(1, .box (pd x.1)), (2, .box (pd zeroP)), (4, .d (.own x.2.1.isEmpty 3 1 (ints x.2.1))), (5, .d (.v (.int .i64 (optR (srcP x.1)))))]) (fun x => x.2.2) (q, [], 64) ⟨h, rfl, rfl, itemsL_le _, rfl⟩ ?_
  rintro ⟨r, pre, n⟩ ⟨hr, e1, e2, hl, hn⟩ ih
  simp only at hr e1 e2 hl hn
  have hw := hr.w
  have hpl : ((pd r).get []).pl = true := pd_pl r
  refine Run.at (l' := [(1, .box (pd r)), (2, .box (pd zeroP)), (4, .d (.own pre.isEmpty 3 1 (ints pre))), (5, .d (.v (.int .i64 (optR (srcP r)))))]) rfl ?_
  repeat (first | refine wa ?_ | refine wb ?_ | refine wc ?_ | ((first | refine wl rfl rfl ?_ ?_ | refine wn (wp rfl rfl rfl rfl rfl ?_) rfl ?_); try (first | ((repeat' apply And.intro) <;> first | exact trivial | exact rfl | omega | (simp; done) | (simp; omega)))))
  refine Run.condB rfl rfl (fun h1 => ?_) (fun h1 => ?_)
  · obtain ⟨i, hs⟩ : ∃ i, srcP r = some i := by cases hs : srcP r with | some i => exact ⟨i, rfl⟩ | none => rw [hs] at h1; exact absurd (of_decide_eq_true h1) (by decide)
    obtain ⟨hd, hi⟩ := src_lt hs
    have hlt := items_less hw.dm hi hd
    obtain ⟨m, rfl⟩ : ∃ m, n = m + 1 := ⟨n - 1, by omega⟩
    rw [col_some hs] at e1 e2
    first | refine OpsAt.say (d := 5) rfl (y := .v (.int .i64 (i : Nat))) (by rw [hs]; rfl) ?_ | refine Run.say (d := 5) rfl (y := .v (.int .i64 (i : Nat))) (by rw [hs]; rfl) ?_ | refine OpsR.say (q := 5) rfl (y := .v (.int .i64 (i : Nat))) (by rw [hs]; rfl) ?_ | refine OpsB.say (d := 5) rfl (y := .v (.int .i64 (i : Nat))) (by rw [hs]; rfl) ?_
    have hgd := ids_at hw hi
    refine Run.keep [1, 2, 4, 5] rfl ?_
    repeat (first | refine wa ?_ | refine wc ?_ | refine wd ?_ | refine wf ?_ | ((refine wl rfl rfl ?_ ?_); try (first | exact trivial | ((repeat' apply And.intro) <;> first | exact trivial | exact rfl | omega | (simp; done) | (simp; omega)) | exact pd_fa (by assumption) rfl (by decide))))
    · exact ⟨rfl, rfl, by rw [ints_len]; exact hw.ids, by omega, by omega⟩
    refine wn (Ev.ldBox rfl (adrOf_sound rfl) (ld_ok (T := 3) hgd rfl).1 (ld_ok (T := 3) hgd rfl).2) rfl ?_
    first | refine OpsAt.say (d := 14) rfl (y := .v (.int .i64 (r.ids.getD i 0))) (hgd) ?_ | refine Run.say (d := 14) rfl (y := .v (.int .i64 (r.ids.getD i 0))) (hgd) ?_ | refine OpsR.say (q := 14) rfl (y := .v (.int .i64 (r.ids.getD i 0))) (hgd) ?_ | refine OpsB.say (d := 14) rfl (y := .v (.int .i64 (r.ids.getD i 0))) (hgd) ?_
    repeat (first | ((refine wl rfl rfl ?_ ?_); try (first | ((repeat' apply And.intro) <;> first | exact trivial | exact rfl | omega | (simp; done) | (simp; omega)))) | (refine wx rfl rfl (.vw (vwOf_sound rfl)) rfl rfl ?_ ?_ rfl ?_; (try (simp <;> omega)); (try (first | (simp <;> omega) | (simp [maxLen] <;> omega)))))
    · simp [ints]; omega
    · simp [ints, maxLen]; omega
    repeat (first | refine wb ?_ | refine ww rfl rfl rfl ?_)
    first | refine OpsAt.say (d := 4) rfl (y := .own (pre ++ [r.ids.getD i 0]).isEmpty 3 1 (ints (pre ++ [r.ids.getD i 0]))) (by simp [ints]) ?_ | refine Run.say (d := 4) rfl (y := .own (pre ++ [r.ids.getD i 0]).isEmpty 3 1 (ints (pre ++ [r.ids.getD i 0]))) (by simp [ints]) ?_ | refine OpsR.say (q := 4) rfl (y := .own (pre ++ [r.ids.getD i 0]).isEmpty 3 1 (ints (pre ++ [r.ids.getD i 0]))) (by simp [ints]) ?_ | refine OpsB.say (d := 4) rfl (y := .own (pre ++ [r.ids.getD i 0]).isEmpty 3 1 (ints (pre ++ [r.ids.getD i 0]))) (by simp [ints]) ?_
    refine Run.keep [1, 2, 4, 5] rfl ?_
    refine wa ?_
    refine wc ?_
    repeat (first | ((refine wl rfl rfl ?_ ?_); try (first | ((repeat' apply And.intro) <;> first | exact trivial | exact rfl | omega | (simp; done) | (simp; omega)) | exact pd_ld1 (by assumption) rfl)))
    first | refine OpsAt.say (d := 18) rfl (y := gr r.g) (rfl) ?_ | refine Run.say (d := 18) rfl (y := gr r.g) (rfl) ?_ | refine OpsR.say (q := 18) rfl (y := gr r.g) (rfl) ?_ | refine OpsB.say (d := 18) rfl (y := gr r.g) (rfl) ?_
    have hpg : (gr r.g).pl = true := gr_pl _
    refine wn (wA rfl rfl rfl (by repeat' (first | exact trivial | exact rfl | assumption | apply And.intro)) (callable (by decide)) (c_rCut r.g i hi hw.g)) rfl ?_
    have hcg : gok (cutG r.g i) := cutTo_gok hw.g i 32
    have hpc : (gr (cutG r.g i)).pl = true := gr_pl _
    repeat (first | ((refine wl rfl rfl ?_ ?_); try (first | ((repeat' apply And.intro) <;> first | exact trivial | exact rfl | omega | (simp; done) | (simp; omega)))))
    refine wv rfl rfl hpc (pd_st1 hw hcg.1 rfl) rfl ?_
    first | refine OpsAt.sayB (d := 1) rfl (y := pd { r with g := cutG r.g i }) (rfl) ?_ | refine Run.sayB (d := 1) rfl (y := pd { r with g := cutG r.g i }) (rfl) ?_
    have hw1 := hw.withG hcg
    repeat (first | refine wb ?_)
    refine Run.keep [1, 2, 4, 5] rfl ?_
    refine wa ?_
    refine wc ?_
    repeat (first | ((refine wl rfl rfl ?_ ?_); try (first | ((repeat' apply And.intro) <;> first | exact trivial | exact rfl | omega | (simp; done) | (simp; omega)) | exact pd_fa (by assumption) rfl (by decide))))
    first | refine OpsAt.say (d := 23) rfl (y := S r.dn) (rfl) ?_ | refine Run.say (d := 23) rfl (y := S r.dn) (rfl) ?_ | refine OpsR.say (q := 23) rfl (y := S r.dn) (rfl) ?_ | refine OpsB.say (d := 23) rfl (y := S r.dn) (rfl) ?_
    refine wn (wA rfl rfl rfl (by repeat' (first | exact trivial | exact rfl | assumption | apply And.intro)) (callable (by decide)) (c_rLess r.dn i hw.dm)) rfl ?_
    repeat (first | refine wb ?_ | ((first | refine wl rfl rfl ?_ ?_ | refine wv rfl rfl ?_ rfl rfl ?_); try (first | ((repeat' apply And.intro) <;> first | exact trivial | exact rfl | omega | (simp; done) | (simp; omega)) | exact pd_fa (by assumption) rfl (by decide))))
    first | refine OpsAt.sayB (d := 1) rfl (y := pd { r with g := cutG r.g i, dn := lessN r.dn (i : Int) }) (rfl) ?_ | refine Run.sayB (d := 1) rfl (y := pd { r with g := cutG r.g i, dn := lessN r.dn (i : Int) }) (rfl) ?_
    have hw2 := hw1.withDn (lessN_lt r.dn (i : Int))
    refine Run.keep [1, 2, 4, 5] rfl ?_
    refine wa ?_
    refine wc ?_
    repeat (first | ((refine wl rfl rfl ?_ ?_); try (first | ((repeat' apply And.intro) <;> first | exact trivial | exact rfl | omega | (simp; done) | (simp; omega)) | exact pd_fa (by assumption) rfl (by decide))))
    · exact ⟨rfl, rfl, by rw [ints_len]; exact hw.ids, by omega, by omega⟩
    refine wv rfl rfl trivial (ids_sto hw2 hi rfl) rfl ?_
    first | refine OpsAt.sayB (d := 1) rfl (y := pd (goP r i)) (ids_put _ i 0) ?_ | refine Run.sayB (d := 1) rfl (y := pd (goP r i)) (ids_put _ i 0) ?_
    have hr2 := hr.go hi
    have hw3 := hr2.w
    have hp3 : ((pd (goP r i)).get []).pl = true := pd_pl _
    repeat (first | refine wb ?_ | refine wc ?_ | ((refine wl rfl rfl ?_ ?_); try (first | exact ⟨pd_fits (by assumption) rfl, pd_pl _⟩)))
    refine wn (wA rfl rfl rfl (by repeat' (first | exact trivial | exact rfl | assumption | apply And.intro)) (callable (by decide)) (c_rsource (goP r i) hr2)) rfl ?_
    repeat (first | refine wb ?_ | refine we ?_ | ((refine wl rfl rfl ?_ ?_); try (first | ((repeat' apply And.intro) <;> first | exact trivial | exact rfl | omega | (simp; done) | (simp; omega)))))
    refine Run.keep [1, 2, 4, 5] rfl ?_
    exact ih (goP r i, pre ++ [r.ids.getD i 0], m) ⟨hr2, e1, by rw [e2]; simp, by show (itemsL (lessN r.dn (i : Int))).length ≤ m; omega, by simp; omega⟩ (by simp)
  · have hs : srcP r = none := by cases hs : srcP r with | none => rfl | some i => rw [hs] at h1; have := of_decide_eq_false h1; simp [optR] at this
    rw [col_none hs] at e1 e2
    refine Run.freeze 4 .any rfl (okK_any _) ?_
    repeat (first | refine wa ?_ | refine wb ?_ | refine wc ?_ | ((refine wl rfl rfl ?_ ?_); try (first | ((repeat' apply And.intro) <;> first | exact trivial | exact rfl | omega | (simp; done) | (simp; omega)) | exact ⟨pd_fits (by assumption) rfl, pd_pl _⟩)) | refine wj rfl ?_ | refine wv rfl rfl (pd_pl _) (pd_sto (by assumption) (by assumption) rfl) rfl ?_)
    refine wD (Ends.tupE agree rfl ⟨⟨pd_fits hw rfl, pd_pl _⟩, ?_, trivial⟩ rfl ?_)
    · rfl
    · rw [e1, e2, List.append_nil]
      rfl
end Go.Proofs.YtaflihoopnjcgaaDoor

namespace Go.Proofs.YtaflihoopnjcgaaDoor
open Go Go.Dat

theorem free_bit (q : PL) (i : Nat) : (freeP q).testBit i = (decide (i < (min (max q.sz 0) 32).toNat) && !(takenP q).testBit i) := by
  have hm : slotsP q.sz < M64 := slots_lt _
  rw [freeP, andn_bit hm]
  show (_ && _) = _
  rw [show (slotsP q.sz).testBit i = decide (i < (min (max q.sz 0) 32).toNat) from Nat.testBit_two_pow_sub_one _ i]
theorem begin_at {q : PL} {i : Nat} (h2 : q.sz ≤ 32) (hi : (i : Int) < q.sz) (hf : (takenP q).testBit i = false) (hl : ∀ j, j < i → (takenP q).testBit j = true) :
    beginP q = (seatP (aheads (i : Int) q (itemsL q.dn)) (i : Int), (i : Int), 0) := by
  have hbi : (freeP q).testBit i = true := by rw [free_bit, hf, decide_eq_true (by omega)]; rfl
  have h0 : freeP q ≠ 0 := fun e => by rw [e, Nat.zero_testBit] at hbi; cases hbi
  obtain ⟨k, h1, h3, h4, h5⟩ := ctz_low h0 (andn_lt _ _)
  have hk : k = i := by
    rcases Nat.lt_trichotomy k i with h | h | h
    · rw [free_bit, hl k h] at h4; simp at h4
    · exact h
    · have := h5 i h; rw [hbi] at this; cases this
  have hfirst : firstN (freeP q) = i := by rw [firstN, if_neg h0, h1, hk]
  unfold beginP
  rw [if_neg h0, hfirst]
theorem begin_full {q : PL} (h2 : q.sz ≤ 32) (hl : ∀ j : Nat, (j : Int) < q.sz → (takenP q).testBit j = true) : beginP q = (q, 0, 4) := by
  have h0 : freeP q = 0 := by
    refine Nat.eq_of_testBit_eq fun j => ?_
    rw [Nat.zero_testBit, free_bit]
    by_cases hj : (j : Int) < q.sz
    · rw [hl j hj]; simp
    · rw [decide_eq_false (by omega)]; rfl
  unfold beginP
  rw [if_pos h0]
/-- Those that are over, below n. -/
def overTo (s n : Nat) : List Nat := (List.range n).filter fun j => s.testBit j
theorem over_succ (s n : Nat) : overTo s (n + 1) = if s.testBit n then overTo s n ++ [n] else overTo s n := by
  unfold overTo
  rw [List.range_succ, List.filter_append]
  cases h : s.testBit n with
  | true => simp [h]
  | false => simp [h]
theorem over_all {s : Nat} (h : ∀ k, s.testBit k = true → k < 32) : overTo s 32 = itemsL s := by
  have h1 : ∀ n, overTo s (32 + n) = overTo s 32 := fun n => by
    induction n with
    | zero => rfl
    | succ n ih =>
      rw [show 32 + (n + 1) = 32 + n + 1 by omega, over_succ, if_neg, ih]
      intro hk
      have := h _ hk
      omega
  exact (h1 32).symm
theorem seat_ahead (r : PL) (i : Int) (k : Int) : aheadP (seatP r i) k i = seatP (aheadP r k i) i := rfl
theorem PW.seat {q : PL} (h : PW q) (i : Int) : PW (seatP q i) := ⟨h.g, h.o, by show (q.ids.set _ _).length = 32; rw [List.length_set]; exact h.ids, withN_lt i h.lm, h.dm⟩

set_option maxHeartbeats 4000000 in
theorem c_rBegin (q : PL) (h : RP q) (hc : q.ct < 9223372036854775807) : DFun Tryd.prog 36 [pd q] (.tup [pd (beginP q).1, .v (.int .i64 (beginP q).2.1), .v (.int .i64 (beginP q).2.2)]) := by
  refine DFun.ofRun agree mixed Tryd.func36 rfl rfl ?_
  have hz := pw0
  have hw := h.w
  have hpq : ((pd q).get []).pl = true := pd_pl q
  refine wa ?_
  refine wc ?_
  repeat (first | refine wb ?_ | ((refine wl rfl rfl ?_ ?_); try (first | exact trivial | ((repeat' apply And.intro) <;> first | exact trivial | exact rfl | omega | (simp; done) | (simp; omega)) | exact pd_pl _)))
  first | refine OpsAt.sayB (d := 2) rfl (y := pd zeroP) (rfl) ?_ | refine Run.sayB (d := 2) rfl (y := pd zeroP) (rfl) ?_
  repeat (first | refine wa ?_ | refine wb ?_ | refine wc ?_ | refine wd ?_ | ((refine wl rfl rfl ?_ ?_); try (first | exact trivial)))
  refine Run.keep [1, 2, 5] rfl ?_
  refine Run.at (l' := [(1, .box (pd q)), (2, .box (pd zeroP)), (5, .d (.v (.int .i64 (0 : Nat))))]) rfl ?_
  refine Run.loopL (α := Nat) (fun n => (n : Int) ≤ max q.sz 0 ∧ ∀ j, j < n → (takenP q).testBit j = true) (fun n => [(1, .box (pd q)), (2, .box (pd zeroP)), (5, .d (.v (.int .i64 n)))]) (fun n => 32 - n) 0 ⟨by show (0 : Int) ≤ _; omega, fun j hj => by omega⟩ ?_
  rintro n ⟨hn, hall⟩ ih
  have h2 := h.s2
  have hn32 : n ≤ 32 := by omega
  repeat (first | refine wa ?_ | refine wb ?_ | refine wc ?_ | ((first | refine wl rfl rfl ?_ ?_ | refine wn (wp rfl rfl rfl rfl rfl ?_) rfl ?_); try (first | ((repeat' apply And.intro) <;> first | exact trivial | exact rfl | omega | (simp; done) | (simp; omega)))))
  first | refine OpsAt.say (d := 13) rfl (y := .v (.int .i64 q.sz)) (rfl) ?_ | refine Run.say (d := 13) rfl (y := .v (.int .i64 q.sz)) (rfl) ?_ | refine OpsR.say (q := 13) rfl (y := .v (.int .i64 q.sz)) (rfl) ?_ | refine OpsB.say (d := 13) rfl (y := .v (.int .i64 q.sz)) (rfl) ?_
  refine Run.condB rfl rfl (fun hb => ?_) (fun hb => ?_)
  · have hb' := of_decide_eq_true hb
    have hhas : hasN (takenP q) (n : Int) = (takenP q).testBit n := has_bit _ _ (by omega)
    repeat (first | refine wa ?_ | refine wc ?_ | refine wd ?_ | refine wf ?_ | ((refine wl rfl rfl ?_ ?_); try (first | ((repeat' apply And.intro) <;> first | exact trivial | exact rfl | omega | (simp; done) | (simp; omega)) | exact ⟨pd_fits (by assumption) rfl, pd_pl _⟩)))
    refine wn (wA rfl rfl rfl (by repeat' (first | exact trivial | exact rfl | assumption | apply And.intro)) (callable (by decide)) (c_rFree q n hw)) rfl ?_
    cases ht : (takenP q).testBit n with
    | true =>
      first | refine OpsAt.say (d := 19) rfl (y := .v (.bool false)) (by rw [hhas, ht]; rfl) ?_ | refine Run.say (d := 19) rfl (y := .v (.bool false)) (by rw [hhas, ht]; rfl) ?_ | refine OpsR.say (q := 19) rfl (y := .v (.bool false)) (by rw [hhas, ht]; rfl) ?_ | refine OpsB.say (d := 19) rfl (y := .v (.bool false)) (by rw [hhas, ht]; rfl) ?_
      repeat (first | refine wb ?_ | refine wc ?_ | ((first | refine wl rfl rfl ?_ ?_ | refine wn (wp rfl rfl rfl rfl rfl ?_) rfl ?_ | refine wt rfl ?_ ?_); try (first | ((repeat' apply And.intro) <;> first | exact trivial | exact rfl | omega | (simp; done) | (simp; omega)))) | refine wj rfl ?_)
      first | refine OpsAt.say (d := 5) rfl (y := .v (.int .i64 (n + 1 : Nat))) (by rw [wrap64_in ((n : Int) + 1) (by omega)]; simp) ?_ | refine Run.say (d := 5) rfl (y := .v (.int .i64 (n + 1 : Nat))) (by rw [wrap64_in ((n : Int) + 1) (by omega)]; simp) ?_ | refine OpsR.say (q := 5) rfl (y := .v (.int .i64 (n + 1 : Nat))) (by rw [wrap64_in ((n : Int) + 1) (by omega)]; simp) ?_ | refine OpsB.say (d := 5) rfl (y := .v (.int .i64 (n + 1 : Nat))) (by rw [wrap64_in ((n : Int) + 1) (by omega)]; simp) ?_
      refine Run.keep [1, 2, 5] rfl ?_
      exact ih (n + 1) ⟨by omega, fun j hj => by by_cases e : j = n; (· rw [e]; exact ht); exact hall j (by omega)⟩ (by omega)
    | false =>
      have hn4 : n < 32 := by omega
      rw [begin_at h2 hb' ht hall]
      first | refine OpsAt.say (d := 19) rfl (y := .v (.bool true)) (by rw [hhas, ht]; rfl) ?_ | refine Run.say (d := 19) rfl (y := .v (.bool true)) (by rw [hhas, ht]; rfl) ?_ | refine OpsR.say (q := 19) rfl (y := .v (.bool true)) (by rw [hhas, ht]; rfl) ?_ | refine OpsB.say (d := 19) rfl (y := .v (.bool true)) (by rw [hhas, ht]; rfl) ?_
      repeat (first | refine wb ?_ | refine wf ?_ | ((first | refine wl rfl rfl ?_ ?_ | refine wu rfl ?_ ?_); try (first | ((repeat' apply And.intro) <;> first | exact trivial | exact rfl | omega | (simp; done) | (simp; omega)))))
      refine Run.keep [1, 2, 5] rfl ?_
      refine wa ?_
      refine wc ?_
      repeat (first | refine wb ?_ | ((refine wl rfl rfl ?_ ?_); try (first | ((repeat' apply And.intro) <;> first | exact trivial | exact rfl | omega | (simp; done) | (simp; omega)) | exact pd_fa (by assumption) rfl (by decide))))
      first | refine OpsAt.say (d := 6) rfl (y := S q.dn) (rfl) ?_ | refine Run.say (d := 6) rfl (y := S q.dn) (rfl) ?_ | refine OpsR.say (q := 6) rfl (y := S q.dn) (rfl) ?_ | refine OpsB.say (d := 6) rfl (y := S q.dn) (rfl) ?_
      refine wa ?_
      refine wc ?_
      repeat (first | ((refine wl rfl rfl ?_ ?_); try (first | ((repeat' apply And.intro) <;> first | exact trivial | exact rfl | omega | (simp; done) | (simp; omega)) | exact pd_fa (by assumption) rfl (by decide))))
      first | refine OpsAt.say (d := 24) rfl (y := S q.lv) (rfl) ?_ | refine Run.say (d := 24) rfl (y := S q.lv) (rfl) ?_ | refine OpsR.say (q := 24) rfl (y := S q.lv) (rfl) ?_ | refine OpsB.say (d := 24) rfl (y := S q.lv) (rfl) ?_
      refine wn (wA rfl rfl rfl (by repeat' (first | exact trivial | exact rfl | assumption | apply And.intro)) (callable (by decide)) (c_rWith q.lv n hw.lm)) rfl ?_
      repeat (first | refine wb ?_ | ((first | refine wl rfl rfl ?_ ?_ | refine wv rfl rfl ?_ rfl rfl ?_); try (first | ((repeat' apply And.intro) <;> first | exact trivial | exact rfl | omega | (simp; done) | (simp; omega)) | exact pd_fa (by assumption) rfl (by decide))))
      first | refine OpsAt.sayB (d := 1) rfl (y := pd { q with lv := withN q.lv (n : Int) }) (rfl) ?_ | refine Run.sayB (d := 1) rfl (y := pd { q with lv := withN q.lv (n : Int) }) (rfl) ?_
      have hr1 := hw.withLv (withN_lt (n : Int) hw.lm)
      refine Run.keep [1, 2, 5, 6] rfl ?_
      refine wa ?_
      refine wc ?_
      repeat (first | refine wb ?_ | ((first | refine wl rfl rfl ?_ ?_ | refine wn (wp rfl rfl rfl rfl rfl ?_) rfl ?_ | refine wv rfl rfl ?_ rfl rfl ?_); try (first | ((repeat' apply And.intro) <;> first | exact trivial | exact rfl | omega | (simp; done) | (simp; omega)) | exact pd_fa (by assumption) rfl (by decide))))
      have hct : IntKind.i64.wrap (q.ct + 1) = q.ct + 1 := wrap64_in (q.ct + 1) (by have := h.c0; omega)
      first | refine OpsAt.sayB (d := 1) rfl (y := pd { q with lv := withN q.lv (n : Int), ct := q.ct + 1 }) (congrArg (fun z => pd { q with lv := withN q.lv (n : Int), ct := z }) hct) ?_ | refine Run.sayB (d := 1) rfl (y := pd { q with lv := withN q.lv (n : Int), ct := q.ct + 1 }) (congrArg (fun z => pd { q with lv := withN q.lv (n : Int), ct := z }) hct) ?_
      have hr2 := hr1.withCt (q.ct + 1)
      refine Run.keep [1, 2, 5, 6] rfl ?_
      refine wa ?_
      refine wc ?_
      repeat (first | ((refine wl rfl rfl ?_ ?_); try (first | ((repeat' apply And.intro) <;> first | exact trivial | exact rfl | omega | (simp; done) | (simp; omega)) | exact pd_fa (by assumption) rfl (by decide))))
      · exact ⟨rfl, rfl, by rw [ints_len]; exact hw.ids, by omega, by omega⟩
      skip
      first | refine OpsAt.say (d := 34) rfl (y := .v (.int .i64 (q.ct + 1))) (rfl) ?_ | refine Run.say (d := 34) rfl (y := .v (.int .i64 (q.ct + 1))) (rfl) ?_ | refine OpsR.say (q := 34) rfl (y := .v (.int .i64 (q.ct + 1))) (rfl) ?_ | refine OpsB.say (d := 34) rfl (y := .v (.int .i64 (q.ct + 1))) (rfl) ?_
      refine wv rfl rfl rfl (ids_sto hr2 hn4 rfl) rfl ?_
      first | refine OpsAt.sayB (d := 1) rfl (y := pd (seatP q (n : Int))) (ids_put _ n _) ?_ | refine Run.sayB (d := 1) rfl (y := pd (seatP q (n : Int))) (ids_put _ n _) ?_
      repeat (first | refine wa ?_ | refine wb ?_ | refine wc ?_ | refine wd ?_ | ((refine wl rfl rfl ?_ ?_); try (first | exact trivial)))
      refine Run.keep [1, 2, 5, 6, 7] rfl ?_
      refine Run.at (l' := [(1, .box (pd (seatP (aheads (n : Int) q (overTo q.dn 0)) (n : Int)))), (2, .box (pd zeroP)), (5, .d (.v (.int .i64 n))), (6, .d (S q.dn)), (7, .d (.v (.int .i64 (0 : Nat))))]) rfl ?_
      refine Run.loopL (α := Nat) (fun k => k ≤ 32) (fun k => [(1, .box (pd (seatP (aheads (n : Int) q (overTo q.dn k)) (n : Int)))), (2, .box (pd zeroP)), (5, .d (.v (.int .i64 n))), (6, .d (S q.dn)), (7, .d (.v (.int .i64 k)))]) (fun k => 32 - k) 0 (by decide) ?_
      intro k hk ih2
      have hr := (hw.aheads (n : Int) (overTo q.dn k)).seat (n : Int)
      have hnext : q.dn.testBit k = true → pd (seatP (aheads (n : Int) q (overTo q.dn (k + 1))) (n : Int)) = pd (aheadP (seatP (aheads (n : Int) q (overTo q.dn k)) (n : Int)) (k : Int) (n : Int)) := fun hx => by
        rw [over_succ, if_pos hx, aheads_snoc]; rfl
      have hskip : q.dn.testBit k = false → pd (seatP (aheads (n : Int) q (overTo q.dn (k + 1))) (n : Int)) = pd (seatP (aheads (n : Int) q (overTo q.dn k)) (n : Int)) := fun hx => by
        rw [over_succ, if_neg (by rw [hx]; decide)]
      have hend : k = 32 → pd (seatP (aheads (n : Int) q (itemsL q.dn)) (n : Int)) = pd (seatP (aheads (n : Int) q (overTo q.dn k)) (n : Int)) := fun e => by
        rw [e, over_all h.d32]
      obtain ⟨r, hr0⟩ : ∃ r, r = seatP (aheads (n : Int) q (overTo q.dn k)) (n : Int) := ⟨_, rfl⟩
      rw [← hr0] at hr hnext hskip hend
      refine Run.at (l' := [(1, .box (pd r)), (2, .box (pd zeroP)), (5, .d (.v (.int .i64 n))), (6, .d (S q.dn)), (7, .d (.v (.int .i64 k)))]) (by rw [hr0]) ?_
      repeat (first | refine wa ?_ | refine wb ?_ | refine wc ?_ | ((first | refine wl rfl rfl ?_ ?_ | refine wn (wp rfl rfl rfl rfl rfl ?_) rfl ?_); try (first | ((repeat' apply And.intro) <;> first | exact trivial | exact rfl | omega | (simp; done) | (simp; omega)))))
      refine Run.condB rfl rfl (fun hb2 => ?_) (fun hb2 => ?_)
      · have hk2 : k < 32 := by simp at hb2; omega
        have hhas2 : hasN q.dn (k : Int) = q.dn.testBit k := has_bit _ _ (by omega)
        repeat (first | refine wa ?_ | refine wc ?_ | refine wd ?_ | refine wf ?_ | ((refine wl rfl rfl ?_ ?_); try (first | ((repeat' apply And.intro) <;> first | exact trivial | exact rfl | omega | (simp; done) | (simp; omega)))))
        refine wn (wA rfl rfl rfl (by repeat' (first | exact trivial | exact rfl | assumption | apply And.intro)) (callable (by decide)) (c_refHas q.dn k hw.dm)) rfl ?_
        cases hd : q.dn.testBit k with
        | false =>
          first | refine OpsAt.say (d := 43) rfl (y := .v (.bool false)) (by rw [hhas2, hd]) ?_ | refine Run.say (d := 43) rfl (y := .v (.bool false)) (by rw [hhas2, hd]) ?_ | refine OpsR.say (q := 43) rfl (y := .v (.bool false)) (by rw [hhas2, hd]) ?_ | refine OpsB.say (d := 43) rfl (y := .v (.bool false)) (by rw [hhas2, hd]) ?_
          repeat (first | refine wb ?_ | refine wc ?_ | refine we ?_ | refine wf ?_ | ((first | refine wl rfl rfl ?_ ?_ | refine wn (wp rfl rfl rfl rfl rfl ?_) rfl ?_ | refine wu rfl ?_ ?_); try (first | ((repeat' apply And.intro) <;> first | exact trivial | exact rfl | omega | (simp; done) | (simp; omega)))))
          first | refine OpsAt.say (d := 7) rfl (y := .v (.int .i64 (k + 1 : Nat))) (by rw [wrap64_in ((k : Int) + 1) (by omega)]; simp) ?_ | refine Run.say (d := 7) rfl (y := .v (.int .i64 (k + 1 : Nat))) (by rw [wrap64_in ((k : Int) + 1) (by omega)]; simp) ?_ | refine OpsR.say (q := 7) rfl (y := .v (.int .i64 (k + 1 : Nat))) (by rw [wrap64_in ((k : Int) + 1) (by omega)]; simp) ?_ | refine OpsB.say (d := 7) rfl (y := .v (.int .i64 (k + 1 : Nat))) (by rw [wrap64_in ((k : Int) + 1) (by omega)]; simp) ?_
          first | refine OpsAt.sayB (d := 1) rfl (y := pd (seatP (aheads (n : Int) q (overTo q.dn (k + 1))) (n : Int))) (by rw [hskip hd]) ?_ | refine Run.sayB (d := 1) rfl (y := pd (seatP (aheads (n : Int) q (overTo q.dn (k + 1))) (n : Int))) (by rw [hskip hd]) ?_
          refine Run.keep [1, 2, 5, 6, 7] rfl ?_
          exact ih2 (k + 1) (by omega) (by omega)
        | true =>
          first | refine OpsAt.say (d := 43) rfl (y := .v (.bool true)) (by rw [hhas2, hd]) ?_ | refine Run.say (d := 43) rfl (y := .v (.bool true)) (by rw [hhas2, hd]) ?_ | refine OpsR.say (q := 43) rfl (y := .v (.bool true)) (by rw [hhas2, hd]) ?_ | refine OpsB.say (d := 43) rfl (y := .v (.bool true)) (by rw [hhas2, hd]) ?_
          repeat (first | refine wb ?_ | ((refine wt rfl ?_ ?_); try (first | ((repeat' apply And.intro) <;> first | exact trivial | exact rfl | omega | (simp; done) | (simp; omega)))))
          refine Run.keep [1, 2, 5, 6, 7] rfl ?_
          refine wa ?_
          refine wc ?_
          repeat (first | ((refine wl rfl rfl ?_ ?_); try (first | ((repeat' apply And.intro) <;> first | exact trivial | exact rfl | omega | (simp; done) | (simp; omega)) | exact pd_fa (by assumption) rfl (by decide) | exact pd_ld1 (by assumption) rfl | exact pd_ld2 (by assumption) rfl)))
          first | refine OpsAt.say (d := 46) rfl (y := gr r.g) (rfl) ?_ | refine Run.say (d := 46) rfl (y := gr r.g) (rfl) ?_ | refine OpsR.say (q := 46) rfl (y := gr r.g) (rfl) ?_ | refine OpsB.say (d := 46) rfl (y := gr r.g) (rfl) ?_
          first | refine OpsAt.say (d := 48) rfl (y := ord r.o) (rfl) ?_ | refine Run.say (d := 48) rfl (y := ord r.o) (rfl) ?_ | refine OpsR.say (q := 48) rfl (y := ord r.o) (rfl) ?_ | refine OpsB.say (d := 48) rfl (y := ord r.o) (rfl) ?_
          have hp1 : (gr r.g).pl = true := gr_pl _
          have hp2 : (ord r.o).pl = true := ord_pl _
          refine wn (wA rfl rfl rfl (by repeat' (first | exact trivial | exact rfl | assumption | apply And.intro)) (callable (by decide)) (c_rInsert r.g r.o k n hr.g hr.o)) rfl ?_
          have hg2 := ins_gok hr.g r.o k n
          have ho2 := ins_len r.g hr.o k n
          have e : aheadP r (k : Int) (n : Int) = { r with g := (insG r.g r.o k n).1, o := (insG r.g r.o k n).2.1 } := rfl
          rw [e] at hnext
          generalize (insG r.g r.o k n).1 = g2 at *
          generalize (insG r.g r.o k n).2.1 = o2 at *
          generalize (insG r.g r.o k n).2.2 = is at *
          have hp3 : (gr g2).pl = true := gr_pl _
          have hp4 : (ord o2).pl = true := ord_pl _
          have hno : noOwns [gr g2, ord o2, .v (.bool is)] = true := noOwns_gl _ _ _
          repeat (first | ((refine wl rfl rfl ?_ ?_); try (first | ((repeat' apply And.intro) <;> first | exact trivial | exact rfl | omega | (simp; done) | (simp; omega)))))
          first | refine OpsAt.say (d := 52) rfl (y := gr g2) (rfl) ?_ | refine Run.say (d := 52) rfl (y := gr g2) (rfl) ?_ | refine OpsR.say (q := 52) rfl (y := gr g2) (rfl) ?_ | refine OpsB.say (d := 52) rfl (y := gr g2) (rfl) ?_
          first | refine OpsAt.say (d := 53) rfl (y := ord o2) (rfl) ?_ | refine Run.say (d := 53) rfl (y := ord o2) (rfl) ?_ | refine OpsR.say (q := 53) rfl (y := ord o2) (rfl) ?_ | refine OpsB.say (d := 53) rfl (y := ord o2) (rfl) ?_
          first | refine OpsAt.say (d := 54) rfl (y := .v (.bool is)) (rfl) ?_ | refine Run.say (d := 54) rfl (y := .v (.bool is)) (rfl) ?_ | refine OpsR.say (q := 54) rfl (y := .v (.bool is)) (rfl) ?_ | refine OpsB.say (d := 54) rfl (y := .v (.bool is)) (rfl) ?_
          refine wv rfl rfl hp3 (gr_stoAll (z := List.replicate 32 0) hg2.1 rfl rfl) rfl ?_
          first | refine OpsAt.sayB (d := 8) rfl (y := gr g2) (rfl) ?_ | refine Run.sayB (d := 8) rfl (y := gr g2) (rfl) ?_
          refine wv rfl rfl hp4 (ord_stoAll (z := List.replicate 32 0) ho2 rfl rfl) rfl ?_
          first | refine OpsAt.sayB (d := 9) rfl (y := ord o2) (rfl) ?_ | refine Run.sayB (d := 9) rfl (y := ord o2) (rfl) ?_
          repeat (first | refine wb ?_ | ((refine wl rfl rfl ?_ ?_); try (first | ((repeat' apply And.intro) <;> first | exact trivial | exact rfl | omega | (simp; done) | (simp; omega)))))
          refine Run.keep [1, 2, 5, 6, 7, 8, 9] rfl ?_
          refine wa ?_
          refine wc ?_
          repeat (first | ((refine wl rfl rfl ?_ ?_)))
          · exact ⟨gr_fits hg2.1 rfl, gr_pl _⟩
          first | refine OpsAt.say (d := 55) rfl (y := gr g2) (rfl) ?_ | refine Run.say (d := 55) rfl (y := gr g2) (rfl) ?_ | refine OpsR.say (q := 55) rfl (y := gr g2) (rfl) ?_ | refine OpsB.say (d := 55) rfl (y := gr g2) (rfl) ?_
          repeat (first | ((refine wl rfl rfl ?_ ?_); try (first | ((repeat' apply And.intro) <;> first | exact trivial | exact rfl | omega | (simp; done) | (simp; omega)))))
          refine wv rfl rfl hp3 (pd_st1 hr hg2.1 rfl) rfl ?_
          first | refine OpsAt.sayB (d := 1) rfl (y := pd { r with g := g2 }) (rfl) ?_ | refine Run.sayB (d := 1) rfl (y := pd { r with g := g2 }) (rfl) ?_
          have hr2 := hr.withG hg2
          repeat (first | refine wb ?_ | refine wc ?_ | ((refine wl rfl rfl ?_ ?_)))
          · exact ⟨ord_fits ho2 rfl, ord_pl _⟩
          first | refine OpsAt.say (d := 57) rfl (y := ord o2) (rfl) ?_ | refine Run.say (d := 57) rfl (y := ord o2) (rfl) ?_ | refine OpsR.say (q := 57) rfl (y := ord o2) (rfl) ?_ | refine OpsB.say (d := 57) rfl (y := ord o2) (rfl) ?_
          repeat (first | ((refine wl rfl rfl ?_ ?_); try (first | exact pd_fa (by assumption) rfl (by decide))))
          refine wv rfl rfl hp4 (pd_st2 hr2 ho2 rfl) rfl ?_
          first | refine OpsAt.sayB (d := 1) rfl (y := pd { r with g := g2, o := o2 }) (rfl) ?_ | refine Run.sayB (d := 1) rfl (y := pd { r with g := g2, o := o2 }) (rfl) ?_
          repeat (first | refine wb ?_ | refine wc ?_ | refine we ?_ | ((first | refine wl rfl rfl ?_ ?_ | refine wn (wp rfl rfl rfl rfl rfl ?_) rfl ?_); try (first | ((repeat' apply And.intro) <;> first | exact trivial | exact rfl | omega | (simp; done) | (simp; omega)))))
          first | refine OpsAt.say (d := 7) rfl (y := .v (.int .i64 (k + 1 : Nat))) (by rw [wrap64_in ((k : Int) + 1) (by omega)]; simp) ?_ | refine Run.say (d := 7) rfl (y := .v (.int .i64 (k + 1 : Nat))) (by rw [wrap64_in ((k : Int) + 1) (by omega)]; simp) ?_ | refine OpsR.say (q := 7) rfl (y := .v (.int .i64 (k + 1 : Nat))) (by rw [wrap64_in ((k : Int) + 1) (by omega)]; simp) ?_ | refine OpsB.say (d := 7) rfl (y := .v (.int .i64 (k + 1 : Nat))) (by rw [wrap64_in ((k : Int) + 1) (by omega)]; simp) ?_
          first | refine OpsAt.sayB (d := 1) rfl (y := pd (seatP (aheads (n : Int) q (overTo q.dn (k + 1))) (n : Int))) (by rw [hnext hd]) ?_ | refine Run.sayB (d := 1) rfl (y := pd (seatP (aheads (n : Int) q (overTo q.dn (k + 1))) (n : Int))) (by rw [hnext hd]) ?_
          refine Run.keep [1, 2, 5, 6, 7] rfl ?_
          exact ih2 (k + 1) (by omega) (by omega)
      · have hk2 : k = 32 := by simp at hb2; omega
        rw [hend hk2]
        repeat (first | refine wa ?_ | refine wb ?_ | refine wc ?_ | ((refine wl rfl rfl ?_ ?_); try (first | exact trivial | ((repeat' apply And.intro) <;> first | exact trivial | exact rfl | omega | (simp; done) | (simp; omega)) | exact ⟨pd_fits (by assumption) rfl, pd_pl _⟩)) | refine wj rfl ?_ | refine wv rfl rfl (pd_pl _) (pd_sto (by assumption) (by assumption) rfl) rfl ?_)
        exact wD (Ends.tupE agree rfl ⟨⟨pd_fits hr rfl, pd_pl _⟩, rfl, rfl, trivial⟩ rfl rfl)
  · have hb' := of_decide_eq_false hb
    rw [begin_full h2 (fun j hj => hall j (by omega))]
    repeat (first | refine wa ?_ | refine wb ?_ | refine wc ?_ | ((refine wl rfl rfl ?_ ?_); try (first | exact trivial | exact ⟨pd_fits (by assumption) rfl, pd_pl _⟩)) | refine wj rfl ?_ | refine wv rfl rfl (pd_pl _) (pd_sto (by assumption) (by assumption) rfl) rfl ?_)
    exact wD (Ends.tupE agree rfl ⟨⟨pd_fits hw rfl, pd_pl _⟩, rfl, rfl, trivial⟩ rfl rfl)
end Go.Proofs.YtaflihoopnjcgaaDoor

namespace Go.Proofs.YtaflihoopnjcgaaDoor
open Go Go.Dat

theorem PW.edge {q : PL} (h : PW q) (a b : Int) : PW (edgeP q a b).1 := by
  unfold edgeP
  split
  · exact h
  · split
    · exact h
    · split
      · exact h.ahead a b
      · exact h
theorem PW.ends {q : PL} (h : PW q) (s : Int) : PW (endP q s).1 := by
  unfold endP
  split
  · exact h
  · exact (h.withLv (lessN_lt q.lv s)).withDn (withN_lt s h.dm)
theorem RP.col : ∀ (n : Nat) {q : PL}, RP q → RP (colP n q).1
  | 0, _, h => h
  | n + 1, q, h => by
    unfold colP
    split
    · exact h
    · next i hs => exact RP.col n (h.go (src_some hs).2.2)
theorem PW.begin {q : PL} (h : PW q) : PW (beginP q).1 := by
  unfold beginP
  split
  · exact h
  · exact (h.aheads _ _).seat _
theorem RP.does {q : PL} (h : RP q) (c : Int × Int × Int) : PW (doesP q c) := by
  unfold doesP
  split
  · exact h.w.edge _ _
  · split
    · exact h.w.ends _
    · split
      · exact (RP.col 64 h).w
      · exact h.w.begin
theorem col_len : ∀ (n : Nat) (q : PL), (colP n q).2.length ≤ n
  | 0, _ => Nat.le_refl _
  | n + 1, q => by
    unfold colP
    split
    · exact Nat.zero_le _
    · have := col_len n
      simp only [List.length_cons]
      exact Nat.succ_le_succ (this _)
theorem noOwns_pl (q : PL) (l : List Int) : noOwns [pd q, .lst .any 1 (ints l)] = true := by
  show ((pd q).pl && _) = true
  rw [pd_pl]
  rfl

theorem c_rSame (l k : List Int) (hl : l.length ≤ 1000) (hk : k.length ≤ 1000) : DFun Tryd.prog 35 [.lst .any 1 (ints l), .lst .any 1 (ints k)] (.v (.bool (decide (l = k)))) := by
  refine DFun.ofRun agree mixed Tryd.func35 rfl rfl ?_
  repeat (first | refine wa ?_ | refine wb ?_ | refine wc ?_ | ((first | refine wl rfl rfl ?_ ?_ | refine wn (wp rfl rfl rfl rfl rfl ?_) rfl ?_ | refine wn (wq agree rfl rfl rfl ?_) rfl ?_); try (first | exact trivial | ((repeat' apply And.intro) <;> first | exact trivial | exact rfl | omega | (simp; done) | (simp; omega)))))
  refine Run.condB rfl rfl (fun h0 => ?_) (fun h0 => ?_)
  · have h0' : l.length ≠ k.length := by have h := h0; simp [ints_len] at h; omega
    repeat (first | refine wa ?_ | refine wb ?_ | refine wc ?_ | ((refine wl rfl rfl ?_ ?_); try (first | exact trivial)))
    refine wD (wE rfl rfl ?_)
    rw [decide_eq_false fun e => h0' (by rw [e])]
  have h0' : l.length = k.length := by have h := h0; simp [ints_len] at h; omega
  repeat (first | refine wa ?_ | refine wb ?_ | refine wc ?_ | refine wd ?_ | refine wf ?_ | ((refine wl rfl rfl ?_ ?_); try (first | exact trivial)))
  refine Run.keep [0, 1, 5] rfl ?_
  refine Run.at (l' := [(0, .d (.lst .any 1 (ints l))), (1, .d (.lst .any 1 (ints k))), (5, .d (.v (.int .i64 (0 : Nat))))]) rfl ?_
  refine Run.loopL (α := Nat) (fun i => i ≤ l.length ∧ ∀ j, j < i → l.getD j 0 = k.getD j 0) (fun i => [(0, .d (.lst .any 1 (ints l))), (1, .d (.lst .any 1 (ints k))), (5, .d (.v (.int .i64 i)))]) (fun i => l.length - i) 0 ⟨Nat.zero_le _, fun j hj => by omega⟩ ?_
  rintro i ⟨hi, hall⟩ ih
  repeat (first | refine wa ?_ | refine wb ?_ | refine wc ?_ | ((first | refine wl rfl rfl ?_ ?_ | refine wn (wp rfl rfl rfl rfl rfl ?_) rfl ?_ | refine wn (wq agree rfl rfl rfl ?_) rfl ?_); try (first | ((repeat' apply And.intro) <;> first | exact trivial | exact rfl | omega | (simp; done) | (simp; omega)))))
  first | refine OpsAt.say (d := 14) rfl (y := .v (.bool (decide ((i : Int) < (l.length : Int))))) (by rw [ints_len]) ?_ | refine Run.say (d := 14) rfl (y := .v (.bool (decide ((i : Int) < (l.length : Int))))) (by rw [ints_len]) ?_ | refine OpsR.say (q := 14) rfl (y := .v (.bool (decide ((i : Int) < (l.length : Int))))) (by rw [ints_len]) ?_ | refine OpsB.say (d := 14) rfl (y := .v (.bool (decide ((i : Int) < (l.length : Int))))) (by rw [ints_len]) ?_
  refine Run.condB rfl rfl (fun hb => ?_) (fun hb => ?_)
  · have hi2 : i < l.length := by simp at hb; omega
    have hgd : (ints l).getD ((i : Int)).toNat un = .v (.int .i64 (l.getD i 0)) := by simp [ints, hi2]
    have hgd2 : (ints k).getD ((i : Int)).toNat un = .v (.int .i64 (k.getD i 0)) := by simp [ints, show i < k.length by omega]
    repeat (first | refine wa ?_ | refine wd ?_ | refine wf ?_)
    refine Run.ops1 (ld := []) rfl ?_
    repeat (first | ((refine wl rfl rfl ?_ ?_); try (first | ((repeat' apply And.intro) <;> first | exact trivial | exact rfl | omega | (simp; done) | (simp; omega)))))
    · exact ⟨rfl, rfl, by omega, by rw [ints_len]; omega⟩
    first | refine OpsAt.say (d := 19) rfl (y := .pt (.v (.int .i64 (l.getD i 0)))) (congrArg D.pt hgd) ?_ | refine Run.say (d := 19) rfl (y := .pt (.v (.int .i64 (l.getD i 0)))) (congrArg D.pt hgd) ?_ | refine OpsR.say (q := 19) rfl (y := .pt (.v (.int .i64 (l.getD i 0)))) (congrArg D.pt hgd) ?_ | refine OpsB.say (d := 19) rfl (y := .pt (.v (.int .i64 (l.getD i 0)))) (congrArg D.pt hgd) ?_
    repeat (first | ((refine wl rfl rfl ?_ ?_); try (first | ((repeat' apply And.intro) <;> first | exact trivial | exact rfl | omega | (simp; done) | (simp; omega)))))
    · exact ⟨rfl, rfl, by omega, by rw [ints_len]; omega⟩
    first | refine OpsAt.say (d := 23) rfl (y := .pt (.v (.int .i64 (k.getD i 0)))) (congrArg D.pt hgd2) ?_ | refine Run.say (d := 23) rfl (y := .pt (.v (.int .i64 (k.getD i 0)))) (congrArg D.pt hgd2) ?_ | refine OpsR.say (q := 23) rfl (y := .pt (.v (.int .i64 (k.getD i 0)))) (congrArg D.pt hgd2) ?_ | refine OpsB.say (d := 23) rfl (y := .pt (.v (.int .i64 (k.getD i 0)))) (congrArg D.pt hgd2) ?_
    repeat (first | refine wb ?_ | ((first | refine wl rfl rfl ?_ ?_ | refine wn (wp rfl rfl rfl rfl rfl ?_) rfl ?_); try (first | ((repeat' apply And.intro) <;> first | exact trivial | exact rfl | omega | (simp; done) | (simp; omega)))))
    refine Run.condB rfl rfl (fun h1 => ?_) (fun h1 => ?_)
    · have hne : l.getD i 0 ≠ k.getD i 0 := by simpa using h1
      repeat (first | refine wa ?_ | refine wb ?_ | refine wc ?_ | ((refine wl rfl rfl ?_ ?_); try (first | exact trivial)))
      refine wD (wE rfl rfl ?_)
      rw [decide_eq_false fun e => hne (by rw [e])]
    have heq : l.getD i 0 = k.getD i 0 := by simpa using h1
    repeat (first | refine wb ?_ | refine wc ?_ | refine we ?_ | refine wf ?_ | ((first | refine wl rfl rfl ?_ ?_ | refine wn (wp rfl rfl rfl rfl rfl ?_) rfl ?_); try (first | ((repeat' apply And.intro) <;> first | exact trivial | exact rfl | omega | (simp; done) | (simp; omega)))))
    first | refine OpsAt.say (d := 5) rfl (y := .v (.int .i64 (i + 1 : Nat))) (by rw [wrap64_in ((i : Int) + 1) (by omega)]; simp) ?_ | refine Run.say (d := 5) rfl (y := .v (.int .i64 (i + 1 : Nat))) (by rw [wrap64_in ((i : Int) + 1) (by omega)]; simp) ?_ | refine OpsR.say (q := 5) rfl (y := .v (.int .i64 (i + 1 : Nat))) (by rw [wrap64_in ((i : Int) + 1) (by omega)]; simp) ?_ | refine OpsB.say (d := 5) rfl (y := .v (.int .i64 (i + 1 : Nat))) (by rw [wrap64_in ((i : Int) + 1) (by omega)]; simp) ?_
    refine Run.keep [0, 1, 5] rfl ?_
    exact ih (i + 1) ⟨by omega, fun j hj => by by_cases e : j = i; (· rw [e]; exact heq); exact hall j (by omega)⟩ (by omega)
  · have hi2 : i = l.length := by simp at hb; omega
    repeat (first | refine wa ?_ | refine wb ?_ | refine wc ?_ | ((refine wl rfl rfl ?_ ?_); try (first | exact trivial)) | refine wj rfl ?_)
    refine wD (wE rfl rfl ?_)
    have : l = k := List.ext_getElem h0' fun j h1 h2 => by
      have := hall j (by omega)
      simpa [List.getD_eq_getElem?_getD, h1, h2] using this
    rw [decide_eq_true this]
end Go.Proofs.YtaflihoopnjcgaaDoor

namespace Go.Proofs.YtaflihoopnjcgaaDoor
open Go Go.Dat

set_option maxHeartbeats 8000000 in
theorem c_does (q m : PL) (c : Int × Int × Int) (h : SP q) (hm : RP m) (hq : q.ct < 9223372036854775807) (hc : m.ct < 9223372036854775807) (hk : 0 ≤ c.1 ∧ c.1 ≤ 255) :
    DFun Tryd.prog 13 [pd q, pd m, ad c] (.tup [pd (doesP q c), pd (doesP m c), .v (.bool (sameP q m c))]) := by
  refine DFun.ofRun agree mixed Tryd.func13 rfl rfl ?_
  have hz := pw0
  have hw := h.pw
  have hv := hm.w
  have hx := (h.does c).pw
  have hy := hm.does c
  have hpq : ((pd q).get []).pl = true := pd_pl q
  have hpm : ((pd m).get []).pl = true := pd_pl m
  refine wa ?_
  refine wc ?_
  repeat (first | refine wb ?_ | ((refine wl rfl rfl ?_ ?_); try (first | exact trivial | ((repeat' apply And.intro) <;> first | exact trivial | exact rfl | omega | (simp; done) | (simp; omega)) | exact pd_pl _)))
  first | refine OpsAt.sayB (d := 6) rfl (y := pd zeroP) (rfl) ?_ | refine Run.sayB (d := 6) rfl (y := pd zeroP) (rfl) ?_
  first | refine OpsAt.sayB (d := 7) rfl (y := pd zeroP) (rfl) ?_ | refine Run.sayB (d := 7) rfl (y := pd zeroP) (rfl) ?_
  refine Run.keep [0, 1, 2, 3, 4, 5, 6, 7, 8] rfl ?_
  refine wa ?_
  skip
  refine wa ?_
  refine wc ?_
  repeat (first | refine wb ?_ | refine wd ?_ | ((first | refine wl rfl rfl ?_ ?_ | refine wn (wp rfl rfl rfl rfl rfl ?_) rfl ?_); try (first | ((repeat' apply And.intro) <;> first | exact trivial | exact rfl | omega | (simp; done) | (simp; omega)))))
  obtain ⟨κ, hκ⟩ : ∃ κ, κ = c.1 % 6 := ⟨_, rfl⟩
  have hκ0 : 0 ≤ κ := by omega
  have hκ6 : κ < 6 := by omega
  first | refine OpsAt.say (d := 29) rfl (y := .v (.int .u8 κ)) (by rw [hκ]; exact congrArg (fun z => D.v (.int .u8 z)) (Int.tmod_eq_emod_of_nonneg hk.1)) ?_ | refine Run.say (d := 29) rfl (y := .v (.int .u8 κ)) (by rw [hκ]; exact congrArg (fun z => D.v (.int .u8 z)) (Int.tmod_eq_emod_of_nonneg hk.1)) ?_ | refine OpsR.say (q := 29) rfl (y := .v (.int .u8 κ)) (by rw [hκ]; exact congrArg (fun z => D.v (.int .u8 z)) (Int.tmod_eq_emod_of_nonneg hk.1)) ?_ | refine OpsB.say (d := 29) rfl (y := .v (.int .u8 κ)) (by rw [hκ]; exact congrArg (fun z => D.v (.int .u8 z)) (Int.tmod_eq_emod_of_nonneg hk.1)) ?_
  refine Run.keep [3, 4, 5, 6, 7, 8, 29] rfl ?_
  by_cases h23 : κ = 2 ∨ κ = 3
  · have e1 : ∀ r, doesP r c = (edgeP r c.2.1 c.2.2).1 := fun r => by unfold doesP; rw [← hκ, if_pos h23]
    have e3 : sameP q m c = ((edgeP q c.2.1 c.2.2).2 == (edgeP m c.2.1 c.2.2).2) := by unfold sameP; rw [← hκ, if_pos h23]
    rw [e1] at hx hy
    rw [e1, e1, e3]
    rcases h23 with rfl | rfl
    all_goals
      repeat (first | refine wa ?_ | refine wb ?_ | refine wc ?_ | refine wf ?_ | ((first | refine wl rfl rfl ?_ ?_ | refine wn (wp rfl rfl rfl rfl rfl ?_) rfl ?_ | refine wt rfl ?_ ?_ | refine wu rfl ?_ ?_); try (first | ((repeat' apply And.intro) <;> first | exact trivial | exact rfl | omega | (simp; done) | (simp; omega)) | exact ⟨pd_fits (by assumption) rfl, pd_pl _⟩)))
      refine wn (wA rfl rfl rfl (by repeat' (first | exact trivial | exact rfl | assumption | apply And.intro)) (callable (by decide)) (c_Edge q c.2.1 c.2.2 hw)) rfl ?_
      repeat (first | ((refine wl rfl rfl ?_ ?_); try (first | ((repeat' apply And.intro) <;> first | exact trivial | exact rfl | omega | (simp; done) | (simp; omega)) | exact pd_pl _ | exact noOwns_pb _ _)))
      first | refine OpsAt.sayB (d := 9) rfl (y := pd zeroP) (rfl) ?_ | refine Run.sayB (d := 9) rfl (y := pd zeroP) (rfl) ?_
      refine wv rfl rfl (pd_pl _) (pd_sto hx hz rfl) rfl ?_
      first | refine OpsAt.sayB (d := 9) rfl (y := pd (edgeP q c.2.1 c.2.2).1) (rfl) ?_ | refine Run.sayB (d := 9) rfl (y := pd (edgeP q c.2.1 c.2.2).1) (rfl) ?_
      repeat (first | refine wa ?_ | refine wb ?_ | refine wc ?_ | ((refine wl rfl rfl ?_ ?_); try (first | ((repeat' apply And.intro) <;> first | exact trivial | exact rfl | omega | (simp; done) | (simp; omega)) | exact ⟨pd_fits (by assumption) rfl, pd_pl _⟩)))
      refine wn (wA rfl rfl rfl (by repeat' (first | exact trivial | exact rfl | assumption | apply And.intro)) (callable (by decide)) (c_rEdge m c.2.1 c.2.2 hv)) rfl ?_
      repeat (first | ((refine wl rfl rfl ?_ ?_); try (first | ((repeat' apply And.intro) <;> first | exact trivial | exact rfl | omega | (simp; done) | (simp; omega)) | exact pd_pl _ | exact noOwns_pb _ _)))
      first | refine OpsAt.sayB (d := 11) rfl (y := pd zeroP) (rfl) ?_ | refine Run.sayB (d := 11) rfl (y := pd zeroP) (rfl) ?_
      refine wv rfl rfl (pd_pl _) (pd_sto hy hz rfl) rfl ?_
      first | refine OpsAt.sayB (d := 11) rfl (y := pd (edgeP m c.2.1 c.2.2).1) (rfl) ?_ | refine Run.sayB (d := 11) rfl (y := pd (edgeP m c.2.1 c.2.2).1) (rfl) ?_
      repeat (first | refine wb ?_ | ((refine wl rfl rfl ?_ ?_); try (first | ((repeat' apply And.intro) <;> first | exact trivial | exact rfl | omega | (simp; done) | (simp; omega)))))
      refine Run.keep [6, 7, 8, 9, 10, 11, 12] rfl ?_
      refine wa ?_
      refine Run.opsB agree mixed rfl rfl ?_
      repeat (first | ((first | refine yb rfl rfl ?_ ?_ | refine yc (wp rfl rfl rfl rfl rfl ?_) rfl ?_); try (first | ((repeat' apply And.intro) <;> first | exact trivial | exact rfl | omega | (simp; done) | (simp; omega)) | exact ⟨pd_fits (by assumption) rfl, pd_pl _⟩)))
      refine yd rfl rfl (pd_pl _) (pd_sto hx hz rfl) ?_
      refine yd rfl rfl (pd_pl _) (pd_sto hy hz rfl) ?_
      repeat (first | refine ya ?_ | ((refine yb rfl rfl ?_ ?_); try (first | ((repeat' apply And.intro) <;> first | exact trivial | exact rfl | omega | (simp; done) | (simp; omega)))))
      exact wD (Ends.tupE agree rfl ⟨⟨pd_fits hx rfl, pd_pl _⟩, ⟨pd_fits hy rfl, pd_pl _⟩, rfl, trivial⟩ rfl rfl)
  have h2 : κ ≠ 2 := fun e => h23 (.inl e)
  have h3 : κ ≠ 3 := fun e => h23 (.inr e)
  by_cases h4 : κ = 4
  · have e1 : ∀ r, doesP r c = (endP r c.2.1).1 := fun r => by unfold doesP; rw [← hκ, if_neg h23, if_pos h4]
    have e3 : sameP q m c = ((endP q c.2.1).2 == (endP m c.2.1).2) := by unfold sameP; rw [← hκ, if_neg h23, if_pos h4]
    rw [e1] at hx hy
    rw [e1, e1, e3]
    subst h4
    repeat (first | refine wa ?_ | refine wb ?_ | refine wc ?_ | ((first | refine wl rfl rfl ?_ ?_ | refine wn (wp rfl rfl rfl rfl rfl ?_) rfl ?_ | refine wt rfl ?_ ?_ | refine wu rfl ?_ ?_); try (first | ((repeat' apply And.intro) <;> first | exact trivial | exact rfl | omega | (simp; done) | (simp; omega)) | exact ⟨pd_fits (by assumption) rfl, pd_pl _⟩)))
    refine wn (wA rfl rfl rfl (by repeat' (first | exact trivial | exact rfl | assumption | apply And.intro)) (callable (by decide)) (c_End q c.2.1 hw)) rfl ?_
    repeat (first | ((refine wl rfl rfl ?_ ?_); try (first | ((repeat' apply And.intro) <;> first | exact trivial | exact rfl | omega | (simp; done) | (simp; omega)) | exact pd_pl _ | exact noOwns_pb _ _)))
    first | refine OpsAt.sayB (d := 13) rfl (y := pd zeroP) (rfl) ?_ | refine Run.sayB (d := 13) rfl (y := pd zeroP) (rfl) ?_
    refine wv rfl rfl (pd_pl _) (pd_sto hx hz rfl) rfl ?_
    first | refine OpsAt.sayB (d := 13) rfl (y := pd (endP q c.2.1).1) (rfl) ?_ | refine Run.sayB (d := 13) rfl (y := pd (endP q c.2.1).1) (rfl) ?_
    repeat (first | refine wa ?_ | refine wb ?_ | refine wc ?_ | ((refine wl rfl rfl ?_ ?_); try (first | ((repeat' apply And.intro) <;> first | exact trivial | exact rfl | omega | (simp; done) | (simp; omega)) | exact ⟨pd_fits (by assumption) rfl, pd_pl _⟩)))
    refine wn (wA rfl rfl rfl (by repeat' (first | exact trivial | exact rfl | assumption | apply And.intro)) (callable (by decide)) (c_rEnd m c.2.1 hv)) rfl ?_
    repeat (first | ((refine wl rfl rfl ?_ ?_); try (first | ((repeat' apply And.intro) <;> first | exact trivial | exact rfl | omega | (simp; done) | (simp; omega)) | exact pd_pl _ | exact noOwns_pb _ _)))
    first | refine OpsAt.sayB (d := 15) rfl (y := pd zeroP) (rfl) ?_ | refine Run.sayB (d := 15) rfl (y := pd zeroP) (rfl) ?_
    refine wv rfl rfl (pd_pl _) (pd_sto hy hz rfl) rfl ?_
    first | refine OpsAt.sayB (d := 15) rfl (y := pd (endP m c.2.1).1) (rfl) ?_ | refine Run.sayB (d := 15) rfl (y := pd (endP m c.2.1).1) (rfl) ?_
    repeat (first | refine wb ?_ | ((refine wl rfl rfl ?_ ?_); try (first | ((repeat' apply And.intro) <;> first | exact trivial | exact rfl | omega | (simp; done) | (simp; omega)))))
    refine Run.keep [6, 7, 8, 13, 14, 15, 16] rfl ?_
    refine wa ?_
    refine Run.opsB agree mixed rfl rfl ?_
    repeat (first | ((first | refine yb rfl rfl ?_ ?_ | refine yc (wp rfl rfl rfl rfl rfl ?_) rfl ?_); try (first | ((repeat' apply And.intro) <;> first | exact trivial | exact rfl | omega | (simp; done) | (simp; omega)) | exact ⟨pd_fits (by assumption) rfl, pd_pl _⟩)))
    refine yd rfl rfl (pd_pl _) (pd_sto hx hz rfl) ?_
    refine yd rfl rfl (pd_pl _) (pd_sto hy hz rfl) ?_
    repeat (first | refine ya ?_ | ((refine yb rfl rfl ?_ ?_); try (first | ((repeat' apply And.intro) <;> first | exact trivial | exact rfl | omega | (simp; done) | (simp; omega)))))
    exact wD (Ends.tupE agree rfl ⟨⟨pd_fits hx rfl, pd_pl _⟩, ⟨pd_fits hy rfl, pd_pl _⟩, rfl, trivial⟩ rfl rfl)
  by_cases h5 : κ = 5
  · have e1 : ∀ r, doesP r c = (colP 64 r).1 := fun r => by unfold doesP; rw [← hκ, if_neg h23, if_neg h4, if_pos h5]
    have e3 : sameP q m c = decide ((colP 64 q).2 = (colP 64 m).2) := by unfold sameP; rw [← hκ, if_neg h23, if_neg h4, if_pos h5]
    rw [e1] at hx hy
    rw [e1, e1, e3]
    subst h5
    have hno1 := noOwns_pl (colP 64 q).1 (colP 64 q).2
    have hno2 := noOwns_pl (colP 64 m).1 (colP 64 m).2
    repeat (first | refine wa ?_ | refine wb ?_ | refine wc ?_ | ((first | refine wl rfl rfl ?_ ?_ | refine wn (wp rfl rfl rfl rfl rfl ?_) rfl ?_ | refine wt rfl ?_ ?_ | refine wu rfl ?_ ?_); try (first | ((repeat' apply And.intro) <;> first | exact trivial | exact rfl | omega | (simp; done) | (simp; omega)) | exact ⟨pd_fits (by assumption) rfl, pd_pl _⟩)))
    refine wn (wA rfl rfl rfl (by repeat' (first | exact trivial | exact rfl | assumption | apply And.intro)) (callable (by decide)) (c_Collect q h)) rfl ?_
    repeat (first | ((refine wl rfl rfl ?_ ?_); try (first | ((repeat' apply And.intro) <;> first | exact trivial | exact rfl | omega | (simp; done) | (simp; omega)) | exact pd_pl _)))
    first | refine OpsAt.sayB (d := 17) rfl (y := pd zeroP) (rfl) ?_ | refine Run.sayB (d := 17) rfl (y := pd zeroP) (rfl) ?_
    refine wv rfl rfl (pd_pl _) (pd_sto hx hz rfl) rfl ?_
    first | refine OpsAt.sayB (d := 17) rfl (y := pd (colP 64 q).1) (rfl) ?_ | refine Run.sayB (d := 17) rfl (y := pd (colP 64 q).1) (rfl) ?_
    repeat (first | refine wa ?_ | refine wb ?_ | refine wc ?_ | ((refine wl rfl rfl ?_ ?_); try (first | ((repeat' apply And.intro) <;> first | exact trivial | exact rfl | omega | (simp; done) | (simp; omega)) | exact ⟨pd_fits (by assumption) rfl, pd_pl _⟩)))
    refine wn (wA rfl rfl rfl (by repeat' (first | exact trivial | exact rfl | assumption | apply And.intro)) (callable (by decide)) (c_rCollect m hm)) rfl ?_
    repeat (first | ((refine wl rfl rfl ?_ ?_); try (first | ((repeat' apply And.intro) <;> first | exact trivial | exact rfl | omega | (simp; done) | (simp; omega)) | exact pd_pl _)))
    first | refine OpsAt.sayB (d := 19) rfl (y := pd zeroP) (rfl) ?_ | refine Run.sayB (d := 19) rfl (y := pd zeroP) (rfl) ?_
    refine wv rfl rfl (pd_pl _) (pd_sto hy hz rfl) rfl ?_
    first | refine OpsAt.sayB (d := 19) rfl (y := pd (colP 64 m).1) (rfl) ?_ | refine Run.sayB (d := 19) rfl (y := pd (colP 64 m).1) (rfl) ?_
    repeat (first | refine wb ?_ | ((refine wl rfl rfl ?_ ?_); try (first | ((repeat' apply And.intro) <;> first | exact trivial | exact rfl | omega | (simp; done) | (simp; omega)))))
    refine Run.keep [6, 7, 8, 17, 18, 19, 20] rfl ?_
    refine wa ?_
    refine Run.opsB agree mixed rfl rfl ?_
    repeat (first | ((refine yb rfl rfl ?_ ?_); try (first | ((repeat' apply And.intro) <;> first | exact trivial | exact rfl | omega | (simp; done) | (simp; omega)) | exact ⟨pd_fits (by assumption) rfl, pd_pl _⟩)))
    refine yc (wA rfl rfl rfl (by repeat' (first | exact trivial | exact rfl | assumption | apply And.intro)) (callable (by decide)) (c_rSame (colP 64 q).2 (colP 64 m).2 (Nat.le_trans (col_len 64 q) (by decide)) (Nat.le_trans (col_len 64 m) (by decide)))) rfl ?_
    refine yd rfl rfl (pd_pl _) (pd_sto hx hz rfl) ?_
    refine yd rfl rfl (pd_pl _) (pd_sto hy hz rfl) ?_
    repeat (first | refine ya ?_ | ((refine yb rfl rfl ?_ ?_); try (first | ((repeat' apply And.intro) <;> first | exact trivial | exact rfl | omega | (simp; done) | (simp; omega)))))
    exact wD (Ends.tupE agree rfl ⟨⟨pd_fits hx rfl, pd_pl _⟩, ⟨pd_fits hy rfl, pd_pl _⟩, rfl, trivial⟩ rfl rfl)
  have e1 : ∀ r, doesP r c = (beginP r).1 := fun r => by unfold doesP; rw [← hκ, if_neg h23, if_neg h4, if_neg h5]
  have e3 : sameP q m c = ((beginP q).2.1 == (beginP m).2.1 && (beginP q).2.2 == (beginP m).2.2) := by unfold sameP; rw [← hκ, if_neg h23, if_neg h4, if_neg h5]
  rw [e1] at hx hy
  rw [e1, e1, e3]
  have h01 : κ = 0 ∨ κ = 1 := by omega
  rcases h01 with rfl | rfl
  all_goals
    repeat (first | refine wa ?_ | refine wb ?_ | refine wc ?_ | refine we ?_ | refine wf ?_ | ((first | refine wl rfl rfl ?_ ?_ | refine wn (wp rfl rfl rfl rfl rfl ?_) rfl ?_ | refine wu rfl ?_ ?_); try (first | ((repeat' apply And.intro) <;> first | exact trivial | exact rfl | omega | (simp; done) | (simp; omega)) | exact ⟨pd_fits (by assumption) rfl, pd_pl _⟩)))
    refine wn (wA rfl rfl rfl (by repeat' (first | exact trivial | exact rfl | assumption | apply And.intro)) (callable (by decide)) (c_Begin q h hq)) rfl ?_
    repeat (first | ((refine wl rfl rfl ?_ ?_); try (first | ((repeat' apply And.intro) <;> first | exact trivial | exact rfl | omega | (simp; done) | (simp; omega)) | exact pd_pl _ | exact noOwns_pb _ _)))
    first | refine OpsAt.sayB (d := 21) rfl (y := pd zeroP) (rfl) ?_ | refine Run.sayB (d := 21) rfl (y := pd zeroP) (rfl) ?_
    refine wv rfl rfl (pd_pl _) (pd_sto hx hz rfl) rfl ?_
    first | refine OpsAt.sayB (d := 21) rfl (y := pd (beginP q).1) (rfl) ?_ | refine Run.sayB (d := 21) rfl (y := pd (beginP q).1) (rfl) ?_
    repeat (first | refine wa ?_ | refine wb ?_ | refine wc ?_ | ((refine wl rfl rfl ?_ ?_); try (first | ((repeat' apply And.intro) <;> first | exact trivial | exact rfl | omega | (simp; done) | (simp; omega)) | exact ⟨pd_fits (by assumption) rfl, pd_pl _⟩)))
    refine wn (wA rfl rfl rfl (by repeat' (first | exact trivial | exact rfl | assumption | apply And.intro)) (callable (by decide)) (c_rBegin m hm hc)) rfl ?_
    repeat (first | ((refine wl rfl rfl ?_ ?_); try (first | ((repeat' apply And.intro) <;> first | exact trivial | exact rfl | omega | (simp; done) | (simp; omega)) | exact pd_pl _ | exact noOwns_pb _ _)))
    first | refine OpsAt.sayB (d := 24) rfl (y := pd zeroP) (rfl) ?_ | refine Run.sayB (d := 24) rfl (y := pd zeroP) (rfl) ?_
    refine wv rfl rfl (pd_pl _) (pd_sto hy hz rfl) rfl ?_
    first | refine OpsAt.sayB (d := 24) rfl (y := pd (beginP m).1) (rfl) ?_ | refine Run.sayB (d := 24) rfl (y := pd (beginP m).1) (rfl) ?_
    repeat (first | refine wb ?_ | ((refine wl rfl rfl ?_ ?_); try (first | ((repeat' apply And.intro) <;> first | exact trivial | exact rfl | omega | (simp; done) | (simp; omega)))))
    refine Run.keep [6, 7, 8, 21, 22, 23, 24, 25, 26] rfl ?_
    refine wa ?_
    refine Run.opsB agree mixed rfl rfl ?_
    repeat (first | ((first | refine yb rfl rfl ?_ ?_ | refine yc (wp rfl rfl rfl rfl rfl ?_) rfl ?_); try (first | ((repeat' apply And.intro) <;> first | exact trivial | exact rfl | omega | (simp; done) | (simp; omega)) | exact ⟨pd_fits (by assumption) rfl, pd_pl _⟩)))
    cases he : (beginP q).2.1 == (beginP m).2.1 with
    | true =>
      refine ye rfl (evq_sound rfl (by repeat' (first | exact trivial | exact rfl | apply And.intro))) rfl ?_
      refine ye rfl (evq_sound rfl (by repeat' (first | exact trivial | exact rfl | apply And.intro))) rfl ?_
      refine ye rfl (wp rfl rfl rfl rfl rfl ⟨rfl, rfl, trivial⟩) rfl ?_
      repeat (first | ((refine yb rfl rfl ?_ ?_); try (first | ((repeat' apply And.intro) <;> first | exact trivial | exact rfl | omega | (simp; done) | (simp; omega)))))
      refine yd rfl rfl (pd_pl _) (pd_sto hx hz rfl) ?_
      refine yd rfl rfl (pd_pl _) (pd_sto hy hz rfl) ?_
      repeat (first | refine ya ?_ | ((refine yb rfl rfl ?_ ?_); try (first | ((repeat' apply And.intro) <;> first | exact trivial | exact rfl | omega | (simp; done) | (simp; omega)))))
      exact wD (Ends.tupE agree rfl ⟨⟨pd_fits hx rfl, pd_pl _⟩, ⟨pd_fits hy rfl, pd_pl _⟩, rfl, trivial⟩ rfl rfl)
    | false =>
      repeat (first | ((refine yb rfl rfl ?_ ?_); try (first | ((repeat' apply And.intro) <;> first | exact trivial | exact rfl | omega | (simp; done) | (simp; omega)))) | refine yf rfl rfl ?_)
      refine yd rfl rfl (pd_pl _) (pd_sto hx hz rfl) ?_
      refine yd rfl rfl (pd_pl _) (pd_sto hy hz rfl) ?_
      repeat (first | refine ya ?_ | ((refine yb rfl rfl ?_ ?_); try (first | ((repeat' apply And.intro) <;> first | exact trivial | exact rfl | omega | (simp; done) | (simp; omega)))))
      exact wD (Ends.tupE agree rfl ⟨⟨pd_fits hx rfl, pd_pl _⟩, ⟨pd_fits hy rfl, pd_pl _⟩, rfl, trivial⟩ rfl rfl)
end Go.Proofs.YtaflihoopnjcgaaDoor

namespace Go.Proofs.YtaflihoopnjcgaaDoor
open Go Go.Dat

theorem k_New : DFun Tryd.prog 10 [.v (.int .i64 2)] (.tup [pd (newP 2), .v (.bool true)]) := by
  have h := c_pNew 2
  rw [if_pos (by decide), decide_eq_true (by decide)] at h
  exact h
theorem k_B1 : DFun Tryd.prog 26 [pd (newP 2)] (.tup [pd qa1, .v (.int .i64 0), .v (.int .i64 0)]) := by
  have h := c_Begin (newP 2) (newS (by decide) (by decide)) (by show (0 : Int) < _; decide)
  rw [ab1] at h
  exact h
theorem k_B2 : DFun Tryd.prog 26 [pd qa1] (.tup [pd qa2, .v (.int .i64 1), .v (.int .i64 0)]) := by
  have h := c_Begin qa1 spA1 (by show (1 : Int) < _; decide)
  rw [ab2] at h
  exact h
theorem k_B3 : DFun Tryd.prog 26 [pd qa2] (.tup [pd qa2, .v (.int .i64 0), .v (.int .i64 4)]) := by
  have h := c_Begin qa2 spA2 (by show (2 : Int) < _; decide)
  rw [ab3] at h
  exact h
theorem k_E1 : DFun Tryd.prog 23 [pd qa2, .v (.int .i64 1), .v (.int .i64 0)] (.tup [pd qa3, .v (.int .i64 0)]) := by
  have h := c_Edge qa2 1 0 spA2.pw
  rw [ae1] at h
  exact h
theorem k_E2 : DFun Tryd.prog 23 [pd qa3, .v (.int .i64 0), .v (.int .i64 1)] (.tup [pd qa3, .v (.int .i64 5)]) := by
  have h := c_Edge qa3 0 1 spA3.pw
  rw [ae2] at h
  exact h
theorem k_N1 : DFun Tryd.prog 22 [pd qa3, .v (.int .i64 1)] (.tup [pd qa4, .v (.int .i64 0)]) := by
  have h := c_End qa3 1 spA3.pw
  rw [an1] at h
  exact h
theorem k_C1 : DFun Tryd.prog 15 [pd qa4] (.tup [pd qa5, .lst .any 1 (ints [2])]) := by
  have h := c_Collect qa4 spA4
  rw [ac1] at h
  exact h
theorem spA5 : SP qa5 := by
  have h := SP.col 64 qa4 spA4
  rw [ac1] at h
  exact h
theorem noOwns_p2 (q : PL) (x : Value) : noOwns [pd q, .v x] = true := noOwns_pb q x

set_option maxHeartbeats 8000000 in
theorem c_alive5 : DFun Tryd.prog 9 [] (.v (.bool true)) := by
  refine DFun.ofRun agree mixed Tryd.func9 rfl rfl ?_
  have hz := pw0
  have w0 : PW (newP 2) := (newS (by decide) (by decide)).pw
  have w1 := spA1.pw
  have w2 := spA2.pw
  have w3 := spA3.pw
  have w4 := spA4.pw
  have w5 := spA5.pw
  repeat (first | refine wa ?_ | refine wb ?_ | refine wc ?_ | ((refine wl rfl rfl ?_ ?_); try (first | exact trivial)))
  refine wn (wA rfl rfl rfl (by repeat' (first | exact trivial | exact rfl | assumption | apply And.intro)) (callable (by decide)) (k_New)) rfl ?_
  repeat (first | ((refine wl rfl rfl ?_ ?_); try (first | ((repeat' apply And.intro) <;> first | exact trivial | exact rfl | omega | (simp; done) | (simp; omega)))))
  first | refine OpsAt.sayB (d := 1) rfl (y := pd zeroP) (rfl) ?_ | refine Run.sayB (d := 1) rfl (y := pd zeroP) (rfl) ?_
  refine wv rfl rfl (pd_pl _) (pd_sto w0 hz rfl) rfl ?_
  first | refine OpsAt.sayB (d := 1) rfl (y := pd (newP 2)) (rfl) ?_ | refine Run.sayB (d := 1) rfl (y := pd (newP 2)) (rfl) ?_
  have hp : ((pd (newP 2)).get []).pl = true := pd_pl _
  repeat (first | refine wa ?_ | refine wb ?_ | refine wc ?_ | ((refine wl rfl rfl ?_ ?_); try (first | ((repeat' apply And.intro) <;> first | exact trivial | exact rfl | omega | (simp; done) | (simp; omega)))))
  refine wn (wA rfl rfl rfl (by repeat' (first | exact trivial | exact rfl | assumption | apply And.intro)) (callable (by decide)) (k_B1)) rfl ?_
  repeat (first | ((refine wl rfl rfl ?_ ?_); try (first | ((repeat' apply And.intro) <;> first | exact trivial | exact rfl | omega | (simp; done) | (simp; omega)))))
  refine wv rfl rfl (pd_pl _) (pd_sto w1 w0 rfl) rfl ?_
  first | refine OpsAt.sayB (d := 1) rfl (y := pd qa1) (rfl) ?_ | refine Run.sayB (d := 1) rfl (y := pd qa1) (rfl) ?_
  have hp : ((pd qa1).get []).pl = true := pd_pl _
  repeat (first | refine wa ?_ | refine wb ?_ | refine wc ?_ | ((refine wl rfl rfl ?_ ?_); try (first | ((repeat' apply And.intro) <;> first | exact trivial | exact rfl | omega | (simp; done) | (simp; omega)))))
  refine wn (wA rfl rfl rfl (by repeat' (first | exact trivial | exact rfl | assumption | apply And.intro)) (callable (by decide)) (k_B2)) rfl ?_
  repeat (first | ((refine wl rfl rfl ?_ ?_); try (first | ((repeat' apply And.intro) <;> first | exact trivial | exact rfl | omega | (simp; done) | (simp; omega)))))
  refine wv rfl rfl (pd_pl _) (pd_sto w2 w1 rfl) rfl ?_
  first | refine OpsAt.sayB (d := 1) rfl (y := pd qa2) (rfl) ?_ | refine Run.sayB (d := 1) rfl (y := pd qa2) (rfl) ?_
  have hp : ((pd qa2).get []).pl = true := pd_pl _
  repeat (first | refine wa ?_ | refine wb ?_ | refine wc ?_ | ((refine wl rfl rfl ?_ ?_); try (first | ((repeat' apply And.intro) <;> first | exact trivial | exact rfl | omega | (simp; done) | (simp; omega)))))
  refine wn (wA rfl rfl rfl (by repeat' (first | exact trivial | exact rfl | assumption | apply And.intro)) (callable (by decide)) (k_B3)) rfl ?_
  repeat (first | ((refine wl rfl rfl ?_ ?_); try (first | ((repeat' apply And.intro) <;> first | exact trivial | exact rfl | omega | (simp; done) | (simp; omega)))))
  first | refine OpsAt.sayB (d := 7) rfl (y := pd zeroP) (rfl) ?_ | refine Run.sayB (d := 7) rfl (y := pd zeroP) (rfl) ?_
  refine wv rfl rfl (pd_pl _) (pd_sto w2 hz rfl) rfl ?_
  repeat (first | refine wb ?_ | ((refine wl rfl rfl ?_ ?_); try (first | ((repeat' apply And.intro) <;> first | exact trivial | exact rfl | omega | (simp; done) | (simp; omega)))))
  refine Run.keep [0, 1, 2, 3, 4, 5, 6, 8, 9] rfl ?_
  repeat (first | refine wa ?_ | refine wc ?_ | ((refine wl rfl rfl ?_ ?_); try (first | ((repeat' apply And.intro) <;> first | exact trivial | exact rfl | omega | (simp; done) | (simp; omega)))))
  refine wn (wA rfl rfl rfl (by repeat' (first | exact trivial | exact rfl | assumption | apply And.intro)) (callable (by decide)) (k_E1)) rfl ?_
  repeat (first | ((refine wl rfl rfl ?_ ?_); try (first | ((repeat' apply And.intro) <;> first | exact trivial | exact rfl | omega | (simp; done) | (simp; omega)))))
  refine wv rfl rfl (pd_pl _) (pd_sto w3 w2 rfl) rfl ?_
  first | refine OpsAt.sayB (d := 1) rfl (y := pd qa3) (rfl) ?_ | refine Run.sayB (d := 1) rfl (y := pd qa3) (rfl) ?_
  have hp : ((pd qa3).get []).pl = true := pd_pl _
  repeat (first | refine wa ?_ | refine wb ?_ | refine wc ?_ | ((refine wl rfl rfl ?_ ?_); try (first | ((repeat' apply And.intro) <;> first | exact trivial | exact rfl | omega | (simp; done) | (simp; omega)))))
  refine wn (wA rfl rfl rfl (by repeat' (first | exact trivial | exact rfl | assumption | apply And.intro)) (callable (by decide)) (k_E2)) rfl ?_
  repeat (first | ((refine wl rfl rfl ?_ ?_); try (first | ((repeat' apply And.intro) <;> first | exact trivial | exact rfl | omega | (simp; done) | (simp; omega)))))
  first | refine OpsAt.sayB (d := 11) rfl (y := pd zeroP) (rfl) ?_ | refine Run.sayB (d := 11) rfl (y := pd zeroP) (rfl) ?_
  refine wv rfl rfl (pd_pl _) (pd_sto w3 hz rfl) rfl ?_
  repeat (first | refine wb ?_ | ((refine wl rfl rfl ?_ ?_); try (first | ((repeat' apply And.intro) <;> first | exact trivial | exact rfl | omega | (simp; done) | (simp; omega)))))
  refine Run.keep [0, 1, 2, 3, 4, 5, 6, 8, 9, 10, 12] rfl ?_
  repeat (first | refine wa ?_ | refine wc ?_ | ((refine wl rfl rfl ?_ ?_); try (first | ((repeat' apply And.intro) <;> first | exact trivial | exact rfl | omega | (simp; done) | (simp; omega)))))
  refine wn (wA rfl rfl rfl (by repeat' (first | exact trivial | exact rfl | assumption | apply And.intro)) (callable (by decide)) (k_N1)) rfl ?_
  repeat (first | ((refine wl rfl rfl ?_ ?_); try (first | ((repeat' apply And.intro) <;> first | exact trivial | exact rfl | omega | (simp; done) | (simp; omega)))))
  refine wv rfl rfl (pd_pl _) (pd_sto w4 w3 rfl) rfl ?_
  first | refine OpsAt.sayB (d := 1) rfl (y := pd qa4) (rfl) ?_ | refine Run.sayB (d := 1) rfl (y := pd qa4) (rfl) ?_
  have hp : ((pd qa4).get []).pl = true := pd_pl _
  repeat (first | refine wa ?_ | refine wb ?_ | refine wc ?_ | ((refine wl rfl rfl ?_ ?_); try (first | ((repeat' apply And.intro) <;> first | exact trivial | exact rfl | omega | (simp; done) | (simp; omega)))))
  refine wn (wA rfl rfl rfl (by repeat' (first | exact trivial | exact rfl | assumption | apply And.intro)) (callable (by decide)) (k_C1)) rfl ?_
  repeat (first | ((refine wl rfl rfl ?_ ?_); try (first | ((repeat' apply And.intro) <;> first | exact trivial | exact rfl | omega | (simp; done) | (simp; omega)))))
  refine wv rfl rfl (pd_pl _) (pd_sto w5 w4 rfl) rfl ?_
  first | refine OpsAt.sayB (d := 1) rfl (y := pd qa5) (rfl) ?_ | refine Run.sayB (d := 1) rfl (y := pd qa5) (rfl) ?_
  repeat (first | refine wb ?_ | ((refine wl rfl rfl ?_ ?_); try (first | ((repeat' apply And.intro) <;> first | exact trivial | exact rfl | omega | (simp; done) | (simp; omega)))))
  refine Run.keep [0, 1, 2, 3, 4, 5, 6, 8, 9, 10, 12, 13, 14] rfl ?_
  repeat (first | refine wa ?_ | refine wc ?_ | ((first | refine wl rfl rfl ?_ ?_ | refine wm rfl rfl rfl ?_ ?_ | refine wo rfl (wp rfl rfl rfl rfl rfl ?_) rfl ?_ | refine wo rfl (wq agree rfl rfl rfl ?_) rfl ?_); try (first | ((repeat' apply And.intro) <;> first | exact trivial | exact rfl | omega | (simp; done) | (simp; omega)))))
  · exact ⟨trivial, rfl, by decide, by decide⟩
  repeat (first | refine wb ?_ | ((first | refine wl rfl rfl ?_ ?_ | refine wm rfl rfl rfl ?_ ?_ | refine wo rfl (wp rfl rfl rfl rfl rfl ?_) rfl ?_); try (first | ((repeat' apply And.intro) <;> first | exact trivial | exact rfl | omega | (simp; done) | (simp; omega)))))
  exact wD (wE rfl rfl rfl)
end Go.Proofs.YtaflihoopnjcgaaDoor
