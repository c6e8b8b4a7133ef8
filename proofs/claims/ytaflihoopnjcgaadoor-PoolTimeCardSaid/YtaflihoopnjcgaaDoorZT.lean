/- Texts W20, W21, S23h, W22, RTime, CTime in one file. No conditions. -/
import Derived.Test.YtaflihoopnjcgaaDoorWC
import Derived.Test.YtaflihoopnjcgaaDoorTC
import Derived.Test.YtaflihoopnjcgaaDoorKC
import Derived.Test.YtaflihoopnjcgaaDoorRows
import Derived.WalkKit
import Derived.ProofKit
import Derived.OpenShut
import Derived.ChangeOld
import Derived.Test.YtaflihoopnjcgaaDoorTie
import Derived.Test.YtaflihoopnjcgaaDoorCards
import Derived.SevenTiedAt

namespace Go.Proofs.YtaflihoopnjcgaaDoor
open Go Go.Dat

theorem c_Back1 (g : List Nat) (i : Int) (hg : gok g) : DFun Tryd.prog 49 [.v (.int .i64 i), .pt (gr g)] (S (insN g i)) := by
  refine DFun.ofRun agree mixed Tryd.func49 rfl rfl ?_
  repeat (first | refine wa ?_ | refine wb ?_ | refine wc ?_ | ((refine wl rfl rfl ?_ ?_); try (first | exact trivial)))
  · exact gr_fits hg.1 rfl
  repeat (first | ((refine wl rfl rfl ?_ ?_); try (first | ((repeat' apply And.intro) <;> first | exact trivial | exact rfl | omega | (simp; done) | (simp; omega)))))
  have hpl : (gr g).pl = true := gr_pl g
  refine wn (wA rfl rfl rfl (by repeat' (first | exact trivial | exact rfl | assumption | apply And.intro)) (callable (by decide)) (c_Ins g i hg)) rfl ?_
  repeat (first | refine wb ?_ | ((refine wl rfl rfl ?_ ?_); try (first | ((repeat' apply And.intro) <;> first | exact trivial | exact rfl | omega | (simp; done) | (simp; omega)))))
  exact wD (wE rfl rfl rfl)
theorem c_mBack (g : List Nat) (a : Nat) (ha : a < 32) (hg : gok g) : DFun Tryd.prog 21 [gr g, .v (.int .i64 a)] (S (backN g a)) := by
  refine DFun.ofRun agree mixed Tryd.func21 rfl rfl ?_
  repeat (first | refine wa ?_ | refine wb ?_ | refine wc ?_ | ((first | refine wl rfl rfl ?_ ?_ | refine xa agree rfl rfl ?_ ?_); try (first | exact trivial | ((repeat' apply And.intro) <;> first | exact trivial | exact rfl | omega | (simp; done) | (simp; omega)) | exact gr_pl _)))
  refine wn (xc rfl rfl rfl rfl (by repeat' (first | exact trivial | exact rfl | assumption | apply And.intro)) (callable (by decide)) (c_spread 49 [.pt (gr g).lend] (fun i => insN g (i : Int)) a ha (fun i => ins32 g i) (callable (by decide)) (fun i _ => by rw [gr_lend]; exact c_Back1 g i hg))) rfl ?_
  repeat (first | refine wb ?_ | ((refine wl rfl rfl ?_ ?_); try (first | ((repeat' apply And.intro) <;> first | exact trivial | exact rfl | omega | (simp; done) | (simp; omega)))))
  exact wD (wE rfl rfl rfl)
theorem k_iff (s : Nat) : ((ints (itemsN s)).length : Int) = (itemsL s).length := by rw [ints_len, itemsN_eq]; simp [natI]
theorem at_items {s : Nat} {pre post : List Nat} {x : Nat} (h : itemsL s = pre ++ x :: post) : (ints (itemsN s)).getD ((pre.length : Int)).toNat un = .v (.int .i64 x) := by rw [itemsN_eq, h]; simp [ints, natI]

theorem room_and {a b : Nat} (ha : a < M64) (hb : b < M64) (h : a &&& b = 0) : D.v (.bool ((IntKind.u64.wrap (BitVec.ofInt IntKind.u64.bits (a : Int) &&& BitVec.ofInt IntKind.u64.bits (b : Int)).toNat) != 0)) = .v (.bool false) := by
  rw [and64 ha hb, h]
  rfl

set_option maxHeartbeats 8000000 in
theorem c_PoolRoom (k : Int) (l : List (Int × Int × Int)) (hk : 0 ≤ k ∧ k ≤ 255) (hl : ∀ x ∈ l, 0 ≤ x.1 ∧ x.1 ≤ 255) :
    DFun Tryd.prog 6 [.v (.int .u8 k), .lst .any 3 (ads l)] (.v (.bool true)) := by
  refine DFun.ofRun agree mixed Tryd.func6 rfl rfl ?_
  have hz := pw0
  repeat (first | refine wa ?_ | refine wb ?_ | refine wc ?_ | ((refine wl rfl rfl ?_ ?_); try (first | exact trivial)))
  refine wn (wA rfl rfl rfl (by repeat' (first | exact trivial | exact rfl | assumption | apply And.intro)) (callable (by decide)) (c_alive5)) rfl ?_
  repeat (first | refine wa ?_ | refine wb ?_ | refine wc ?_ | refine wf ?_ | ((first | refine wl rfl rfl ?_ ?_ | refine wn (wp rfl rfl rfl rfl rfl ?_) rfl ?_ | refine wn (wq agree rfl rfl rfl ?_) rfl ?_ | refine wu rfl ?_ ?_); try (first | ((repeat' apply And.intro) <;> first | exact trivial | exact rfl | omega | (simp; done) | (simp; omega)))))
  refine Run.condB rfl rfl (fun h1 => ?_) (fun h1 => ?_)
  · repeat (first | refine wa ?_ | refine wb ?_ | refine wc ?_ | ((refine wl rfl rfl ?_ ?_); try (first | exact trivial)))
    exact wD (wE rfl rfl rfl)
  have hes : l.length ≤ 120 := by have := of_decide_eq_false h1; rw [ads_len] at this; omega
  repeat (first | refine wa ?_ | refine wc ?_ | refine wf ?_ | ((refine wl rfl rfl ?_ ?_); try (first | ((repeat' apply And.intro) <;> first | exact trivial | exact rfl | omega | (simp; done) | (simp; omega)))))
  refine wn (Ev.conv rfl rfl Tryd.underlying5 Tryd.underlying3 rfl) rfl ?_
  repeat (first | ((refine wn (wp rfl rfl rfl rfl rfl ?_) rfl ?_); try (first | ((repeat' apply And.intro) <;> first | exact trivial | exact rfl | omega | (simp; done) | (simp; omega)))))
  first | refine OpsAt.say (d := 26) rfl (y := .v (.int .i64 (nOf k))) (congrArg (fun z => D.v (.int .i64 z)) (nOf_is hk)) ?_ | refine Run.say (d := 26) rfl (y := .v (.int .i64 (nOf k))) (congrArg (fun z => D.v (.int .i64 z)) (nOf_is hk)) ?_ | refine OpsR.say (q := 26) rfl (y := .v (.int .i64 (nOf k))) (congrArg (fun z => D.v (.int .i64 z)) (nOf_is hk)) ?_ | refine OpsB.say (d := 26) rfl (y := .v (.int .i64 (nOf k))) (congrArg (fun z => D.v (.int .i64 z)) (nOf_is hk)) ?_
  refine wn (wA rfl rfl rfl (by repeat' (first | exact trivial | exact rfl | assumption | apply And.intro)) (callable (by decide)) (k_new)) rfl ?_
  repeat (first | ((refine wl rfl rfl ?_ ?_); try (first | ((repeat' apply And.intro) <;> first | exact trivial | exact rfl | omega | (simp; done) | (simp; omega)))))
  have w0 : PW (newP (nOf k)) := (newS (nOf1 k) (nOf2 k)).pw
  first | refine OpsAt.sayB (d := 5) rfl (y := pd zeroP) (rfl) ?_ | refine Run.sayB (d := 5) rfl (y := pd zeroP) (rfl) ?_
  refine wv rfl rfl (pd_pl _) (pd_sto w0 hz rfl) rfl ?_
  first | refine OpsAt.sayB (d := 5) rfl (y := pd (newP (nOf k))) (rfl) ?_ | refine Run.sayB (d := 5) rfl (y := pd (newP (nOf k))) (rfl) ?_
  repeat (first | refine wa ?_ | refine wb ?_ | refine wc ?_ | refine wd ?_ | refine wf ?_ | ((first | refine wl rfl rfl ?_ ?_ | refine wn (wq agree rfl rfl rfl ?_) rfl ?_ | refine wu rfl ?_ ?_); try (first | exact trivial | ((repeat' apply And.intro) <;> first | exact trivial | exact rfl | omega | (simp; done) | (simp; omega)))))
  have hlx : ((ads l).length : Int) = l.length := by rw [ads_len]
  refine Run.keep [4, 5, 32, 33, 34] rfl ?_
  refine Run.at (l' := [(4, .d (.v (.bool false))), (5, .box (pd (actsP (nOf k) []))), (32, .d (.lst .any 3 (ads l))), (33, .d (.v (.int .i64 l.length))), (34, .d (.v (.int .i64 (0 : Nat))))]) (by rw [← hlx]; rfl) ?_
  refine Run.loopL (α := List (Int × Int × Int) × List (Int × Int × Int)) (fun q => l = q.1 ++ q.2) (fun q => [(4, .d (.v (.bool false))), (5, .box (pd (actsP (nOf k) q.1))), (32, .d (.lst .any 3 (ads l))), (33, .d (.v (.int .i64 l.length))), (34, .d (.v (.int .i64 q.1.length)))]) (fun q => q.2.length) ([], l) rfl ?_
  rintro ⟨pre, post⟩ hpp ih
  simp only at hpp
  have hlen : l.length = pre.length + post.length := by rw [hpp]; simp
  have hap := acts_ok (nOf1 k) (nOf2 k) pre
  have hsn := acts_snoc (nOf k) pre
  obtain ⟨p, hp0⟩ : ∃ p, p = actsP (nOf k) pre := ⟨_, rfl⟩
  rw [← hp0] at hap hsn
  refine Run.at (l' := [(4, .d (.v (.bool false))), (5, .box (pd p)), (32, .d (.lst .any 3 (ads l))), (33, .d (.v (.int .i64 l.length))), (34, .d (.v (.int .i64 pre.length)))]) (by rw [hp0]) ?_
  have hct : p.ct ≤ 1000 := by have := hap.ct; omega
  have hw := hap.sp.pw
  have hpp1 : ((pd p).get []).pl = true := pd_pl p
  repeat (first | refine wa ?_ | refine wb ?_ | refine wc ?_ | ((refine wn (wp rfl rfl rfl rfl rfl ?_) rfl ?_); try (first | ((repeat' apply And.intro) <;> first | exact trivial | exact rfl | omega | (simp; done) | (simp; omega)))))
  refine Run.condB rfl rfl (fun hb => ?_) (fun hb => ?_)
  · cases post with
    | nil => simp at hlen hb; omega
    | cons x post =>
      have hgd : (ads l).getD ((pre.length : Int)).toNat un = ad x := by rw [hpp]; exact ads_pre pre post x
      have hkx := hl x (by rw [hpp]; simp)
      repeat (first | refine wa ?_ | refine wc ?_ | refine wd ?_ | refine wf ?_ | ((refine wl rfl rfl ?_ ?_)))
      · exact ⟨rfl, rfl, by omega, by rw [ads_len, hpp]; simp⟩
      first | refine OpsAt.say (d := 36) rfl (y := .pt (ad x)) (congrArg D.pt hgd) ?_ | refine Run.say (d := 36) rfl (y := .pt (ad x)) (congrArg D.pt hgd) ?_ | refine OpsR.say (q := 36) rfl (y := .pt (ad x)) (congrArg D.pt hgd) ?_ | refine OpsB.say (d := 36) rfl (y := .pt (ad x)) (congrArg D.pt hgd) ?_
      repeat (first | ((refine wl rfl rfl ?_ ?_); try (first | ((repeat' apply And.intro) <;> first | exact trivial | exact rfl | omega | (simp; done) | (simp; omega)))))
      refine wv rfl rfl rfl rfl rfl ?_
      first | refine OpsAt.sayB (d := 8) rfl (y := ad x) (rfl) ?_ | refine Run.sayB (d := 8) rfl (y := ad x) (rfl) ?_
      have hpa : ((ad x).get []).pl = true := rfl
      have hpz : (pd zeroP).pl = true := pd_pl _
      repeat (first | refine wb ?_ | refine wc ?_ | ((refine wl rfl rfl ?_ ?_); try (first | ((repeat' apply And.intro) <;> first | exact trivial | exact rfl | omega | (simp; done) | (simp; omega)) | exact ⟨pd_fits (by assumption) rfl, pd_pl _⟩)))
      first | refine OpsAt.say (d := 40) rfl (y := pd zeroP) (rfl) ?_ | refine Run.say (d := 40) rfl (y := pd zeroP) (rfl) ?_ | refine OpsR.say (q := 40) rfl (y := pd zeroP) (rfl) ?_ | refine OpsB.say (d := 40) rfl (y := pd zeroP) (rfl) ?_
      skip
      refine wn (wA rfl rfl rfl (by repeat' (first | exact trivial | exact rfl | assumption | apply And.intro)) (callable (by decide)) (k_does p x hap.sp hct hkx)) rfl ?_
      have hx := (hap.sp.does x).pw
      have hno := noOwns_ppb (doesP p x) zeroP (.bool (sameP p zeroP x))
      repeat (first | ((refine wl rfl rfl ?_ ?_); try (first | ((repeat' apply And.intro) <;> first | exact trivial | exact rfl | omega | (simp; done) | (simp; omega)) | exact pd_pl _)))
      refine wv rfl rfl (pd_pl _) (pd_sto hx hw rfl) rfl ?_
      first | refine OpsAt.sayB (d := 5) rfl (y := pd (actsP (nOf k) (pre ++ [x]))) (by rw [hsn x]; rfl) ?_ | refine Run.sayB (d := 5) rfl (y := pd (actsP (nOf k) (pre ++ [x]))) (by rw [hsn x]; rfl) ?_
      repeat (first | refine wb ?_ | refine wc ?_ | refine we ?_ | ((first | refine wl rfl rfl ?_ ?_ | refine wn (wp rfl rfl rfl rfl rfl ?_) rfl ?_); try (first | ((repeat' apply And.intro) <;> first | exact trivial | exact rfl | omega | (simp; done) | (simp; omega)))))
      first | refine OpsAt.say (d := 34) rfl (y := .v (.int .i64 ((pre ++ [x]).length : Nat))) (by rw [wrap64_in ((pre.length : Int) + 1) (by omega)]; simp) ?_ | refine Run.say (d := 34) rfl (y := .v (.int .i64 ((pre ++ [x]).length : Nat))) (by rw [wrap64_in ((pre.length : Int) + 1) (by omega)]; simp) ?_ | refine OpsR.say (q := 34) rfl (y := .v (.int .i64 ((pre ++ [x]).length : Nat))) (by rw [wrap64_in ((pre.length : Int) + 1) (by omega)]; simp) ?_ | refine OpsB.say (d := 34) rfl (y := .v (.int .i64 ((pre ++ [x]).length : Nat))) (by rw [wrap64_in ((pre.length : Int) + 1) (by omega)]; simp) ?_
      refine Run.keep [4, 5, 32, 33, 34] rfl ?_
      exact ih (pre ++ [x], post) (by simp [hpp]) (by simp)
  have hs := hap.sp
  refine Run.keep [4, 5] rfl ?_
  repeat (first | refine wj rfl ?_)
  have hq := SP.col 64 p hs
  have hover := fun i => room_over hs (i := i)
  have hback := fun i => room_back hs (i := i)
  refine wa ?_
  refine wc ?_
  repeat (first | ((refine wl rfl rfl ?_ ?_); try (first | exact ⟨pd_fits (by assumption) rfl, pd_pl _⟩)))
  refine wn (wA rfl rfl rfl (by repeat' (first | exact trivial | exact rfl | assumption | apply And.intro)) (callable (by decide)) (c_Collect p hs)) rfl ?_
  obtain ⟨q, ids, hqi⟩ : ∃ q ids, colP 64 p = (q, ids) := ⟨_, _, rfl⟩
  rw [hqi] at hq hover hback ⊢
  have hq : SP q := hq
  have hover : ∀ i, i ∈ itemsL q.dn → insN q.g (i : Int) ≠ 0 := hover
  have hback : ∀ i, i ∈ itemsL (andn p.dn q.dn) → i < 32 ∧ backN p.g i &&& p.lv = 0 := hback
  have hwq := hq.pw
  have hno2 := noOwns_pl q ids
  repeat (first | ((refine wl rfl rfl ?_ ?_); try (first | ((repeat' apply And.intro) <;> first | exact trivial | exact rfl | omega | (simp; done) | (simp; omega)) | exact pd_pl _)))
  first | refine OpsAt.sayB (d := 9) rfl (y := pd zeroP) (rfl) ?_ | refine Run.sayB (d := 9) rfl (y := pd zeroP) (rfl) ?_
  refine wv rfl rfl (pd_pl _) (pd_sto hwq hz rfl) rfl ?_
  first | refine OpsAt.sayB (d := 9) rfl (y := pd q) (rfl) ?_ | refine Run.sayB (d := 9) rfl (y := pd q) (rfl) ?_
  repeat (first | refine wb ?_ | ((refine wl rfl rfl ?_ ?_); try (first | ((repeat' apply And.intro) <;> first | exact trivial | exact rfl | omega | (simp; done) | (simp; omega)))))
  refine Run.keep [4, 5, 9] rfl ?_
  refine wa ?_
  skip
  refine wa ?_
  refine wc ?_
  repeat (first | ((refine wl rfl rfl ?_ ?_); try (first | ((repeat' apply And.intro) <;> first | exact trivial | exact rfl | omega | (simp; done) | (simp; omega)) | exact pd_fa (by assumption) rfl (by decide))))
  first | refine OpsAt.say (d := 53) rfl (y := S q.dn) (rfl) ?_ | refine Run.say (d := 53) rfl (y := S q.dn) (rfl) ?_ | refine OpsR.say (q := 53) rfl (y := S q.dn) (rfl) ?_ | refine OpsB.say (d := 53) rfl (y := S q.dn) (rfl) ?_
  refine wn (wA rfl rfl rfl (by repeat' (first | exact trivial | exact rfl | assumption | apply And.intro)) (callable (by decide)) (c_Items q.dn hq.dm)) rfl ?_
  repeat (first | refine wb ?_ | refine wd ?_ | ((first | refine wl rfl rfl ?_ ?_ | refine wn (wq agree rfl rfl rfl ?_) rfl ?_); try (first | exact trivial | ((repeat' apply And.intro) <;> first | exact trivial | exact rfl | omega | (simp; done) | (simp; omega)))))
  refine Run.keep [4, 5, 9, 54, 55, 56] rfl ?_
  refine Run.at (l' := [(4, .d (.v (.bool false))), (5, .box (pd p)), (9, .box (pd q)), (54, .d (.lst .any 1 (ints (itemsN q.dn)))), (55, .d (.v (.int .i64 (itemsL q.dn).length))), (56, .d (.v (.int .i64 (0 : Nat))))]) (by rw [← k_iff (q.dn)]; rfl) ?_
  refine Run.loopL (α := List Nat × List Nat) (fun y => itemsL q.dn = y.1 ++ y.2) (fun y => [(4, .d (.v (.bool false))), (5, .box (pd p)), (9, .box (pd q)), (54, .d (.lst .any 1 (ints (itemsN q.dn)))), (55, .d (.v (.int .i64 (itemsL q.dn).length))), (56, .d (.v (.int .i64 y.1.length)))]) (fun y => y.2.length) ([], itemsL q.dn) rfl ?_
  rintro ⟨pr1, po1⟩ hp1 ih1
  simp only at hp1
  have hl1 : (itemsL q.dn).length = pr1.length + po1.length := by rw [hp1]; simp
  have hl164 := itemsL_le (q.dn)
  repeat (first | refine wa ?_ | refine wb ?_ | refine wc ?_ | ((refine wn (wp rfl rfl rfl rfl rfl ?_) rfl ?_); try (first | ((repeat' apply And.intro) <;> first | exact trivial | exact rfl | omega | (simp; done) | (simp; omega)))))
  refine Run.condB rfl rfl (fun hb1 => ?_) (fun hb1 => ?_)
  · cases po1 with
    | nil => simp at hl1 hb1; omega
    | cons x po1 =>
      have hgd := at_items hp1
      have hlx2 := k_iff q.dn
      have hxm : x ∈ itemsL q.dn := by rw [hp1]; simp
      simp only [List.length_cons] at hl1
      repeat (first | refine wa ?_ | refine wc ?_ | refine wd ?_ | refine wf ?_ | ((refine wl rfl rfl ?_ ?_); try (first | (rw [hgd] <;> rfl) | ((repeat' apply And.intro) <;> first | exact trivial | exact rfl | omega | (simp; done) | (simp; omega)))))
      first | refine OpsAt.say (d := 59) rfl (y := .v (.int .i64 x)) (hgd) ?_ | refine Run.say (d := 59) rfl (y := .v (.int .i64 x)) (hgd) ?_ | refine OpsR.say (q := 59) rfl (y := .v (.int .i64 x)) (hgd) ?_ | refine OpsB.say (d := 59) rfl (y := .v (.int .i64 x)) (hgd) ?_
      repeat (first | refine wa ?_ | refine wb ?_ | refine wc ?_ | ((refine wl rfl rfl ?_ ?_); try (first | ((repeat' apply And.intro) <;> first | exact trivial | exact rfl | omega | (simp; done) | (simp; omega)) | exact pd_ld1 (by assumption) rfl)))
      first | refine OpsAt.say (d := 61) rfl (y := gr q.g) (rfl) ?_ | refine Run.say (d := 61) rfl (y := gr q.g) (rfl) ?_ | refine OpsR.say (q := 61) rfl (y := gr q.g) (rfl) ?_ | refine OpsB.say (d := 61) rfl (y := gr q.g) (rfl) ?_
      have hpg : (gr q.g).pl = true := gr_pl _
      refine wn (wA rfl rfl rfl (by repeat' (first | exact trivial | exact rfl | assumption | apply And.intro)) (callable (by decide)) (c_Ins q.g x hwq.g)) rfl ?_
      repeat (first | refine wb ?_ | ((refine wn (wp rfl rfl rfl rfl rfl ?_) rfl ?_); try (first | ((repeat' apply And.intro) <;> first | exact trivial | exact rfl | omega | (simp; done) | (simp; omega)))))
      first | refine OpsAt.say (d := 64) rfl (y := .v (.bool false)) (by have := hover x hxm; exact congrArg (fun z => D.v (.bool z)) (by simp only [beq_eq_false_iff_ne, ne_eq]; omega)) ?_ | refine Run.say (d := 64) rfl (y := .v (.bool false)) (by have := hover x hxm; exact congrArg (fun z => D.v (.bool z)) (by simp only [beq_eq_false_iff_ne, ne_eq]; omega)) ?_ | refine OpsR.say (q := 64) rfl (y := .v (.bool false)) (by have := hover x hxm; exact congrArg (fun z => D.v (.bool z)) (by simp only [beq_eq_false_iff_ne, ne_eq]; omega)) ?_ | refine OpsB.say (d := 64) rfl (y := .v (.bool false)) (by have := hover x hxm; exact congrArg (fun z => D.v (.bool z)) (by simp only [beq_eq_false_iff_ne, ne_eq]; omega)) ?_
      repeat (first | refine wb ?_ | refine wc ?_ | refine we ?_ | refine wf ?_ | ((first | refine wl rfl rfl ?_ ?_ | refine wn (wp rfl rfl rfl rfl rfl ?_) rfl ?_ | refine wu rfl ?_ ?_); try (first | ((repeat' apply And.intro) <;> first | exact trivial | exact rfl | omega | (simp; done) | (simp; omega)))))
      first | refine OpsAt.say (d := 56) rfl (y := .v (.int .i64 ((pr1 ++ [x]).length : Nat))) (by rw [wrap64_in ((pr1.length : Int) + 1) (by omega)]; simp) ?_ | refine Run.say (d := 56) rfl (y := .v (.int .i64 ((pr1 ++ [x]).length : Nat))) (by rw [wrap64_in ((pr1.length : Int) + 1) (by omega)]; simp) ?_ | refine OpsR.say (q := 56) rfl (y := .v (.int .i64 ((pr1 ++ [x]).length : Nat))) (by rw [wrap64_in ((pr1.length : Int) + 1) (by omega)]; simp) ?_ | refine OpsB.say (d := 56) rfl (y := .v (.int .i64 ((pr1 ++ [x]).length : Nat))) (by rw [wrap64_in ((pr1.length : Int) + 1) (by omega)]; simp) ?_
      refine Run.keep [4, 5, 9, 54, 55, 56] rfl ?_
      exact ih1 (pr1 ++ [x], po1) (by simp [hp1]) (by simp)
  refine Run.keep [4, 5, 9] rfl ?_
  repeat (first | refine wj rfl ?_)
  refine wa ?_
  skip
  refine wa ?_
  refine wc ?_
  repeat (first | ((first | refine wl rfl rfl ?_ ?_ | refine wn (wp rfl rfl rfl rfl rfl ?_) rfl ?_); try (first | ((repeat' apply And.intro) <;> first | exact trivial | exact rfl | omega | (simp; done) | (simp; omega)) | exact pd_fa (by assumption) rfl (by decide))))
  first | refine OpsAt.say (d := 70) rfl (y := S (andn p.dn q.dn)) (congrArg (fun z => D.v (.int .u64 z)) (andnot_is _ _)) ?_ | refine Run.say (d := 70) rfl (y := S (andn p.dn q.dn)) (congrArg (fun z => D.v (.int .u64 z)) (andnot_is _ _)) ?_ | refine OpsR.say (q := 70) rfl (y := S (andn p.dn q.dn)) (congrArg (fun z => D.v (.int .u64 z)) (andnot_is _ _)) ?_ | refine OpsB.say (d := 70) rfl (y := S (andn p.dn q.dn)) (congrArg (fun z => D.v (.int .u64 z)) (andnot_is _ _)) ?_
  refine wn (wA rfl rfl rfl (by repeat' (first | exact trivial | exact rfl | assumption | apply And.intro)) (callable (by decide)) (c_Items (andn p.dn q.dn) (andn_lt _ _))) rfl ?_
  repeat (first | refine wb ?_ | refine wd ?_ | ((first | refine wl rfl rfl ?_ ?_ | refine wn (wq agree rfl rfl rfl ?_) rfl ?_); try (first | exact trivial | ((repeat' apply And.intro) <;> first | exact trivial | exact rfl | omega | (simp; done) | (simp; omega)))))
  refine Run.keep [4, 5, 9, 71, 72, 73] rfl ?_
  refine Run.at (l' := [(4, .d (.v (.bool false))), (5, .box (pd p)), (9, .box (pd q)), (71, .d (.lst .any 1 (ints (itemsN (andn p.dn q.dn))))), (72, .d (.v (.int .i64 (itemsL (andn p.dn q.dn)).length))), (73, .d (.v (.int .i64 (0 : Nat))))]) (by rw [← k_iff ((andn p.dn q.dn))]; rfl) ?_
  refine Run.loopL (α := List Nat × List Nat) (fun y => itemsL (andn p.dn q.dn) = y.1 ++ y.2) (fun y => [(4, .d (.v (.bool false))), (5, .box (pd p)), (9, .box (pd q)), (71, .d (.lst .any 1 (ints (itemsN (andn p.dn q.dn))))), (72, .d (.v (.int .i64 (itemsL (andn p.dn q.dn)).length))), (73, .d (.v (.int .i64 y.1.length)))]) (fun y => y.2.length) ([], itemsL (andn p.dn q.dn)) rfl ?_
  rintro ⟨pr2, po2⟩ hp2 ih2
  simp only at hp2
  have hl2 : (itemsL (andn p.dn q.dn)).length = pr2.length + po2.length := by rw [hp2]; simp
  have hl264 := itemsL_le ((andn p.dn q.dn))
  repeat (first | refine wa ?_ | refine wb ?_ | refine wc ?_ | ((refine wn (wp rfl rfl rfl rfl rfl ?_) rfl ?_); try (first | ((repeat' apply And.intro) <;> first | exact trivial | exact rfl | omega | (simp; done) | (simp; omega)))))
  refine Run.condB rfl rfl (fun hb2 => ?_) (fun hb2 => ?_)
  · cases po2 with
    | nil => simp at hl2 hb2; omega
    | cons x po2 =>
      have hgd := at_items hp2
      have hlx2 := k_iff (andn p.dn q.dn)
      have hxm : x ∈ itemsL (andn p.dn q.dn) := by rw [hp2]; simp
      simp only [List.length_cons] at hl2
      repeat (first | refine wa ?_ | refine wc ?_ | refine wd ?_ | refine wf ?_ | ((refine wl rfl rfl ?_ ?_); try (first | (rw [hgd] <;> rfl) | ((repeat' apply And.intro) <;> first | exact trivial | exact rfl | omega | (simp; done) | (simp; omega)))))
      first | refine OpsAt.say (d := 76) rfl (y := .v (.int .i64 x)) (hgd) ?_ | refine Run.say (d := 76) rfl (y := .v (.int .i64 x)) (hgd) ?_ | refine OpsR.say (q := 76) rfl (y := .v (.int .i64 x)) (hgd) ?_ | refine OpsB.say (d := 76) rfl (y := .v (.int .i64 x)) (hgd) ?_
      repeat (first | refine wa ?_ | refine wb ?_ | ((refine wl rfl rfl ?_ ?_); try (first | ((repeat' apply And.intro) <;> first | exact trivial | exact rfl | omega | (simp; done) | (simp; omega)))))
      refine Run.ops1 (ld := []) rfl ?_
      obtain ⟨hx32, hxb⟩ := hback x hxm
      repeat (first | ((refine wl rfl rfl ?_ ?_); try (first | ((repeat' apply And.intro) <;> first | exact trivial | exact rfl | omega | (simp; done) | (simp; omega)) | exact pd_ld1 (by assumption) rfl)))
      first | refine OpsAt.say (d := 78) rfl (y := gr p.g) (rfl) ?_ | refine Run.say (d := 78) rfl (y := gr p.g) (rfl) ?_ | refine OpsR.say (q := 78) rfl (y := gr p.g) (rfl) ?_ | refine OpsB.say (d := 78) rfl (y := gr p.g) (rfl) ?_
      have hpg : (gr p.g).pl = true := gr_pl _
      refine wn (wA rfl rfl rfl (by repeat' (first | exact trivial | exact rfl | assumption | apply And.intro)) (callable (by decide)) (c_mBack p.g x hx32 hw.g)) rfl ?_
      repeat (first | refine wb ?_ | ((first | refine wl rfl rfl ?_ ?_ | refine wn (wp rfl rfl rfl rfl rfl ?_) rfl ?_); try (first | ((repeat' apply And.intro) <;> first | exact trivial | exact rfl | omega | (simp; done) | (simp; omega)) | exact pd_fa (by assumption) rfl (by decide))))
      first | refine OpsAt.say (d := 84) rfl (y := .v (.bool false)) (room_and (setOf_lt _) hs.lm hxb) ?_ | refine Run.say (d := 84) rfl (y := .v (.bool false)) (room_and (setOf_lt _) hs.lm hxb) ?_ | refine OpsR.say (q := 84) rfl (y := .v (.bool false)) (room_and (setOf_lt _) hs.lm hxb) ?_ | refine OpsB.say (d := 84) rfl (y := .v (.bool false)) (room_and (setOf_lt _) hs.lm hxb) ?_
      repeat (first | refine wb ?_ | refine wc ?_ | refine we ?_ | refine wf ?_ | ((first | refine wl rfl rfl ?_ ?_ | refine wn (wp rfl rfl rfl rfl rfl ?_) rfl ?_ | refine wu rfl ?_ ?_); try (first | ((repeat' apply And.intro) <;> first | exact trivial | exact rfl | omega | (simp; done) | (simp; omega)))))
      first | refine OpsAt.say (d := 73) rfl (y := .v (.int .i64 ((pr2 ++ [x]).length : Nat))) (by rw [wrap64_in ((pr2.length : Int) + 1) (by omega)]; simp) ?_ | refine Run.say (d := 73) rfl (y := .v (.int .i64 ((pr2 ++ [x]).length : Nat))) (by rw [wrap64_in ((pr2.length : Int) + 1) (by omega)]; simp) ?_ | refine OpsR.say (q := 73) rfl (y := .v (.int .i64 ((pr2 ++ [x]).length : Nat))) (by rw [wrap64_in ((pr2.length : Int) + 1) (by omega)]; simp) ?_ | refine OpsB.say (d := 73) rfl (y := .v (.int .i64 ((pr2 ++ [x]).length : Nat))) (by rw [wrap64_in ((pr2.length : Int) + 1) (by omega)]; simp) ?_
      refine Run.keep [4, 5, 9, 71, 72, 73] rfl ?_
      exact ih2 (pr2 ++ [x], po2) (by simp [hp2]) (by simp)
  refine Run.keep [4, 5, 9] rfl ?_
  repeat (first | refine wj rfl ?_)
  refine wa ?_
  refine wa ?_
  refine wc ?_
  repeat (first | ((refine wl rfl rfl ?_ ?_); try (first | ((repeat' apply And.intro) <;> first | exact trivial | exact rfl | omega | (simp; done) | (simp; omega)) | exact pd_fa (by assumption) rfl (by decide))))
  first | refine OpsAt.say (d := 87) rfl (y := S q.lv) (rfl) ?_ | refine Run.say (d := 87) rfl (y := S q.lv) (rfl) ?_ | refine OpsR.say (q := 87) rfl (y := S q.lv) (rfl) ?_ | refine OpsB.say (d := 87) rfl (y := S q.lv) (rfl) ?_
  refine wn (wA rfl rfl rfl (by repeat' (first | exact trivial | exact rfl | assumption | apply And.intro)) (callable (by decide)) (c_Items q.lv hq.lm)) rfl ?_
  repeat (first | refine wb ?_ | refine wd ?_ | ((first | refine wl rfl rfl ?_ ?_ | refine wn (wq agree rfl rfl rfl ?_) rfl ?_); try (first | exact trivial | ((repeat' apply And.intro) <;> first | exact trivial | exact rfl | omega | (simp; done) | (simp; omega)))))
  refine Run.keep [4, 5, 9, 88, 89, 90] rfl ?_
  refine Run.at (l' := [(4, .d (.v (.bool false))), (5, .box (pd p)), (9, .box (pd (endsP q []))), (88, .d (.lst .any 1 (ints (itemsN q.lv)))), (89, .d (.v (.int .i64 (itemsL q.lv).length))), (90, .d (.v (.int .i64 (0 : Nat))))]) (by rw [← k_iff (q.lv)]; rfl) ?_
  refine Run.loopL (α := List Nat × List Nat) (fun y => itemsL q.lv = y.1 ++ y.2) (fun y => [(4, .d (.v (.bool false))), (5, .box (pd p)), (9, .box (pd (endsP q y.1))), (88, .d (.lst .any 1 (ints (itemsN q.lv)))), (89, .d (.v (.int .i64 (itemsL q.lv).length))), (90, .d (.v (.int .i64 y.1.length)))]) (fun y => y.2.length) ([], itemsL q.lv) rfl ?_
  rintro ⟨pr3, po3⟩ hp3 ih3
  simp only at hp3
  have hl3 : (itemsL q.lv).length = pr3.length + po3.length := by rw [hp3]; simp
  have hl364 := itemsL_le (q.lv)
  have hr2 := ends_ok hq pr3
  have hrw := hr2.pw
  have hemp0 := room_empty hq
  have hemp : po3 = [] → (colP 64 (endsP q pr3)).1.dn = 0 ∧ (colP 64 (endsP q pr3)).1.lv = 0 ∧ (colP 64 (endsP q pr3)).1.g = G0 := fun e => by
    rw [show itemsL q.lv = pr3 by rw [hp3, e, List.append_nil]] at hemp0
    exact hemp0
  clear hemp0
  have hcl := (SP.col 64 _ hr2).pw
  obtain ⟨r, hrq⟩ : ∃ r, r = endsP q pr3 := ⟨_, rfl⟩
  rw [← hrq] at hr2 hrw hemp hcl
  have hplr : ((pd r).get []).pl = true := pd_pl r
  refine Run.at (l' := [(4, .d (.v (.bool false))), (5, .box (pd p)), (9, .box (pd r)), (88, .d (.lst .any 1 (ints (itemsN q.lv)))), (89, .d (.v (.int .i64 (itemsL q.lv).length))), (90, .d (.v (.int .i64 pr3.length)))]) (by rw [hrq]) ?_
  repeat (first | refine wa ?_ | refine wb ?_ | refine wc ?_ | ((refine wn (wp rfl rfl rfl rfl rfl ?_) rfl ?_); try (first | ((repeat' apply And.intro) <;> first | exact trivial | exact rfl | omega | (simp; done) | (simp; omega)))))
  refine Run.condB rfl rfl (fun hb3 => ?_) (fun hb3 => ?_)
  · cases po3 with
    | nil => simp at hl3 hb3; omega
    | cons x po3 =>
      have hgd := at_items hp3
      have hlx2 := k_iff q.lv
      have hxm : x ∈ itemsL q.lv := by rw [hp3]; simp
      simp only [List.length_cons] at hl3
      repeat (first | refine wa ?_ | refine wc ?_ | refine wd ?_ | refine wf ?_ | ((refine wl rfl rfl ?_ ?_); try (first | (rw [hgd] <;> rfl) | ((repeat' apply And.intro) <;> first | exact trivial | exact rfl | omega | (simp; done) | (simp; omega)))))
      first | refine OpsAt.say (d := 93) rfl (y := .v (.int .i64 x)) (hgd) ?_ | refine Run.say (d := 93) rfl (y := .v (.int .i64 x)) (hgd) ?_ | refine OpsR.say (q := 93) rfl (y := .v (.int .i64 x)) (hgd) ?_ | refine OpsB.say (d := 93) rfl (y := .v (.int .i64 x)) (hgd) ?_
      repeat (first | refine wb ?_ | refine wc ?_ | ((refine wl rfl rfl ?_ ?_); try (first | ((repeat' apply And.intro) <;> first | exact trivial | exact rfl | omega | (simp; done) | (simp; omega)) | exact ⟨pd_fits (by assumption) rfl, pd_pl _⟩)))
      have hrx := (hr2.endS (x : Int)).pw
      have hsn3 := ends_snoc q pr3 x
      rw [← hrq] at hsn3
      refine wn (wA rfl rfl rfl (by repeat' (first | exact trivial | exact rfl | assumption | apply And.intro)) (callable (by decide)) (c_End r x hrw)) rfl ?_
      repeat (first | ((refine wl rfl rfl ?_ ?_); try (first | ((repeat' apply And.intro) <;> first | exact trivial | exact rfl | omega | (simp; done) | (simp; omega)) | exact pd_pl _ | exact noOwns_pb _ _)))
      refine wv rfl rfl (pd_pl _) (pd_sto hrx hrw rfl) rfl ?_
      first | refine OpsAt.sayB (d := 9) rfl (y := pd (endsP q (pr3 ++ [x]))) (by rw [hsn3]; rfl) ?_ | refine Run.sayB (d := 9) rfl (y := pd (endsP q (pr3 ++ [x]))) (by rw [hsn3]; rfl) ?_
      repeat (first | refine wb ?_ | refine wc ?_ | refine we ?_ | ((first | refine wl rfl rfl ?_ ?_ | refine wn (wp rfl rfl rfl rfl rfl ?_) rfl ?_); try (first | ((repeat' apply And.intro) <;> first | exact trivial | exact rfl | omega | (simp; done) | (simp; omega)))))
      first | refine OpsAt.say (d := 90) rfl (y := .v (.int .i64 ((pr3 ++ [x]).length : Nat))) (by rw [wrap64_in ((pr3.length : Int) + 1) (by omega)]; simp) ?_ | refine Run.say (d := 90) rfl (y := .v (.int .i64 ((pr3 ++ [x]).length : Nat))) (by rw [wrap64_in ((pr3.length : Int) + 1) (by omega)]; simp) ?_ | refine OpsR.say (q := 90) rfl (y := .v (.int .i64 ((pr3 ++ [x]).length : Nat))) (by rw [wrap64_in ((pr3.length : Int) + 1) (by omega)]; simp) ?_ | refine OpsB.say (d := 90) rfl (y := .v (.int .i64 ((pr3 ++ [x]).length : Nat))) (by rw [wrap64_in ((pr3.length : Int) + 1) (by omega)]; simp) ?_
      refine Run.keep [4, 5, 9, 88, 89, 90] rfl ?_
      exact ih3 (pr3 ++ [x], po3) (by simp [hp3]) (by simp)
  have hpo3 : po3 = [] := by cases po3 with | nil => rfl | cons x po3 => simp at hl3 hb3; omega
  have hemp := hemp hpo3
  refine Run.keep [4, 5, 9] rfl ?_
  repeat (first | refine wa ?_ | refine wc ?_ | ((refine wl rfl rfl ?_ ?_); try (first | exact ⟨pd_fits (by assumption) rfl, pd_pl _⟩)) | refine wj rfl ?_)
  refine wn (wA rfl rfl rfl (by repeat' (first | exact trivial | exact rfl | assumption | apply And.intro)) (callable (by decide)) (c_Collect r hr2)) rfl ?_
  have hno3 := noOwns_pl (colP 64 r).1 (colP 64 r).2
  obtain ⟨e1, e2, e3⟩ := hemp
  repeat (first | ((refine wl rfl rfl ?_ ?_); try (first | ((repeat' apply And.intro) <;> first | exact trivial | exact rfl | omega | (simp; done) | (simp; omega)) | exact pd_pl _)))
  refine wv rfl rfl (pd_pl _) (pd_sto hcl hrw rfl) rfl ?_
  first | refine OpsAt.sayB (d := 9) rfl (y := pd (colP 64 r).1) (rfl) ?_ | refine Run.sayB (d := 9) rfl (y := pd (colP 64 r).1) (rfl) ?_
  repeat (first | refine wb ?_)
  refine Run.keep [4, 9] rfl ?_
  refine wa ?_
  refine wc ?_
  repeat (first | ((first | refine wl rfl rfl ?_ ?_ | refine wn (wp rfl rfl rfl rfl rfl ?_) rfl ?_); try (first | ((repeat' apply And.intro) <;> first | exact trivial | exact rfl | omega | (simp; done) | (simp; omega)) | exact pd_fa (by assumption) rfl (by decide))))
  first | refine OpsAt.say (d := 109) rfl (y := .v (.bool true)) (by show D.v (.bool (((colP 64 r).1.dn : Int) == 0)) = _; rw [e1]; rfl) ?_ | refine Run.say (d := 109) rfl (y := .v (.bool true)) (by show D.v (.bool (((colP 64 r).1.dn : Int) == 0)) = _; rw [e1]; rfl) ?_ | refine OpsR.say (q := 109) rfl (y := .v (.bool true)) (by show D.v (.bool (((colP 64 r).1.dn : Int) == 0)) = _; rw [e1]; rfl) ?_ | refine OpsB.say (d := 109) rfl (y := .v (.bool true)) (by show D.v (.bool (((colP 64 r).1.dn : Int) == 0)) = _; rw [e1]; rfl) ?_
  repeat (first | ((first | refine wl rfl rfl ?_ ?_ | refine wm rfl rfl rfl ?_ ?_ | refine wo rfl (wp rfl rfl rfl rfl rfl ?_) rfl ?_); try (first | ((repeat' apply And.intro) <;> first | exact trivial | exact rfl | omega | (simp; done) | (simp; omega)) | exact pd_fa (by assumption) rfl (by decide))))
  first | refine OpsAt.say (d := 114) rfl (y := .v (.bool true)) (by show D.v (.bool (((colP 64 r).1.lv : Int) == 0)) = _; rw [e2]; rfl) ?_ | refine Run.say (d := 114) rfl (y := .v (.bool true)) (by show D.v (.bool (((colP 64 r).1.lv : Int) == 0)) = _; rw [e2]; rfl) ?_ | refine OpsR.say (q := 114) rfl (y := .v (.bool true)) (by show D.v (.bool (((colP 64 r).1.lv : Int) == 0)) = _; rw [e2]; rfl) ?_ | refine OpsB.say (d := 114) rfl (y := .v (.bool true)) (by show D.v (.bool (((colP 64 r).1.lv : Int) == 0)) = _; rw [e2]; rfl) ?_
  repeat (first | ((refine wm rfl rfl rfl ?_ ?_); try (first | ((repeat' apply And.intro) <;> first | exact trivial | exact rfl | omega | (simp; done) | (simp; omega)) | exact pd_ld1 (by assumption) rfl)))
  first | refine OpsAt.say (d := 116) rfl (y := gr G0) (by show gr (colP 64 r).1.g = _; rw [e3]) ?_ | refine Run.say (d := 116) rfl (y := gr G0) (by show gr (colP 64 r).1.g = _; rw [e3]) ?_ | refine OpsR.say (q := 116) rfl (y := gr G0) (by show gr (colP 64 r).1.g = _; rw [e3]) ?_ | refine OpsB.say (d := 116) rfl (y := gr G0) (by show gr (colP 64 r).1.g = _; rw [e3]) ?_
  refine wo rfl (Ev.buildZ agree rfl rfl rfl) rfl ?_
  first | refine OpsAt.say (d := 117) rfl (y := gr G0) (rfl) ?_ | refine Run.say (d := 117) rfl (y := gr G0) (rfl) ?_ | refine OpsR.say (q := 117) rfl (y := gr G0) (rfl) ?_ | refine OpsB.say (d := 117) rfl (y := gr G0) (rfl) ?_
  have hg0 : (gr G0).pl = true := gr_pl _
  refine wo rfl (Ev.bins rfl rfl rfl (by repeat' (first | exact trivial | exact rfl | assumption | apply And.intro)) (BinD.eqAr (T := 27) (by kernel_rfl) (grT (d := 9998) gok0.1 (e := 25) rfl Tryd.underlying25 (fun _ => rfl)))) rfl ?_
  repeat (first | refine wb ?_ | ((refine wl rfl rfl ?_ ?_); try (first | ((repeat' apply And.intro) <;> first | exact trivial | exact rfl | omega | (simp; done) | (simp; omega)))))
  exact wD (wE rfl rfl rfl)
end Go.Proofs.YtaflihoopnjcgaaDoor

namespace Go.Proofs.YtaflihoopnjcgaaDoor
open Go Go.Dat

def ob (x m : Int) : Int := IntKind.u64.wrap ((BitVec.ofInt IntKind.u64.bits x &&& BitVec.ofInt IntKind.u64.bits m).toNat : Int)
def oshr (x k : Int) : Int := x.fdiv (2 ^ min k.toNat IntKind.u64.bits)
def of1 (x k m : Int) : Int := IntKind.u64.wrap (ob (oshr x k) m + ob x m)
def of3 (x : Int) : Int := ob (IntKind.u64.wrap (oshr x 4 + x)) 1085102592571150095
def of4 (x k : Int) : Int := IntKind.u64.wrap (x + oshr x k)
def ofs (x : Int) : Int := of4 (of4 (of4 (of3 (of1 (of1 x 1 6148914691236517205) 2 3689348814741910323)) 8) 16) 32

theorem c_Ones (n : Nat) (hn : n ≤ 32) : DFun Tryd.prog 54 [S (2 ^ n - 1)] (.v (.int .i64 n)) := by
  refine DFun.ofRun agree mixed Tryd.func54 rfl rfl ?_
  refine wa ?_
  refine wc ?_
  repeat (first | refine wb ?_ | ((refine wl rfl rfl ?_ ?_); try (first | exact trivial)))
  refine wa ?_
  refine wc ?_
  repeat (first | refine wb ?_ | ((first | refine wl rfl rfl ?_ ?_ | refine wn (wp rfl rfl rfl rfl rfl ?_) rfl ?_); try (first | ((repeat' apply And.intro) <;> first | exact trivial | exact rfl | omega | (simp; done) | (simp; omega)))))
  obtain ⟨x1, h1⟩ : ∃ x, x = of1 ((2 ^ n - 1 : Nat) : Int) 1 6148914691236517205 := ⟨_, rfl⟩
  first | refine OpsAt.say (d := 0) rfl (y := .v (.int .u64 x1)) (by rw [h1]; rfl) ?_ | refine Run.say (d := 0) rfl (y := .v (.int .u64 x1)) (by rw [h1]; rfl) ?_ | refine OpsR.say (q := 0) rfl (y := .v (.int .u64 x1)) (by rw [h1]; rfl) ?_ | refine OpsB.say (d := 0) rfl (y := .v (.int .u64 x1)) (by rw [h1]; rfl) ?_
  refine Run.keep [0, 2] rfl ?_
  refine wa ?_
  refine wc ?_
  repeat (first | refine wb ?_ | ((first | refine wl rfl rfl ?_ ?_ | refine wn (wp rfl rfl rfl rfl rfl ?_) rfl ?_); try (first | ((repeat' apply And.intro) <;> first | exact trivial | exact rfl | omega | (simp; done) | (simp; omega)))))
  obtain ⟨x2, h2⟩ : ∃ x, x = of1 x1 2 3689348814741910323 := ⟨_, rfl⟩
  first | refine OpsAt.say (d := 0) rfl (y := .v (.int .u64 x2)) (by rw [h2]; rfl) ?_ | refine Run.say (d := 0) rfl (y := .v (.int .u64 x2)) (by rw [h2]; rfl) ?_ | refine OpsR.say (q := 0) rfl (y := .v (.int .u64 x2)) (by rw [h2]; rfl) ?_ | refine OpsB.say (d := 0) rfl (y := .v (.int .u64 x2)) (by rw [h2]; rfl) ?_
  refine Run.keep [0, 2] rfl ?_
  refine wa ?_
  refine wc ?_
  repeat (first | refine wb ?_ | ((first | refine wl rfl rfl ?_ ?_ | refine wn (wp rfl rfl rfl rfl rfl ?_) rfl ?_); try (first | ((repeat' apply And.intro) <;> first | exact trivial | exact rfl | omega | (simp; done) | (simp; omega)))))
  obtain ⟨x3, h3⟩ : ∃ x, x = of3 x2 := ⟨_, rfl⟩
  first | refine OpsAt.say (d := 0) rfl (y := .v (.int .u64 x3)) (by rw [h3]; rfl) ?_ | refine Run.say (d := 0) rfl (y := .v (.int .u64 x3)) (by rw [h3]; rfl) ?_ | refine OpsR.say (q := 0) rfl (y := .v (.int .u64 x3)) (by rw [h3]; rfl) ?_ | refine OpsB.say (d := 0) rfl (y := .v (.int .u64 x3)) (by rw [h3]; rfl) ?_
  refine Run.keep [0, 2] rfl ?_
  refine wa ?_
  refine wc ?_
  repeat (first | refine wb ?_ | ((first | refine wl rfl rfl ?_ ?_ | refine wn (wp rfl rfl rfl rfl rfl ?_) rfl ?_); try (first | ((repeat' apply And.intro) <;> first | exact trivial | exact rfl | omega | (simp; done) | (simp; omega)))))
  obtain ⟨x4, h4⟩ : ∃ x, x = of4 x3 8 := ⟨_, rfl⟩
  first | refine OpsAt.say (d := 0) rfl (y := .v (.int .u64 x4)) (by rw [h4]; rfl) ?_ | refine Run.say (d := 0) rfl (y := .v (.int .u64 x4)) (by rw [h4]; rfl) ?_ | refine OpsR.say (q := 0) rfl (y := .v (.int .u64 x4)) (by rw [h4]; rfl) ?_ | refine OpsB.say (d := 0) rfl (y := .v (.int .u64 x4)) (by rw [h4]; rfl) ?_
  refine Run.keep [0, 2] rfl ?_
  refine wa ?_
  refine wc ?_
  repeat (first | refine wb ?_ | ((first | refine wl rfl rfl ?_ ?_ | refine wn (wp rfl rfl rfl rfl rfl ?_) rfl ?_); try (first | ((repeat' apply And.intro) <;> first | exact trivial | exact rfl | omega | (simp; done) | (simp; omega)))))
  obtain ⟨x5, h5⟩ : ∃ x, x = of4 x4 16 := ⟨_, rfl⟩
  first | refine OpsAt.say (d := 0) rfl (y := .v (.int .u64 x5)) (by rw [h5]; rfl) ?_ | refine Run.say (d := 0) rfl (y := .v (.int .u64 x5)) (by rw [h5]; rfl) ?_ | refine OpsR.say (q := 0) rfl (y := .v (.int .u64 x5)) (by rw [h5]; rfl) ?_ | refine OpsB.say (d := 0) rfl (y := .v (.int .u64 x5)) (by rw [h5]; rfl) ?_
  refine Run.keep [0, 2] rfl ?_
  refine wa ?_
  refine wc ?_
  repeat (first | refine wb ?_ | ((first | refine wl rfl rfl ?_ ?_ | refine wn (wp rfl rfl rfl rfl rfl ?_) rfl ?_); try (first | ((repeat' apply And.intro) <;> first | exact trivial | exact rfl | omega | (simp; done) | (simp; omega)))))
  obtain ⟨x6, h6⟩ : ∃ x, x = of4 x5 32 := ⟨_, rfl⟩
  first | refine OpsAt.say (d := 0) rfl (y := .v (.int .u64 x6)) (by rw [h6]; rfl) ?_ | refine Run.say (d := 0) rfl (y := .v (.int .u64 x6)) (by rw [h6]; rfl) ?_ | refine OpsR.say (q := 0) rfl (y := .v (.int .u64 x6)) (by rw [h6]; rfl) ?_ | refine OpsB.say (d := 0) rfl (y := .v (.int .u64 x6)) (by rw [h6]; rfl) ?_
  refine Run.keep [0, 2] rfl ?_
  have hall : x6 = ofs ((2 ^ n - 1 : Nat) : Int) := by rw [h6, h5, h4, h3, h2, h1]; rfl
  refine wa ?_
  refine wc ?_
  repeat (first | ((refine wl rfl rfl ?_ ?_); try (first | ((repeat' apply And.intro) <;> first | exact trivial | exact rfl | omega | (simp; done) | (simp; omega)))))
  refine wn (Ev.conv rfl rfl Tryd.underlying24 Tryd.underlying3 rfl) rfl ?_
  repeat (first | refine wb ?_ | ((first | refine wl rfl rfl ?_ ?_ | refine wn (wp rfl rfl rfl rfl rfl ?_) rfl ?_); try (first | ((repeat' apply And.intro) <;> first | exact trivial | exact rfl | omega | (simp; done) | (simp; omega)))))
  refine wD (wE rfl rfl ?_)
  rw [hall]
  have key : ∀ n : Fin 33, IntKind.i64.wrap (BitVec.ofInt IntKind.i64.bits (IntKind.i64.wrap (ofs ((2 ^ n.1 - 1 : Nat) : Int))) &&& BitVec.ofInt IntKind.i64.bits 127).toNat = n.1 := by decide +kernel
  exact congrArg (fun z => D.v (.int .i64 z)) (key ⟨n, by omega⟩)
theorem c_Count (n : Nat) (hn : n ≤ 32) : DFun Tryd.prog 27 [S (2 ^ n - 1)] (.v (.int .i64 n)) := by
  refine DFun.ofRun agree mixed Tryd.func27 rfl rfl ?_
  repeat (first | refine wa ?_ | refine wb ?_ | refine wc ?_ | ((refine wl rfl rfl ?_ ?_); try (first | exact trivial | ((repeat' apply And.intro) <;> first | exact trivial | exact rfl | omega | (simp; done) | (simp; omega)))))
  refine wn (wA rfl rfl rfl (by repeat' (first | exact trivial | exact rfl | assumption | apply And.intro)) (callable (by decide)) (c_Ones n hn)) rfl ?_
  repeat (first | refine wb ?_ | ((refine wl rfl rfl ?_ ?_); try (first | ((repeat' apply And.intro) <;> first | exact trivial | exact rfl | omega | (simp; done) | (simp; omega)))))
  exact wD (wE rfl rfl rfl)
end Go.Proofs.YtaflihoopnjcgaaDoor

namespace Go.Proofs.YtaflihoopnjcgaaDoor
open Go Go.Dat

theorem c_mHas (g : List Nat) (a b : Nat) (hg : gok g) : DFun Tryd.prog 28 [gr g, .v (.int .i64 a), .v (.int .i64 b)] (.v (.bool (edge g a b))) := by
  refine DFun.ofRun agree mixed Tryd.func28 rfl rfl ?_
  repeat (first | refine wa ?_ | refine wc ?_ | ((refine wl rfl rfl ?_ ?_)))
  · exact gr_pl g
  repeat (first | refine wa ?_ | refine wb ?_ | refine wc ?_ | ((refine wl rfl rfl ?_ ?_); try (first | exact trivial)))
  · exact ⟨gr_fits hg.1 rfl, gr_pl g⟩
  repeat (first | ((refine wl rfl rfl ?_ ?_); try (first | ((repeat' apply And.intro) <;> first | exact trivial | exact rfl | omega | (simp; done) | (simp; omega)))))
  have hpl : ((gr g).get []).pl = true := gr_pl g
  refine wn (wA rfl rfl rfl (by repeat' (first | exact trivial | exact rfl | assumption | apply And.intro)) (callable (by decide)) (c_Outs g a hg)) rfl ?_
  repeat (first | ((refine wl rfl rfl ?_ ?_); try (first | ((repeat' apply And.intro) <;> first | exact trivial | exact rfl | omega | (simp; done) | (simp; omega)))))
  refine wn (wA rfl rfl rfl (by repeat' (first | exact trivial | exact rfl | assumption | apply And.intro)) (callable (by decide)) (c_Has (outsN g (a : Int)) b (outs_lt g a))) rfl ?_
  repeat (first | refine wb ?_ | ((refine wl rfl rfl ?_ ?_); try (first | ((repeat' apply And.intro) <;> first | exact trivial | exact rfl | omega | (simp; done) | (simp; omega)))))
  refine wD (wE rfl rfl ?_)
  have : hasN (outsN g (a : Int)) (b : Int) = edge g a b := by
    unfold hasN
    rw [Int.toNat_natCast, outs_bit]
    by_cases hb : b < 32
    · have : small (b : Int) = true := by simp [small]; omega
      rw [this, Bool.true_and]
    · have : edge g a b = false := by simp [edge]; omega
      rw [this, Bool.and_false]
  rw [this]

end Go.Proofs.YtaflihoopnjcgaaDoor

namespace Go.Proofs.YtaflihoopnjcgaaDoor
open Go Go.Dat

theorem o_at {q : PL} (h : PW q) {i : Nat} (hi : i < 32) : (pd q).get ([] ++ [2] ++ [((i : Int)).toNat]) = .v (.int .i64 (q.o.getD i 0)) := by
  show (ints q.o).getD i un = _
  simp [ints, h.o, hi]

set_option maxHeartbeats 8000000 in
theorem c_PoolTime (k : Int) (l : List (Int × Int × Int)) (hk : 0 ≤ k ∧ k ≤ 255) (hl : ∀ x ∈ l, 0 ≤ x.1 ∧ x.1 ≤ 255) :
    DFun Tryd.prog 8 [.v (.int .u8 k), .lst .any 3 (ads l)] (.v (.bool true)) := by
  refine DFun.ofRun agree mixed Tryd.func8 rfl rfl ?_
  have hz := pw0
  repeat (first | refine wa ?_ | refine wb ?_ | refine wc ?_ | ((refine wl rfl rfl ?_ ?_); try (first | exact trivial)))
  refine wn (wA rfl rfl rfl (by repeat' (first | exact trivial | exact rfl | assumption | apply And.intro)) (callable (by decide)) (c_alive5)) rfl ?_
  repeat (first | refine wa ?_ | refine wb ?_ | refine wc ?_ | refine wf ?_ | ((first | refine wl rfl rfl ?_ ?_ | refine wn (wp rfl rfl rfl rfl rfl ?_) rfl ?_ | refine wn (wq agree rfl rfl rfl ?_) rfl ?_ | refine wu rfl ?_ ?_); try (first | ((repeat' apply And.intro) <;> first | exact trivial | exact rfl | omega | (simp; done) | (simp; omega)))))
  refine Run.condB rfl rfl (fun h1 => ?_) (fun h1 => ?_)
  · repeat (first | refine wa ?_ | refine wb ?_ | refine wc ?_ | ((refine wl rfl rfl ?_ ?_); try (first | exact trivial)))
    exact wD (wE rfl rfl rfl)
  have hes : l.length ≤ 120 := by have := of_decide_eq_false h1; rw [ads_len] at this; omega
  repeat (first | refine wa ?_ | refine wc ?_ | refine wf ?_ | ((refine wl rfl rfl ?_ ?_); try (first | ((repeat' apply And.intro) <;> first | exact trivial | exact rfl | omega | (simp; done) | (simp; omega)))))
  refine wn (Ev.conv rfl rfl Tryd.underlying5 Tryd.underlying3 rfl) rfl ?_
  repeat (first | ((refine wn (wp rfl rfl rfl rfl rfl ?_) rfl ?_); try (first | ((repeat' apply And.intro) <;> first | exact trivial | exact rfl | omega | (simp; done) | (simp; omega)))))
  first | refine OpsAt.say (d := 23) rfl (y := .v (.int .i64 (nOf k))) (congrArg (fun z => D.v (.int .i64 z)) (nOf_is hk)) ?_ | refine Run.say (d := 23) rfl (y := .v (.int .i64 (nOf k))) (congrArg (fun z => D.v (.int .i64 z)) (nOf_is hk)) ?_ | refine OpsR.say (q := 23) rfl (y := .v (.int .i64 (nOf k))) (congrArg (fun z => D.v (.int .i64 z)) (nOf_is hk)) ?_ | refine OpsB.say (d := 23) rfl (y := .v (.int .i64 (nOf k))) (congrArg (fun z => D.v (.int .i64 z)) (nOf_is hk)) ?_
  refine wn (wA rfl rfl rfl (by repeat' (first | exact trivial | exact rfl | assumption | apply And.intro)) (callable (by decide)) (k_new)) rfl ?_
  repeat (first | ((refine wl rfl rfl ?_ ?_); try (first | ((repeat' apply And.intro) <;> first | exact trivial | exact rfl | omega | (simp; done) | (simp; omega)))))
  have w0 : PW (newP (nOf k)) := (newS (nOf1 k) (nOf2 k)).pw
  first | refine OpsAt.sayB (d := 5) rfl (y := pd zeroP) (rfl) ?_ | refine Run.sayB (d := 5) rfl (y := pd zeroP) (rfl) ?_
  refine wv rfl rfl (pd_pl _) (pd_sto w0 hz rfl) rfl ?_
  first | refine OpsAt.sayB (d := 5) rfl (y := pd (newP (nOf k))) (rfl) ?_ | refine Run.sayB (d := 5) rfl (y := pd (newP (nOf k))) (rfl) ?_
  repeat (first | refine wa ?_ | refine wb ?_ | refine wc ?_ | refine wd ?_ | refine wf ?_ | ((first | refine wl rfl rfl ?_ ?_ | refine wn (wq agree rfl rfl rfl ?_) rfl ?_ | refine wu rfl ?_ ?_); try (first | exact trivial | ((repeat' apply And.intro) <;> first | exact trivial | exact rfl | omega | (simp; done) | (simp; omega)))))
  have hlx : ((ads l).length : Int) = l.length := by rw [ads_len]
  refine Run.keep [4, 5, 29, 30, 31] rfl ?_
  refine Run.at (l' := [(4, .d (.v (.bool false))), (5, .box (pd (actsP (nOf k) []))), (29, .d (.lst .any 3 (ads l))), (30, .d (.v (.int .i64 l.length))), (31, .d (.v (.int .i64 (0 : Nat))))]) (by rw [← hlx]; rfl) ?_
  refine Run.loopL (α := List (Int × Int × Int) × List (Int × Int × Int)) (fun q => l = q.1 ++ q.2) (fun q => [(4, .d (.v (.bool false))), (5, .box (pd (actsP (nOf k) q.1))), (29, .d (.lst .any 3 (ads l))), (30, .d (.v (.int .i64 l.length))), (31, .d (.v (.int .i64 q.1.length)))]) (fun q => q.2.length) ([], l) rfl ?_
  rintro ⟨pre, post⟩ hpp ih
  simp only at hpp
  have hlen : l.length = pre.length + post.length := by rw [hpp]; simp
  have hap := acts_ok (nOf1 k) (nOf2 k) pre
  have hsn := acts_snoc (nOf k) pre
  obtain ⟨p, hp0⟩ : ∃ p, p = actsP (nOf k) pre := ⟨_, rfl⟩
  rw [← hp0] at hap hsn
  refine Run.at (l' := [(4, .d (.v (.bool false))), (5, .box (pd p)), (29, .d (.lst .any 3 (ads l))), (30, .d (.v (.int .i64 l.length))), (31, .d (.v (.int .i64 pre.length)))]) (by rw [hp0]) ?_
  have hct : p.ct ≤ 1000 := by have := hap.ct; omega
  have hw := hap.sp.pw
  have hpp1 : ((pd p).get []).pl = true := pd_pl p
  repeat (first | refine wa ?_ | refine wb ?_ | refine wc ?_ | ((refine wn (wp rfl rfl rfl rfl rfl ?_) rfl ?_); try (first | ((repeat' apply And.intro) <;> first | exact trivial | exact rfl | omega | (simp; done) | (simp; omega)))))
  refine Run.condB rfl rfl (fun hb => ?_) (fun hb => ?_)
  · cases post with
    | nil => simp at hlen hb; omega
    | cons x post =>
      have hgd : (ads l).getD ((pre.length : Int)).toNat un = ad x := by rw [hpp]; exact ads_pre pre post x
      have hkx := hl x (by rw [hpp]; simp)
      repeat (first | refine wa ?_ | refine wc ?_ | refine wd ?_ | refine wf ?_ | ((refine wl rfl rfl ?_ ?_)))
      · exact ⟨rfl, rfl, by omega, by rw [ads_len, hpp]; simp⟩
      first | refine OpsAt.say (d := 33) rfl (y := .pt (ad x)) (congrArg D.pt hgd) ?_ | refine Run.say (d := 33) rfl (y := .pt (ad x)) (congrArg D.pt hgd) ?_ | refine OpsR.say (q := 33) rfl (y := .pt (ad x)) (congrArg D.pt hgd) ?_ | refine OpsB.say (d := 33) rfl (y := .pt (ad x)) (congrArg D.pt hgd) ?_
      repeat (first | ((refine wl rfl rfl ?_ ?_); try (first | ((repeat' apply And.intro) <;> first | exact trivial | exact rfl | omega | (simp; done) | (simp; omega)))))
      refine wv rfl rfl rfl rfl rfl ?_
      first | refine OpsAt.sayB (d := 8) rfl (y := ad x) (rfl) ?_ | refine Run.sayB (d := 8) rfl (y := ad x) (rfl) ?_
      have hpa : ((ad x).get []).pl = true := rfl
      have hpz : (pd zeroP).pl = true := pd_pl _
      repeat (first | refine wb ?_ | refine wc ?_ | ((refine wl rfl rfl ?_ ?_); try (first | ((repeat' apply And.intro) <;> first | exact trivial | exact rfl | omega | (simp; done) | (simp; omega)) | exact ⟨pd_fits (by assumption) rfl, pd_pl _⟩)))
      first | refine OpsAt.say (d := 37) rfl (y := pd zeroP) (rfl) ?_ | refine Run.say (d := 37) rfl (y := pd zeroP) (rfl) ?_ | refine OpsR.say (q := 37) rfl (y := pd zeroP) (rfl) ?_ | refine OpsB.say (d := 37) rfl (y := pd zeroP) (rfl) ?_
      skip
      refine wn (wA rfl rfl rfl (by repeat' (first | exact trivial | exact rfl | assumption | apply And.intro)) (callable (by decide)) (k_does p x hap.sp hct hkx)) rfl ?_
      have hx := (hap.sp.does x).pw
      have hno := noOwns_ppb (doesP p x) zeroP (.bool (sameP p zeroP x))
      repeat (first | ((refine wl rfl rfl ?_ ?_); try (first | ((repeat' apply And.intro) <;> first | exact trivial | exact rfl | omega | (simp; done) | (simp; omega)) | exact pd_pl _)))
      refine wv rfl rfl (pd_pl _) (pd_sto hx hw rfl) rfl ?_
      first | refine OpsAt.sayB (d := 5) rfl (y := pd (actsP (nOf k) (pre ++ [x]))) (by rw [hsn x]; rfl) ?_ | refine Run.sayB (d := 5) rfl (y := pd (actsP (nOf k) (pre ++ [x]))) (by rw [hsn x]; rfl) ?_
      repeat (first | refine wb ?_ | refine wc ?_ | refine we ?_ | ((first | refine wl rfl rfl ?_ ?_ | refine wn (wp rfl rfl rfl rfl rfl ?_) rfl ?_); try (first | ((repeat' apply And.intro) <;> first | exact trivial | exact rfl | omega | (simp; done) | (simp; omega)))))
      first | refine OpsAt.say (d := 31) rfl (y := .v (.int .i64 ((pre ++ [x]).length : Nat))) (by rw [wrap64_in ((pre.length : Int) + 1) (by omega)]; simp) ?_ | refine Run.say (d := 31) rfl (y := .v (.int .i64 ((pre ++ [x]).length : Nat))) (by rw [wrap64_in ((pre.length : Int) + 1) (by omega)]; simp) ?_ | refine OpsR.say (q := 31) rfl (y := .v (.int .i64 ((pre ++ [x]).length : Nat))) (by rw [wrap64_in ((pre.length : Int) + 1) (by omega)]; simp) ?_ | refine OpsB.say (d := 31) rfl (y := .v (.int .i64 ((pre ++ [x]).length : Nat))) (by rw [wrap64_in ((pre.length : Int) + 1) (by omega)]; simp) ?_
      refine Run.keep [4, 5, 29, 30, 31] rfl ?_
      exact ih (pre ++ [x], post) (by simp [hpp]) (by simp)
  have hs := hap.sp
  refine Run.keep [4, 5] rfl ?_
  repeat (first | refine wj rfl ?_)
  have hcb : p.ct < 9223372036854775807 := by omega
  refine wa ?_
  refine wc ?_
  repeat (first | ((refine wl rfl rfl ?_ ?_); try (first | exact ⟨pd_fits (by assumption) rfl, pd_pl _⟩)))
  refine wn (wA rfl rfl rfl (by repeat' (first | exact trivial | exact rfl | assumption | apply And.intro)) (callable (by decide)) (c_Begin p hs hcb)) rfl ?_
  by_cases h0 : freeP p = 0
  · have e : beginP p = (p, 0, 4) := by unfold beginP; rw [if_pos h0]
    have hno2 : noOwns [pd p, .v (.int .i64 0), .v (.int .i64 4)] = true := noOwns_pbb _ _ _
    have hfull := time_full hs h0
    have hsz : ((p.sz.toNat : Nat) : Int) = p.sz := by have := hs.s1; omega
    rw [e]
    repeat (first | ((refine wl rfl rfl ?_ ?_); try (first | ((repeat' apply And.intro) <;> first | exact trivial | exact rfl | omega | (simp; done) | (simp; omega)) | exact pd_pl _)))
    first | refine OpsAt.sayB (d := 9) rfl (y := pd zeroP) (rfl) ?_ | refine Run.sayB (d := 9) rfl (y := pd zeroP) (rfl) ?_
    refine wv rfl rfl (pd_pl _) (pd_sto hw hz rfl) rfl ?_
    first | refine OpsAt.sayB (d := 9) rfl (y := pd p) (rfl) ?_ | refine Run.sayB (d := 9) rfl (y := pd p) (rfl) ?_
    repeat (first | refine wa ?_ | refine wb ?_ | refine wc ?_ | ((first | refine wl rfl rfl ?_ ?_ | refine wn (wp rfl rfl rfl rfl rfl ?_) rfl ?_ | refine wt rfl ?_ ?_); try (first | ((repeat' apply And.intro) <;> first | exact trivial | exact rfl | omega | (simp; done) | (simp; omega)))))
    refine Run.ops1 (ld := []) rfl ?_
    repeat (first | ((first | refine wl rfl rfl ?_ ?_ | refine wn (wp rfl rfl rfl rfl rfl ?_) rfl ?_ | refine wm rfl rfl rfl ?_ ?_ | refine wo rfl (wp rfl rfl rfl rfl rfl ?_) rfl ?_); try (first | ((repeat' apply And.intro) <;> first | exact trivial | exact rfl | omega | (simp; done) | (simp; omega)) | exact pd_fa (by assumption) rfl (by decide))))
    first | refine OpsAt.say (d := 59) rfl (y := S (2 ^ p.sz.toNat - 1)) (congrArg (fun z => D.v (.int .u64 z)) ((or64 hs.lm hs.dm).trans (congrArg (fun z : Nat => (z : Int)) hfull))) ?_ | refine Run.say (d := 59) rfl (y := S (2 ^ p.sz.toNat - 1)) (congrArg (fun z => D.v (.int .u64 z)) ((or64 hs.lm hs.dm).trans (congrArg (fun z : Nat => (z : Int)) hfull))) ?_ | refine OpsR.say (q := 59) rfl (y := S (2 ^ p.sz.toNat - 1)) (congrArg (fun z => D.v (.int .u64 z)) ((or64 hs.lm hs.dm).trans (congrArg (fun z : Nat => (z : Int)) hfull))) ?_ | refine OpsB.say (d := 59) rfl (y := S (2 ^ p.sz.toNat - 1)) (congrArg (fun z => D.v (.int .u64 z)) ((or64 hs.lm hs.dm).trans (congrArg (fun z : Nat => (z : Int)) hfull))) ?_
    refine wo rfl (wA rfl rfl rfl (by repeat' (first | exact trivial | exact rfl | assumption | apply And.intro)) (callable (by decide)) (c_Count p.sz.toNat (by have := hs.s2; omega))) rfl ?_
    first | refine OpsAt.say (d := 60) rfl (y := .v (.int .i64 p.sz)) (by rw [hsz]) ?_ | refine Run.say (d := 60) rfl (y := .v (.int .i64 p.sz)) (by rw [hsz]) ?_ | refine OpsR.say (q := 60) rfl (y := .v (.int .i64 p.sz)) (by rw [hsz]) ?_ | refine OpsB.say (d := 60) rfl (y := .v (.int .i64 p.sz)) (by rw [hsz]) ?_
    repeat (first | ((first | refine wl rfl rfl ?_ ?_ | refine wm rfl rfl rfl ?_ ?_ | refine wo rfl (wp rfl rfl rfl rfl rfl ?_) rfl ?_); try (first | ((repeat' apply And.intro) <;> first | exact trivial | exact rfl | omega | (simp; done) | (simp; omega)))))
    first | refine OpsAt.say (d := 65) rfl (y := .v (.bool true)) (by show D.v (.bool (p.sz == p.sz)) = _; simp) ?_ | refine Run.say (d := 65) rfl (y := .v (.bool true)) (by show D.v (.bool (p.sz == p.sz)) = _; simp) ?_ | refine OpsR.say (q := 65) rfl (y := .v (.bool true)) (by show D.v (.bool (p.sz == p.sz)) = _; simp) ?_ | refine OpsB.say (d := 65) rfl (y := .v (.bool true)) (by show D.v (.bool (p.sz == p.sz)) = _; simp) ?_
    repeat (first | ((refine wm rfl rfl rfl ?_ ?_); try (first | exact ⟨pd_fits (by assumption) rfl, pd_pl _⟩)))
    refine wo rfl (Ev.bins rfl rfl rfl (by repeat' (first | exact trivial | exact rfl | assumption | apply And.intro)) (eqPool hw)) rfl ?_
    repeat (first | refine wb ?_ | ((refine wl rfl rfl ?_ ?_); try (first | ((repeat' apply And.intro) <;> first | exact trivial | exact rfl | omega | (simp; done) | (simp; omega)))))
    exact wD (wE rfl rfl rfl)
  obtain ⟨i, hi, hbe, hsd, hall, hhas, hids, hfree⟩ := time_told hs h0
  obtain ⟨d, hd⟩ : ∃ d, d = (beginP p).1 := ⟨_, rfl⟩
  rw [← hd] at hbe hsd hall hhas hids
  rw [hbe]
  have hwd := hsd.pw
  have hno2 : noOwns [pd d, .v (.int .i64 i), .v (.int .i64 0)] = true := noOwns_pbb _ _ _
  have hpd1 : ((pd d).get []).pl = true := pd_pl d
  repeat (first | ((refine wl rfl rfl ?_ ?_); try (first | ((repeat' apply And.intro) <;> first | exact trivial | exact rfl | omega | (simp; done) | (simp; omega)) | exact pd_pl _)))
  first | refine OpsAt.sayB (d := 9) rfl (y := pd zeroP) (rfl) ?_ | refine Run.sayB (d := 9) rfl (y := pd zeroP) (rfl) ?_
  refine wv rfl rfl (pd_pl _) (pd_sto hwd hz rfl) rfl ?_
  first | refine OpsAt.sayB (d := 9) rfl (y := pd d) (rfl) ?_ | refine Run.sayB (d := 9) rfl (y := pd d) (rfl) ?_
  repeat (first | refine wa ?_ | refine wb ?_ | refine wc ?_ | refine wf ?_ | ((first | refine wl rfl rfl ?_ ?_ | refine wn (wp rfl rfl rfl rfl rfl ?_) rfl ?_ | refine wu rfl ?_ ?_); try (first | ((repeat' apply And.intro) <;> first | exact trivial | exact rfl | omega | (simp; done) | (simp; omega)) | exact pd_fa (by assumption) rfl (by decide))))
  first | refine OpsAt.say (d := 71) rfl (y := S p.dn) (rfl) ?_ | refine Run.say (d := 71) rfl (y := S p.dn) (rfl) ?_ | refine OpsR.say (q := 71) rfl (y := S p.dn) (rfl) ?_ | refine OpsB.say (d := 71) rfl (y := S p.dn) (rfl) ?_
  refine wn (wA rfl rfl rfl (by repeat' (first | exact trivial | exact rfl | assumption | apply And.intro)) (callable (by decide)) (c_Items p.dn hs.dm)) rfl ?_
  repeat (first | refine wb ?_ | refine wd ?_ | ((first | refine wl rfl rfl ?_ ?_ | refine wn (wq agree rfl rfl rfl ?_) rfl ?_); try (first | exact trivial | ((repeat' apply And.intro) <;> first | exact trivial | exact rfl | omega | (simp; done) | (simp; omega)))))
  refine Run.keep [4, 5, 9, 10, 72, 73, 74] rfl ?_
  refine Run.at (l' := [(4, .d (.v (.bool false))), (5, .box (pd p)), (9, .box (pd d)), (10, .d (.v (.int .i64 i))), (72, .d (.lst .any 1 (ints (itemsN p.dn)))), (73, .d (.v (.int .i64 (itemsL p.dn).length))), (74, .d (.v (.int .i64 (0 : Nat))))]) (by rw [← k_iff (p.dn)]; rfl) ?_
  refine Run.loopL (α := List Nat × List Nat) (fun y => itemsL p.dn = y.1 ++ y.2) (fun y => [(4, .d (.v (.bool false))), (5, .box (pd p)), (9, .box (pd d)), (10, .d (.v (.int .i64 i))), (72, .d (.lst .any 1 (ints (itemsN p.dn)))), (73, .d (.v (.int .i64 (itemsL p.dn).length))), (74, .d (.v (.int .i64 y.1.length)))]) (fun y => y.2.length) ([], itemsL p.dn) rfl ?_
  rintro ⟨pr1, po1⟩ hp1 ih1
  simp only at hp1
  have hl1 : (itemsL p.dn).length = pr1.length + po1.length := by rw [hp1]; simp
  have hl164 := itemsL_le (p.dn)
  repeat (first | refine wa ?_ | refine wb ?_ | refine wc ?_ | ((refine wn (wp rfl rfl rfl rfl rfl ?_) rfl ?_); try (first | ((repeat' apply And.intro) <;> first | exact trivial | exact rfl | omega | (simp; done) | (simp; omega)))))
  refine Run.condB rfl rfl (fun hb1 => ?_) (fun hb1 => ?_)
  · cases po1 with
    | nil => simp at hl1 hb1; omega
    | cons x po1 =>
      have hgd := at_items hp1
      have hlx2 := k_iff p.dn
      have hxm : x ∈ itemsL p.dn := by rw [hp1]; simp
      simp only [List.length_cons] at hl1
      repeat (first | refine wa ?_ | refine wc ?_ | refine wd ?_ | refine wf ?_ | ((refine wl rfl rfl ?_ ?_); try (first | (rw [hgd] <;> rfl) | ((repeat' apply And.intro) <;> first | exact trivial | exact rfl | omega | (simp; done) | (simp; omega)))))
      first | refine OpsAt.say (d := 77) rfl (y := .v (.int .i64 x)) (hgd) ?_ | refine Run.say (d := 77) rfl (y := .v (.int .i64 x)) (hgd) ?_ | refine OpsR.say (q := 77) rfl (y := .v (.int .i64 x)) (hgd) ?_ | refine OpsB.say (d := 77) rfl (y := .v (.int .i64 x)) (hgd) ?_
      repeat (first | refine wa ?_ | refine wb ?_ | ((refine wl rfl rfl ?_ ?_); try (first | ((repeat' apply And.intro) <;> first | exact trivial | exact rfl | omega | (simp; done) | (simp; omega)))))
      obtain ⟨hx32, hxe, hxo⟩ := hall x hxm
      refine Run.ops1 (ld := []) rfl ?_
      repeat (first | ((refine wl rfl rfl ?_ ?_); try (first | ((repeat' apply And.intro) <;> first | exact trivial | exact rfl | omega | (simp; done) | (simp; omega)) | exact pd_ld1 (by assumption) rfl)))
      first | refine OpsAt.say (d := 79) rfl (y := gr d.g) (rfl) ?_ | refine Run.say (d := 79) rfl (y := gr d.g) (rfl) ?_ | refine OpsR.say (q := 79) rfl (y := gr d.g) (rfl) ?_ | refine OpsB.say (d := 79) rfl (y := gr d.g) (rfl) ?_
      have hpg : (gr d.g).pl = true := gr_pl _
      refine wn (wA rfl rfl rfl (by repeat' (first | exact trivial | exact rfl | assumption | apply And.intro)) (callable (by decide)) (c_mHas d.g x i hwd.g)) rfl ?_
      first | refine OpsAt.say (d := 82) rfl (y := .v (.bool true)) (by rw [hxe]) ?_ | refine Run.say (d := 82) rfl (y := .v (.bool true)) (by rw [hxe]) ?_ | refine OpsR.say (q := 82) rfl (y := .v (.bool true)) (by rw [hxe]) ?_ | refine OpsB.say (d := 82) rfl (y := .v (.bool true)) (by rw [hxe]) ?_
      have hgo1 := o_at hwd hx32
      have hgo2 := o_at hwd hi
      repeat (first | ((first | refine wl rfl rfl ?_ ?_ | refine wm rfl rfl rfl ?_ ?_); try (first | ((repeat' apply And.intro) <;> first | exact trivial | exact rfl | omega | (simp; done) | (simp; omega)) | exact pd_fa (by assumption) rfl (by decide))))
      · exact ⟨rfl, rfl, by rw [ints_len]; exact hwd.o, by omega, by omega⟩
      refine wo rfl (Ev.ldBox rfl (adrOf_sound rfl) (ld_ok (T := 3) hgo1 rfl).1 (ld_ok (T := 3) hgo1 rfl).2) rfl ?_
      first | refine OpsAt.say (d := 88) rfl (y := .v (.int .i64 (d.o.getD x 0))) (hgo1) ?_ | refine Run.say (d := 88) rfl (y := .v (.int .i64 (d.o.getD x 0))) (hgo1) ?_ | refine OpsR.say (q := 88) rfl (y := .v (.int .i64 (d.o.getD x 0))) (hgo1) ?_ | refine OpsB.say (d := 88) rfl (y := .v (.int .i64 (d.o.getD x 0))) (hgo1) ?_
      repeat (first | ((refine wm rfl rfl rfl ?_ ?_); try (first | ((repeat' apply And.intro) <;> first | exact trivial | exact rfl | omega | (simp; done) | (simp; omega)) | exact pd_fa (by assumption) rfl (by decide))))
      · exact ⟨rfl, rfl, by rw [ints_len]; exact hwd.o, by omega, by omega⟩
      refine wo rfl (Ev.ldBox rfl (adrOf_sound rfl) (ld_ok (T := 3) hgo2 rfl).1 (ld_ok (T := 3) hgo2 rfl).2) rfl ?_
      first | refine OpsAt.say (d := 92) rfl (y := .v (.int .i64 (d.o.getD i 0))) (hgo2) ?_ | refine Run.say (d := 92) rfl (y := .v (.int .i64 (d.o.getD i 0))) (hgo2) ?_ | refine OpsR.say (q := 92) rfl (y := .v (.int .i64 (d.o.getD i 0))) (hgo2) ?_ | refine OpsB.say (d := 92) rfl (y := .v (.int .i64 (d.o.getD i 0))) (hgo2) ?_
      repeat (first | refine wb ?_ | ((first | refine wl rfl rfl ?_ ?_ | refine wo rfl (wp rfl rfl rfl rfl rfl ?_) rfl ?_); try (first | ((repeat' apply And.intro) <;> first | exact trivial | exact rfl | omega | (simp; done) | (simp; omega)))))
      first | refine OpsAt.say (d := 94) rfl (y := .v (.bool false)) (by show D.v (.bool (decide (d.o.getD x 0 ≥ d.o.getD i 0))) = _; rw [decide_eq_false (by omega)]) ?_ | refine Run.say (d := 94) rfl (y := .v (.bool false)) (by show D.v (.bool (decide (d.o.getD x 0 ≥ d.o.getD i 0))) = _; rw [decide_eq_false (by omega)]) ?_ | refine OpsR.say (q := 94) rfl (y := .v (.bool false)) (by show D.v (.bool (decide (d.o.getD x 0 ≥ d.o.getD i 0))) = _; rw [decide_eq_false (by omega)]) ?_ | refine OpsB.say (d := 94) rfl (y := .v (.bool false)) (by show D.v (.bool (decide (d.o.getD x 0 ≥ d.o.getD i 0))) = _; rw [decide_eq_false (by omega)]) ?_
      repeat (first | refine wb ?_ | refine wc ?_ | refine we ?_ | refine wf ?_ | ((first | refine wl rfl rfl ?_ ?_ | refine wn (wp rfl rfl rfl rfl rfl ?_) rfl ?_ | refine wu rfl ?_ ?_); try (first | ((repeat' apply And.intro) <;> first | exact trivial | exact rfl | omega | (simp; done) | (simp; omega)))))
      first | refine OpsAt.say (d := 74) rfl (y := .v (.int .i64 ((pr1 ++ [x]).length : Nat))) (by rw [wrap64_in ((pr1.length : Int) + 1) (by omega)]; simp) ?_ | refine Run.say (d := 74) rfl (y := .v (.int .i64 ((pr1 ++ [x]).length : Nat))) (by rw [wrap64_in ((pr1.length : Int) + 1) (by omega)]; simp) ?_ | refine OpsR.say (q := 74) rfl (y := .v (.int .i64 ((pr1 ++ [x]).length : Nat))) (by rw [wrap64_in ((pr1.length : Int) + 1) (by omega)]; simp) ?_ | refine OpsB.say (d := 74) rfl (y := .v (.int .i64 ((pr1 ++ [x]).length : Nat))) (by rw [wrap64_in ((pr1.length : Int) + 1) (by omega)]; simp) ?_
      refine Run.keep [4, 5, 9, 10, 72, 73, 74] rfl ?_
      exact ih1 (pr1 ++ [x], po1) (by simp [hp1]) (by simp)
  refine Run.keep [4, 5, 9, 10] rfl ?_
  repeat (first | refine wj rfl ?_)
  refine wa ?_
  refine Run.ops1 (ld := []) rfl ?_
  repeat (first | ((refine wl rfl rfl ?_ ?_); try (first | ((repeat' apply And.intro) <;> first | exact trivial | exact rfl | omega | (simp; done) | (simp; omega)) | exact pd_fa (by assumption) rfl (by decide))))
  first | refine OpsAt.say (d := 97) rfl (y := S d.lv) (rfl) ?_ | refine Run.say (d := 97) rfl (y := S d.lv) (rfl) ?_ | refine OpsR.say (q := 97) rfl (y := S d.lv) (rfl) ?_ | refine OpsB.say (d := 97) rfl (y := S d.lv) (rfl) ?_
  skip
  refine wn (wA rfl rfl rfl (by repeat' (first | exact trivial | exact rfl | assumption | apply And.intro)) (callable (by decide)) (c_Has d.lv i hwd.lm)) rfl ?_
  first | refine OpsAt.say (d := 99) rfl (y := .v (.bool true)) (by rw [hhas]) ?_ | refine Run.say (d := 99) rfl (y := .v (.bool true)) (by rw [hhas]) ?_ | refine OpsR.say (q := 99) rfl (y := .v (.bool true)) (by rw [hhas]) ?_ | refine OpsB.say (d := 99) rfl (y := .v (.bool true)) (by rw [hhas]) ?_
  have hgi := ids_at hwd hi
  repeat (first | ((first | refine wl rfl rfl ?_ ?_ | refine wm rfl rfl rfl ?_ ?_); try (first | ((repeat' apply And.intro) <;> first | exact trivial | exact rfl | omega | (simp; done) | (simp; omega)) | exact pd_fa (by assumption) rfl (by decide))))
  · exact ⟨rfl, rfl, by rw [ints_len]; exact hwd.ids, by omega, by omega⟩
  refine wo rfl (Ev.ldBox rfl (adrOf_sound rfl) (ld_ok (T := 3) hgi rfl).1 (ld_ok (T := 3) hgi rfl).2) rfl ?_
  first | refine OpsAt.say (d := 104) rfl (y := .v (.int .i64 (p.ct + 1))) (hgi.trans (by rw [hids])) ?_ | refine Run.say (d := 104) rfl (y := .v (.int .i64 (p.ct + 1))) (hgi.trans (by rw [hids])) ?_ | refine OpsR.say (q := 104) rfl (y := .v (.int .i64 (p.ct + 1))) (hgi.trans (by rw [hids])) ?_ | refine OpsB.say (d := 104) rfl (y := .v (.int .i64 (p.ct + 1))) (hgi.trans (by rw [hids])) ?_
  repeat (first | ((first | refine wl rfl rfl ?_ ?_ | refine wm rfl rfl rfl ?_ ?_ | refine wo rfl (wp rfl rfl rfl rfl rfl ?_) rfl ?_); try (first | ((repeat' apply And.intro) <;> first | exact trivial | exact rfl | omega | (simp; done) | (simp; omega)) | exact pd_fa (by assumption) rfl (by decide))))
  first | refine OpsAt.say (d := 110) rfl (y := .v (.bool true)) (by rw [wrap64_in (p.ct + 1) (by have := hs.c0; omega)]; simp) ?_ | refine Run.say (d := 110) rfl (y := .v (.bool true)) (by rw [wrap64_in (p.ct + 1) (by have := hs.c0; omega)]; simp) ?_ | refine OpsR.say (q := 110) rfl (y := .v (.bool true)) (by rw [wrap64_in (p.ct + 1) (by have := hs.c0; omega)]; simp) ?_ | refine OpsB.say (d := 110) rfl (y := .v (.bool true)) (by rw [wrap64_in (p.ct + 1) (by have := hs.c0; omega)]; simp) ?_
  repeat (first | ((first | refine wm rfl rfl rfl ?_ ?_ | refine wo rfl (wp rfl rfl rfl rfl rfl ?_) rfl ?_); try (first | ((repeat' apply And.intro) <;> first | exact trivial | exact rfl | omega | (simp; done) | (simp; omega)) | exact pd_fa (by assumption) rfl (by decide))))
  first | refine OpsAt.say (d := 115) rfl (y := S (takenP p)) (congrArg (fun z => D.v (.int .u64 z)) (or64 hs.lm hs.dm)) ?_ | refine Run.say (d := 115) rfl (y := S (takenP p)) (congrArg (fun z => D.v (.int .u64 z)) (or64 hs.lm hs.dm)) ?_ | refine OpsR.say (q := 115) rfl (y := S (takenP p)) (congrArg (fun z => D.v (.int .u64 z)) (or64 hs.lm hs.dm)) ?_ | refine OpsB.say (d := 115) rfl (y := S (takenP p)) (congrArg (fun z => D.v (.int .u64 z)) (or64 hs.lm hs.dm)) ?_
  skip
  refine wo rfl (wA rfl rfl rfl (by repeat' (first | exact trivial | exact rfl | assumption | apply And.intro)) (callable (by decide)) (c_Has (takenP p) i hs.tm)) rfl ?_
  first | refine OpsAt.say (d := 117) rfl (y := .v (.bool false)) (by rw [hfree]) ?_ | refine Run.say (d := 117) rfl (y := .v (.bool false)) (by rw [hfree]) ?_ | refine OpsR.say (q := 117) rfl (y := .v (.bool false)) (by rw [hfree]) ?_ | refine OpsB.say (d := 117) rfl (y := .v (.bool false)) (by rw [hfree]) ?_
  repeat (first | refine wb ?_ | ((first | refine wl rfl rfl ?_ ?_ | refine wm rfl rfl rfl ?_ ?_); try (first | ((repeat' apply And.intro) <;> first | exact trivial | exact rfl | omega | (simp; done) | (simp; omega)))))
  exact wD (wE rfl rfl rfl)
end Go.Proofs.YtaflihoopnjcgaaDoor

namespace Go.Proofs.YtaflihoopnjcgaaDoor.rowPoolTime
open Go Go.Dat
open Go.ChangeShapes Go.WideShapes Go.ChangeAt Go.RowKit

theorem same : Rows.poolTimeRow.laid = one := rfl
theorem own : ownKnob Tryd.prog.godebug = none := by kernel_rfl
theorem laidOut : laidOutB Tryd.prog = true := by kernel_rfl

set_option maxRecDepth 100000 in
theorem lifted (os : Os) (started : os.Started) (H : Type) (enc : TypeId × Value → H) :
    ReturnsInHanded {} Tryd.checked os 8 .any (fun w args => (Rows.poolTimeSpec.pre enc Tryd.prog Tryd.f8 [] false w args ∧ laidMetH Tryd.prog one w) ∧ sizedMet enc Tryd.prog Tryd.f8 (OpenSpec.ofChange Rows.poolTimeSpec) false w args)
      (Rows.poolTimeSpec.post enc Tryd.prog Tryd.f8 false true false false) := by
  refine returnsInHanded_of_change_and (C := Tryd.checked) (X := fun w _ => laidMetH Tryd.prog one w) (fun _ _ _ hh h => h.of_heap hh) own started (by kernel_rfl) Tryd.func8
    (ChangeSpec.witness_shaped (enc := enc) (C := Tryd.checked) (os := os) (X := fun w _ => laidMetH Tryd.prog one w) false (World.laidAll Tryd.prog os one) #[.int .u8 0, .slice none 0 0] 8 (World.laidAll_os _ _ _) (World.shaped_of_ZipB (by kernel_rfl) (by kernel_rfl)) (by kernel_rfl) (by kernel_rfl) (by kernel_rfl) (one_met os _)) ?_
  intro W base args ds gs before hval0 hW _ _ hL _
  obtain ⟨tdom, tab⟩ := one_gives hL
  have hval : ∀ (j : Nat) t v, Tryd.f8.params[j]? = some t → args[j]? = some v → Value.okWide Tryd.prog W .any base t v := hval0
  have hW' := hW
  obtain ⟨p, q, hA0, hV, rfl, hfz, hnd⟩ := hW
  have hA : DataW.TrodAll enc Tryd.prog W 0 (fun _ => true) true Tryd.f8.params.toList args.toList ds p := hA0
  rw [Tryd.params8] at hA hval
  obtain ⟨v0, vs0, d0, ds0, p0, q0, hargs, rfl, rfl, h0, r0⟩ := trodAll_cons hA
  obtain ⟨v1, vs1, d1, ds1, p1, q1, rfl, rfl, rfl, h1, r1⟩ := trodAll_cons r0
  obtain ⟨rfl, rfl, rfl⟩ := trodAll_nil r1
  obtain rfl : args = #[v0, v1] := by cases args; simp_all
  obtain ⟨rfl, rfl⟩ := trodVars_none hV
  have lt0 : ∀ x ∈ p0, x.block < W.heap.size := by obtain ⟨m, hm⟩ := h0; exact DataW.trod_lt m _ _ _ hm
  obtain ⟨a0, e0⟩ := pU8.argI (fun _ => rfl) Tryd.underlying5 (hval 0 5 v0 rfl rfl) h0
  have lt1 : ∀ x ∈ p1, x.block < W.heap.size := by obtain ⟨m, hm⟩ := h1; exact DataW.trod_lt m _ _ _ hm
  obtain ⟨a1, e1⟩ := pActs.argSl (fun _ => rfl) Tryd.underlying22 (hval 1 22 v1 rfl rfl) h1
  have hrpv : Rpv (fun b => b < W.heap.size) W [.v (.int .u8 a0.1), .lst .any 3 (ads a1.1)] [v0, v1] := (Rpv.ofCons e0 (Rpv.ofCons e1 Rpv.ofNil))
  clear hA0 hval0
  refine ((c_PoolTime a0.1 a1.1 (okU8 a0.2) a1.2).walk ⟨tdom, tab⟩ hrpv).mono fun e W' ⟨he, bel⟩ => ?_
  subst he
  exact ⟨_, rfl, _, _, _, [], _, [], hW', trodAll_mk1 (shut_bool Tryd.underlying4 _), (trodAll_cons_mk (Below.trod laidOut (by kernel_rfl) (of_decide_eq_true (by kernel_rfl)) h0 bel lt0) (trodAll_cons_mk (Below.trod laidOut (by kernel_rfl) (of_decide_eq_true (by kernel_rfl)) h1 bel lt1) trodAll_mk0)), rfl, bel.frame _, fun h => by cases h⟩

theorem over : Rows.poolTimeRow.holds Tryd.pinned (OpenSpec.ofChange Rows.poolTimeSpec) :=
  OpenClaim.holds_of_wide 8 Tryd.f8 rfl rfl rfl rfl rfl rfl rfl ⟨rfl, rfl, rfl, rfl, rfl⟩ rfl rfl rfl rfl rfl (by kernel_rfl) Tryd.func8 (by kernel_rfl)
    (of_decide_eq_true (by kernel_rfl)) (by unfold Func.isWrapper; first | (rw [if_pos (by decide +kernel)]; kernel_rfl) | (rw [if_neg (by decide +kernel)]; exact ⟨rfl, rfl⟩))
    (fun os started H enc _ => lifted os started H enc)

theorem proved : Rows.PoolTimeSaid := over
end Go.Proofs.YtaflihoopnjcgaaDoor.rowPoolTime

namespace Go.Proofs.YtaflihoopnjcgaaDoor.cardPoolTime
open Go

theorem proved : Rows.PoolTimeCardSaid :=
  Claim7.holds_tied_plain_at .later [] [.data] true (true, "35591b53fd09d4d5934b113e4c7e45025bbae91d012d3ef1f358135f0f8ec358") false
    rowPoolTime.proved (fun _ h => by cases h) (by kernel_rfl) (fun _ h => by cases h) poolTime_row_tie rfl ⟨rfl, rfl⟩ (by kernel_rfl) rfl
    (fun f fn hf hfn => by
      obtain rfl : f = 8 := Option.some.inj ((show Tryd.prog.funcNamed "warpbeam/warpbeamlaw05.PoolTime" = some 8 by kernel_rfl).symm.trans hf) |>.symm
      obtain rfl : fn = Tryd.f8 := (Option.some.inj (Tryd.func8.symm.trans hfn)).symm
      exact ⟨by kernel_rfl, fun j t ht => by
        rw [Tryd.params8] at ht
        have hm : t ∈ [5, 22] := by simpa using Array.mem_of_getElem? ht
        have hall : ([5, 22].all fun u => !Tryd.prog.wantsStandIn u) = true := by kernel_rfl
        exact (show Tryd.prog.wantsStandIn t = false by simpa using List.all_eq_true.1 hall t hm)⟩)
    (by kernel_rfl)
end Go.Proofs.YtaflihoopnjcgaaDoor.cardPoolTime
