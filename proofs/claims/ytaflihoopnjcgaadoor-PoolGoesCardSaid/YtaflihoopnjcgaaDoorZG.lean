/- Texts W20, W26, RGoes, CGoes in one file. No conditions. -/
import Derived.Test.YtaflihoopnjcgaaDoorWC
import Derived.Test.YtaflihoopnjcgaaDoorTC
import Derived.Test.YtaflihoopnjcgaaDoorKC
import Derived.Test.YtaflihoopnjcgaaDoorRows
import Derived.WalkKit
import Derived.ProofKit
import Derived.OpenShut
import Derived.ChangeOld
import Derived.Test.YtaflihoopnjcgaaDoorTie
import Derived.Test.YtaflihoopnjcgaaDoorCards
import Derived.SevenTiedAt

namespace Go.Proofs.YtaflihoopnjcgaaDoor
open Go Go.Dat

theorem c_Back1 (g : List Nat) (i : Int) (hg : gok g) : DFun Tryd.prog 49 [.v (.int .i64 i), .pt (gr g)] (S (insN g i)) := by
  refine DFun.ofRun agree mixed Tryd.func49 rfl rfl ?_
  repeat (first | refine wa ?_ | refine wb ?_ | refine wc ?_ | ((refine wl rfl rfl ?_ ?_); try (first | exact trivial)))
  · exact gr_fits hg.1 rfl
  repeat (first | ((refine wl rfl rfl ?_ ?_); try (first | ((repeat' apply And.intro) <;> first | exact trivial | exact rfl | omega | (simp; done) | (simp; omega)))))
  have hpl : (gr g).pl = true := gr_pl g
  refine wn (wA rfl rfl rfl (by repeat' (first | exact trivial | exact rfl | assumption | apply And.intro)) (callable (by decide)) (c_Ins g i hg)) rfl ?_
  repeat (first | refine wb ?_ | ((refine wl rfl rfl ?_ ?_); try (first | ((repeat' apply And.intro) <;> first | exact trivial | exact rfl | omega | (simp; done) | (simp; omega)))))
  exact wD (wE rfl rfl rfl)
theorem c_mBack (g : List Nat) (a : Nat) (ha : a < 32) (hg : gok g) : DFun Tryd.prog 21 [gr g, .v (.int .i64 a)] (S (backN g a)) := by
  refine DFun.ofRun agree mixed Tryd.func21 rfl rfl ?_
  repeat (first | refine wa ?_ | refine wb ?_ | refine wc ?_ | ((first | refine wl rfl rfl ?_ ?_ | refine xa agree rfl rfl ?_ ?_); try (first | exact trivial | ((repeat' apply And.intro) <;> first | exact trivial | exact rfl | omega | (simp; done) | (simp; omega)) | exact gr_pl _)))
  refine wn (xc rfl rfl rfl rfl (by repeat' (first | exact trivial | exact rfl | assumption | apply And.intro)) (callable (by decide)) (c_spread 49 [.pt (gr g).lend] (fun i => insN g (i : Int)) a ha (fun i => ins32 g i) (callable (by decide)) (fun i _ => by rw [gr_lend]; exact c_Back1 g i hg))) rfl ?_
  repeat (first | refine wb ?_ | ((refine wl rfl rfl ?_ ?_); try (first | ((repeat' apply And.intro) <;> first | exact trivial | exact rfl | omega | (simp; done) | (simp; omega)))))
  exact wD (wE rfl rfl rfl)
theorem k_iff (s : Nat) : ((ints (itemsN s)).length : Int) = (itemsL s).length := by rw [ints_len, itemsN_eq]; simp [natI]
theorem at_items {s : Nat} {pre post : List Nat} {x : Nat} (h : itemsL s = pre ++ x :: post) : (ints (itemsN s)).getD ((pre.length : Int)).toNat un = .v (.int .i64 x) := by rw [itemsN_eq, h]; simp [ints, natI]

theorem room_and {a b : Nat} (ha : a < M64) (hb : b < M64) (h : a &&& b = 0) : D.v (.bool ((IntKind.u64.wrap (BitVec.ofInt IntKind.u64.bits (a : Int) &&& BitVec.ofInt IntKind.u64.bits (b : Int)).toNat) != 0)) = .v (.bool false) := by
  rw [and64 ha hb, h]
  rfl

set_option maxHeartbeats 8000000 in
theorem c_PoolRoom (k : Int) (l : List (Int × Int × Int)) (hk : 0 ≤ k ∧ k ≤ 255) (hl : ∀ x ∈ l, 0 ≤ x.1 ∧ x.1 ≤ 255) :
    DFun Tryd.prog 6 [.v (.int .u8 k), .lst .any 3 (ads l)] (.v (.bool true)) := by
  refine DFun.ofRun agree mixed Tryd.func6 rfl rfl ?_
  have hz := pw0
  repeat (first | refine wa ?_ | refine wb ?_ | refine wc ?_ | ((refine wl rfl rfl ?_ ?_); try (first | exact trivial)))
  refine wn (wA rfl rfl rfl (by repeat' (first | exact trivial | exact rfl | assumption | apply And.intro)) (callable (by decide)) (c_alive5)) rfl ?_
  repeat (first | refine wa ?_ | refine wb ?_ | refine wc ?_ | refine wf ?_ | ((first | refine wl rfl rfl ?_ ?_ | refine wn (wp rfl rfl rfl rfl rfl ?_) rfl ?_ | refine wn (wq agree rfl rfl rfl ?_) rfl ?_ | refine wu rfl ?_ ?_); try (first | ((repeat' apply And.intro) <;> first | exact trivial | exact rfl | omega | (simp; done) | (simp; omega)))))
  refine Run.condB rfl rfl (fun h1 => ?_) (fun h1 => ?_)
  · repeat (first | refine wa ?_ | refine wb ?_ | refine wc ?_ | ((refine wl rfl rfl ?_ ?_); try (first | exact trivial)))
    exact wD (wE rfl rfl rfl)
  have hes : l.length ≤ 120 := by have := of_decide_eq_false h1; rw [ads_len] at this; omega
  repeat (first | refine wa ?_ | refine wc ?_ | refine wf ?_ | ((refine wl rfl rfl ?_ ?_); try (first | ((repeat' apply And.intro) <;> first | exact trivial | exact rfl | omega | (simp; done) | (simp; omega)))))
  refine wn (Ev.conv rfl rfl Tryd.underlying5 Tryd.underlying3 rfl) rfl ?_
  repeat (first | ((refine wn (wp rfl rfl rfl rfl rfl ?_) rfl ?_); try (first | ((repeat' apply And.intro) <;> first | exact trivial | exact rfl | omega | (simp; done) | (simp; omega)))))
  first | refine OpsAt.say (d := 26) rfl (y := .v (.int .i64 (nOf k))) (congrArg (fun z => D.v (.int .i64 z)) (nOf_is hk)) ?_ | refine Run.say (d := 26) rfl (y := .v (.int .i64 (nOf k))) (congrArg (fun z => D.v (.int .i64 z)) (nOf_is hk)) ?_ | refine OpsR.say (q := 26) rfl (y := .v (.int .i64 (nOf k))) (congrArg (fun z => D.v (.int .i64 z)) (nOf_is hk)) ?_ | refine OpsB.say (d := 26) rfl (y := .v (.int .i64 (nOf k))) (congrArg (fun z => D.v (.int .i64 z)) (nOf_is hk)) ?_
  refine wn (wA rfl rfl rfl (by repeat' (first | exact trivial | exact rfl | assumption | apply And.intro)) (callable (by decide)) (k_new)) rfl ?_
  repeat (first | ((refine wl rfl rfl ?_ ?_); try (first | ((repeat' apply And.intro) <;> first | exact trivial | exact rfl | omega | (simp; done) | (simp; omega)))))
  have w0 : PW (newP (nOf k)) := (newS (nOf1 k) (nOf2 k)).pw
  first | refine OpsAt.sayB (d := 5) rfl (y := pd zeroP) (rfl) ?_ | refine Run.sayB (d := 5) rfl (y := pd zeroP) (rfl) ?_
  refine wv rfl rfl (pd_pl _) (pd_sto w0 hz rfl) rfl ?_
  first | refine OpsAt.sayB (d := 5) rfl (y := pd (newP (nOf k))) (rfl) ?_ | refine Run.sayB (d := 5) rfl (y := pd (newP (nOf k))) (rfl) ?_
  repeat (first | refine wa ?_ | refine wb ?_ | refine wc ?_ | refine wd ?_ | refine wf ?_ | ((first | refine wl rfl rfl ?_ ?_ | refine wn (wq agree rfl rfl rfl ?_) rfl ?_ | refine wu rfl ?_ ?_); try (first | exact trivial | ((repeat' apply And.intro) <;> first | exact trivial | exact rfl | omega | (simp; done) | (simp; omega)))))
  have hlx : ((ads l).length : Int) = l.length := by rw [ads_len]
  refine Run.keep [4, 5, 32, 33, 34] rfl ?_
  refine Run.at (l' := [(4, .d (.v (.bool false))), (5, .box (pd (actsP (nOf k) []))), (32, .d (.lst .any 3 (ads l))), (33, .d (.v (.int .i64 l.length))), (34, .d (.v (.int .i64 (0 : Nat))))]) (by rw [← hlx]; rfl) ?_
  refine Run.loopL (α := List (Int × Int × Int) × List (Int × Int × Int)) (fun q => l = q.1 ++ q.2) (fun q => [(4, .d (.v (.bool false))), (5, .box (pd (actsP (nOf k) q.1))), (32, .d (.lst .any 3 (ads l))), (33, .d (.v (.int .i64 l.length))), (34, .d (.v (.int .i64 q.1.length)))]) (fun q => q.2.length) ([], l) rfl ?_
  rintro ⟨pre, post⟩ hpp ih
  simp only at hpp
  have hlen : l.length = pre.length + post.length := by rw [hpp]; simp
  have hap := acts_ok (nOf1 k) (nOf2 k) pre
  have hsn := acts_snoc (nOf k) pre
  obtain ⟨p, hp0⟩ : ∃ p, p = actsP (nOf k) pre := ⟨_, rfl⟩
  rw [← hp0] at hap hsn
  refine Run.at (l' := [(4, .d (.v (.bool false))), (5, .box (pd p)), (32, .d (.lst .any 3 (ads l))), (33, .d (.v (.int .i64 l.length))), (34, .d (.v (.int .i64 pre.length)))]) (by rw [hp0]) ?_
  have hct : p.ct ≤ 1000 := by have := hap.ct; omega
  have hw := hap.sp.pw
  have hpp1 : ((pd p).get []).pl = true := pd_pl p
  repeat (first | refine wa ?_ | refine wb ?_ | refine wc ?_ | ((refine wn (wp rfl rfl rfl rfl rfl ?_) rfl ?_); try (first | ((repeat' apply And.intro) <;> first | exact trivial | exact rfl | omega | (simp; done) | (simp; omega)))))
  refine Run.condB rfl rfl (fun hb => ?_) (fun hb => ?_)
  · cases post with
    | nil => simp at hlen hb; omega
    | cons x post =>
      have hgd : (ads l).getD ((pre.length : Int)).toNat un = ad x := by rw [hpp]; exact ads_pre pre post x
      have hkx := hl x (by rw [hpp]; simp)
      repeat (first | refine wa ?_ | refine wc ?_ | refine wd ?_ | refine wf ?_ | ((refine wl rfl rfl ?_ ?_)))
      · exact ⟨rfl, rfl, by omega, by rw [ads_len, hpp]; simp⟩
      first | refine OpsAt.say (d := 36) rfl (y := .pt (ad x)) (congrArg D.pt hgd) ?_ | refine Run.say (d := 36) rfl (y := .pt (ad x)) (congrArg D.pt hgd) ?_ | refine OpsR.say (q := 36) rfl (y := .pt (ad x)) (congrArg D.pt hgd) ?_ | refine OpsB.say (d := 36) rfl (y := .pt (ad x)) (congrArg D.pt hgd) ?_
      repeat (first | ((refine wl rfl rfl ?_ ?_); try (first | ((repeat' apply And.intro) <;> first | exact trivial | exact rfl | omega | (simp; done) | (simp; omega)))))
      refine wv rfl rfl rfl rfl rfl ?_
      first | refine OpsAt.sayB (d := 8) rfl (y := ad x) (rfl) ?_ | refine Run.sayB (d := 8) rfl (y := ad x) (rfl) ?_
      have hpa : ((ad x).get []).pl = true := rfl
      have hpz : (pd zeroP).pl = true := pd_pl _
      repeat (first | refine wb ?_ | refine wc ?_ | ((refine wl rfl rfl ?_ ?_); try (first | ((repeat' apply And.intro) <;> first | exact trivial | exact rfl | omega | (simp; done) | (simp; omega)) | exact ⟨pd_fits (by assumption) rfl, pd_pl _⟩)))
      first | refine OpsAt.say (d := 40) rfl (y := pd zeroP) (rfl) ?_ | refine Run.say (d := 40) rfl (y := pd zeroP) (rfl) ?_ | refine OpsR.say (q := 40) rfl (y := pd zeroP) (rfl) ?_ | refine OpsB.say (d := 40) rfl (y := pd zeroP) (rfl) ?_
      skip
      refine wn (wA rfl rfl rfl (by repeat' (first | exact trivial | exact rfl | assumption | apply And.intro)) (callable (by decide)) (k_does p x hap.sp hct hkx)) rfl ?_
      have hx := (hap.sp.does x).pw
      have hno := noOwns_ppb (doesP p x) zeroP (.bool (sameP p zeroP x))
      repeat (first | ((refine wl rfl rfl ?_ ?_); try (first | ((repeat' apply And.intro) <;> first | exact trivial | exact rfl | omega | (simp; done) | (simp; omega)) | exact pd_pl _)))
      refine wv rfl rfl (pd_pl _) (pd_sto hx hw rfl) rfl ?_
      first | refine OpsAt.sayB (d := 5) rfl (y := pd (actsP (nOf k) (pre ++ [x]))) (by rw [hsn x]; rfl) ?_ | refine Run.sayB (d := 5) rfl (y := pd (actsP (nOf k) (pre ++ [x]))) (by rw [hsn x]; rfl) ?_
      repeat (first | refine wb ?_ | refine wc ?_ | refine we ?_ | ((first | refine wl rfl rfl ?_ ?_ | refine wn (wp rfl rfl rfl rfl rfl ?_) rfl ?_); try (first | ((repeat' apply And.intro) <;> first | exact trivial | exact rfl | omega | (simp; done) | (simp; omega)))))
      first | refine OpsAt.say (d := 34) rfl (y := .v (.int .i64 ((pre ++ [x]).length : Nat))) (by rw [wrap64_in ((pre.length : Int) + 1) (by omega)]; simp) ?_ | refine Run.say (d := 34) rfl (y := .v (.int .i64 ((pre ++ [x]).length : Nat))) (by rw [wrap64_in ((pre.length : Int) + 1) (by omega)]; simp) ?_ | refine OpsR.say (q := 34) rfl (y := .v (.int .i64 ((pre ++ [x]).length : Nat))) (by rw [wrap64_in ((pre.length : Int) + 1) (by omega)]; simp) ?_ | refine OpsB.say (d := 34) rfl (y := .v (.int .i64 ((pre ++ [x]).length : Nat))) (by rw [wrap64_in ((pre.length : Int) + 1) (by omega)]; simp) ?_
      refine Run.keep [4, 5, 32, 33, 34] rfl ?_
      exact ih (pre ++ [x], post) (by simp [hpp]) (by simp)
  have hs := hap.sp
  refine Run.keep [4, 5] rfl ?_
  repeat (first | refine wj rfl ?_)
  have hq := SP.col 64 p hs
  have hover := fun i => room_over hs (i := i)
  have hback := fun i => room_back hs (i := i)
  refine wa ?_
  refine wc ?_
  repeat (first | ((refine wl rfl rfl ?_ ?_); try (first | exact ⟨pd_fits (by assumption) rfl, pd_pl _⟩)))
  refine wn (wA rfl rfl rfl (by repeat' (first | exact trivial | exact rfl | assumption | apply And.intro)) (callable (by decide)) (c_Collect p hs)) rfl ?_
  obtain ⟨q, ids, hqi⟩ : ∃ q ids, colP 64 p = (q, ids) := ⟨_, _, rfl⟩
  rw [hqi] at hq hover hback ⊢
  have hq : SP q := hq
  have hover : ∀ i, i ∈ itemsL q.dn → insN q.g (i : Int) ≠ 0 := hover
  have hback : ∀ i, i ∈ itemsL (andn p.dn q.dn) → i < 32 ∧ backN p.g i &&& p.lv = 0 := hback
  have hwq := hq.pw
  have hno2 := noOwns_pl q ids
  repeat (first | ((refine wl rfl rfl ?_ ?_); try (first | ((repeat' apply And.intro) <;> first | exact trivial | exact rfl | omega | (simp; done) | (simp; omega)) | exact pd_pl _)))
  first | refine OpsAt.sayB (d := 9) rfl (y := pd zeroP) (rfl) ?_ | refine Run.sayB (d := 9) rfl (y := pd zeroP) (rfl) ?_
  refine wv rfl rfl (pd_pl _) (pd_sto hwq hz rfl) rfl ?_
  first | refine OpsAt.sayB (d := 9) rfl (y := pd q) (rfl) ?_ | refine Run.sayB (d := 9) rfl (y := pd q) (rfl) ?_
  repeat (first | refine wb ?_ | ((refine wl rfl rfl ?_ ?_); try (first | ((repeat' apply And.intro) <;> first | exact trivial | exact rfl | omega | (simp; done) | (simp; omega)))))
  refine Run.keep [4, 5, 9] rfl ?_
  refine wa ?_
  skip
  refine wa ?_
  refine wc ?_
  repeat (first | ((refine wl rfl rfl ?_ ?_); try (first | ((repeat' apply And.intro) <;> first | exact trivial | exact rfl | omega | (simp; done) | (simp; omega)) | exact pd_fa (by assumption) rfl (by decide))))
  first | refine OpsAt.say (d := 53) rfl (y := S q.dn) (rfl) ?_ | refine Run.say (d := 53) rfl (y := S q.dn) (rfl) ?_ | refine OpsR.say (q := 53) rfl (y := S q.dn) (rfl) ?_ | refine OpsB.say (d := 53) rfl (y := S q.dn) (rfl) ?_
  refine wn (wA rfl rfl rfl (by repeat' (first | exact trivial | exact rfl | assumption | apply And.intro)) (callable (by decide)) (c_Items q.dn hq.dm)) rfl ?_
  repeat (first | refine wb ?_ | refine wd ?_ | ((first | refine wl rfl rfl ?_ ?_ | refine wn (wq agree rfl rfl rfl ?_) rfl ?_); try (first | exact trivial | ((repeat' apply And.intro) <;> first | exact trivial | exact rfl | omega | (simp; done) | (simp; omega)))))
  refine Run.keep [4, 5, 9, 54, 55, 56] rfl ?_
  refine Run.at (l' := [(4, .d (.v (.bool false))), (5, .box (pd p)), (9, .box (pd q)), (54, .d (.lst .any 1 (ints (itemsN q.dn)))), (55, .d (.v (.int .i64 (itemsL q.dn).length))), (56, .d (.v (.int .i64 (0 : Nat))))]) (by rw [← k_iff (q.dn)]; rfl) ?_
  refine Run.loopL (α := List Nat × List Nat) (fun y => itemsL q.dn = y.1 ++ y.2) (fun y => [(4, .d (.v (.bool false))), (5, .box (pd p)), (9, .box (pd q)), (54, .d (.lst .any 1 (ints (itemsN q.dn)))), (55, .d (.v (.int .i64 (itemsL q.dn).length))), (56, .d (.v (.int .i64 y.1.length)))]) (fun y => y.2.length) ([], itemsL q.dn) rfl ?_
  rintro ⟨pr1, po1⟩ hp1 ih1
  simp only at hp1
  have hl1 : (itemsL q.dn).length = pr1.length + po1.length := by rw [hp1]; simp
  have hl164 := itemsL_le (q.dn)
  repeat (first | refine wa ?_ | refine wb ?_ | refine wc ?_ | ((refine wn (wp rfl rfl rfl rfl rfl ?_) rfl ?_); try (first | ((repeat' apply And.intro) <;> first | exact trivial | exact rfl | omega | (simp; done) | (simp; omega)))))
  refine Run.condB rfl rfl (fun hb1 => ?_) (fun hb1 => ?_)
  · cases po1 with
    | nil => simp at hl1 hb1; omega
    | cons x po1 =>
      have hgd := at_items hp1
      have hlx2 := k_iff q.dn
      have hxm : x ∈ itemsL q.dn := by rw [hp1]; simp
      simp only [List.length_cons] at hl1
      repeat (first | refine wa ?_ | refine wc ?_ | refine wd ?_ | refine wf ?_ | ((refine wl rfl rfl ?_ ?_); try (first | (rw [hgd] <;> rfl) | ((repeat' apply And.intro) <;> first | exact trivial | exact rfl | omega | (simp; done) | (simp; omega)))))
      first | refine OpsAt.say (d := 59) rfl (y := .v (.int .i64 x)) (hgd) ?_ | refine Run.say (d := 59) rfl (y := .v (.int .i64 x)) (hgd) ?_ | refine OpsR.say (q := 59) rfl (y := .v (.int .i64 x)) (hgd) ?_ | refine OpsB.say (d := 59) rfl (y := .v (.int .i64 x)) (hgd) ?_
      repeat (first | refine wa ?_ | refine wb ?_ | refine wc ?_ | ((refine wl rfl rfl ?_ ?_); try (first | ((repeat' apply And.intro) <;> first | exact trivial | exact rfl | omega | (simp; done) | (simp; omega)) | exact pd_ld1 (by assumption) rfl)))
      first | refine OpsAt.say (d := 61) rfl (y := gr q.g) (rfl) ?_ | refine Run.say (d := 61) rfl (y := gr q.g) (rfl) ?_ | refine OpsR.say (q := 61) rfl (y := gr q.g) (rfl) ?_ | refine OpsB.say (d := 61) rfl (y := gr q.g) (rfl) ?_
      have hpg : (gr q.g).pl = true := gr_pl _
      refine wn (wA rfl rfl rfl (by repeat' (first | exact trivial | exact rfl | assumption | apply And.intro)) (callable (by decide)) (c_Ins q.g x hwq.g)) rfl ?_
      repeat (first | refine wb ?_ | ((refine wn (wp rfl rfl rfl rfl rfl ?_) rfl ?_); try (first | ((repeat' apply And.intro) <;> first | exact trivial | exact rfl | omega | (simp; done) | (simp; omega)))))
      first | refine OpsAt.say (d := 64) rfl (y := .v (.bool false)) (by have := hover x hxm; exact congrArg (fun z => D.v (.bool z)) (by simp only [beq_eq_false_iff_ne, ne_eq]; omega)) ?_ | refine Run.say (d := 64) rfl (y := .v (.bool false)) (by have := hover x hxm; exact congrArg (fun z => D.v (.bool z)) (by simp only [beq_eq_false_iff_ne, ne_eq]; omega)) ?_ | refine OpsR.say (q := 64) rfl (y := .v (.bool false)) (by have := hover x hxm; exact congrArg (fun z => D.v (.bool z)) (by simp only [beq_eq_false_iff_ne, ne_eq]; omega)) ?_ | refine OpsB.say (d := 64) rfl (y := .v (.bool false)) (by have := hover x hxm; exact congrArg (fun z => D.v (.bool z)) (by simp only [beq_eq_false_iff_ne, ne_eq]; omega)) ?_
      repeat (first | refine wb ?_ | refine wc ?_ | refine we ?_ | refine wf ?_ | ((first | refine wl rfl rfl ?_ ?_ | refine wn (wp rfl rfl rfl rfl rfl ?_) rfl ?_ | refine wu rfl ?_ ?_); try (first | ((repeat' apply And.intro) <;> first | exact trivial | exact rfl | omega | (simp; done) | (simp; omega)))))
      first | refine OpsAt.say (d := 56) rfl (y := .v (.int .i64 ((pr1 ++ [x]).length : Nat))) (by rw [wrap64_in ((pr1.length : Int) + 1) (by omega)]; simp) ?_ | refine Run.say (d := 56) rfl (y := .v (.int .i64 ((pr1 ++ [x]).length : Nat))) (by rw [wrap64_in ((pr1.length : Int) + 1) (by omega)]; simp) ?_ | refine OpsR.say (q := 56) rfl (y := .v (.int .i64 ((pr1 ++ [x]).length : Nat))) (by rw [wrap64_in ((pr1.length : Int) + 1) (by omega)]; simp) ?_ | refine OpsB.say (d := 56) rfl (y := .v (.int .i64 ((pr1 ++ [x]).length : Nat))) (by rw [wrap64_in ((pr1.length : Int) + 1) (by omega)]; simp) ?_
      refine Run.keep [4, 5, 9, 54, 55, 56] rfl ?_
      exact ih1 (pr1 ++ [x], po1) (by simp [hp1]) (by simp)
  refine Run.keep [4, 5, 9] rfl ?_
  repeat (first | refine wj rfl ?_)
  refine wa ?_
  skip
  refine wa ?_
  refine wc ?_
  repeat (first | ((first | refine wl rfl rfl ?_ ?_ | refine wn (wp rfl rfl rfl rfl rfl ?_) rfl ?_); try (first | ((repeat' apply And.intro) <;> first | exact trivial | exact rfl | omega | (simp; done) | (simp; omega)) | exact pd_fa (by assumption) rfl (by decide))))
  first | refine OpsAt.say (d := 70) rfl (y := S (andn p.dn q.dn)) (congrArg (fun z => D.v (.int .u64 z)) (andnot_is _ _)) ?_ | refine Run.say (d := 70) rfl (y := S (andn p.dn q.dn)) (congrArg (fun z => D.v (.int .u64 z)) (andnot_is _ _)) ?_ | refine OpsR.say (q := 70) rfl (y := S (andn p.dn q.dn)) (congrArg (fun z => D.v (.int .u64 z)) (andnot_is _ _)) ?_ | refine OpsB.say (d := 70) rfl (y := S (andn p.dn q.dn)) (congrArg (fun z => D.v (.int .u64 z)) (andnot_is _ _)) ?_
  refine wn (wA rfl rfl rfl (by repeat' (first | exact trivial | exact rfl | assumption | apply And.intro)) (callable (by decide)) (c_Items (andn p.dn q.dn) (andn_lt _ _))) rfl ?_
  repeat (first | refine wb ?_ | refine wd ?_ | ((first | refine wl rfl rfl ?_ ?_ | refine wn (wq agree rfl rfl rfl ?_) rfl ?_); try (first | exact trivial | ((repeat' apply And.intro) <;> first | exact trivial | exact rfl | omega | (simp; done) | (simp; omega)))))
  refine Run.keep [4, 5, 9, 71, 72, 73] rfl ?_
  refine Run.at (l' := [(4, .d (.v (.bool false))), (5, .box (pd p)), (9, .box (pd q)), (71, .d (.lst .any 1 (ints (itemsN (andn p.dn q.dn))))), (72, .d (.v (.int .i64 (itemsL (andn p.dn q.dn)).length))), (73, .d (.v (.int .i64 (0 : Nat))))]) (by rw [← k_iff ((andn p.dn q.dn))]; rfl) ?_
  refine Run.loopL (α := List Nat × List Nat) (fun y => itemsL (andn p.dn q.dn) = y.1 ++ y.2) (fun y => [(4, .d (.v (.bool false))), (5, .box (pd p)), (9, .box (pd q)), (71, .d (.lst .any 1 (ints (itemsN (andn p.dn q.dn))))), (72, .d (.v (.int .i64 (itemsL (andn p.dn q.dn)).length))), (73, .d (.v (.int .i64 y.1.length)))]) (fun y => y.2.length) ([], itemsL (andn p.dn q.dn)) rfl ?_
  rintro ⟨pr2, po2⟩ hp2 ih2
  simp only at hp2
  have hl2 : (itemsL (andn p.dn q.dn)).length = pr2.length + po2.length := by rw [hp2]; simp
  have hl264 := itemsL_le ((andn p.dn q.dn))
  repeat (first | refine wa ?_ | refine wb ?_ | refine wc ?_ | ((refine wn (wp rfl rfl rfl rfl rfl ?_) rfl ?_); try (first | ((repeat' apply And.intro) <;> first | exact trivial | exact rfl | omega | (simp; done) | (simp; omega)))))
  refine Run.condB rfl rfl (fun hb2 => ?_) (fun hb2 => ?_)
  · cases po2 with
    | nil => simp at hl2 hb2; omega
    | cons x po2 =>
      have hgd := at_items hp2
      have hlx2 := k_iff (andn p.dn q.dn)
      have hxm : x ∈ itemsL (andn p.dn q.dn) := by rw [hp2]; simp
      simp only [List.length_cons] at hl2
      repeat (first | refine wa ?_ | refine wc ?_ | refine wd ?_ | refine wf ?_ | ((refine wl rfl rfl ?_ ?_); try (first | (rw [hgd] <;> rfl) | ((repeat' apply And.intro) <;> first | exact trivial | exact rfl | omega | (simp; done) | (simp; omega)))))
      first | refine OpsAt.say (d := 76) rfl (y := .v (.int .i64 x)) (hgd) ?_ | refine Run.say (d := 76) rfl (y := .v (.int .i64 x)) (hgd) ?_ | refine OpsR.say (q := 76) rfl (y := .v (.int .i64 x)) (hgd) ?_ | refine OpsB.say (d := 76) rfl (y := .v (.int .i64 x)) (hgd) ?_
      repeat (first | refine wa ?_ | refine wb ?_ | ((refine wl rfl rfl ?_ ?_); try (first | ((repeat' apply And.intro) <;> first | exact trivial | exact rfl | omega | (simp; done) | (simp; omega)))))
      refine Run.ops1 (ld := []) rfl ?_
      obtain ⟨hx32, hxb⟩ := hback x hxm
      repeat (first | ((refine wl rfl rfl ?_ ?_); try (first | ((repeat' apply And.intro) <;> first | exact trivial | exact rfl | omega | (simp; done) | (simp; omega)) | exact pd_ld1 (by assumption) rfl)))
      first | refine OpsAt.say (d := 78) rfl (y := gr p.g) (rfl) ?_ | refine Run.say (d := 78) rfl (y := gr p.g) (rfl) ?_ | refine OpsR.say (q := 78) rfl (y := gr p.g) (rfl) ?_ | refine OpsB.say (d := 78) rfl (y := gr p.g) (rfl) ?_
      have hpg : (gr p.g).pl = true := gr_pl _
      refine wn (wA rfl rfl rfl (by repeat' (first | exact trivial | exact rfl | assumption | apply And.intro)) (callable (by decide)) (c_mBack p.g x hx32 hw.g)) rfl ?_
      repeat (first | refine wb ?_ | ((first | refine wl rfl rfl ?_ ?_ | refine wn (wp rfl rfl rfl rfl rfl ?_) rfl ?_); try (first | ((repeat' apply And.intro) <;> first | exact trivial | exact rfl | omega | (simp; done) | (simp; omega)) | exact pd_fa (by assumption) rfl (by decide))))
      first | refine OpsAt.say (d := 84) rfl (y := .v (.bool false)) (room_and (setOf_lt _) hs.lm hxb) ?_ | refine Run.say (d := 84) rfl (y := .v (.bool false)) (room_and (setOf_lt _) hs.lm hxb) ?_ | refine OpsR.say (q := 84) rfl (y := .v (.bool false)) (room_and (setOf_lt _) hs.lm hxb) ?_ | refine OpsB.say (d := 84) rfl (y := .v (.bool false)) (room_and (setOf_lt _) hs.lm hxb) ?_
      repeat (first | refine wb ?_ | refine wc ?_ | refine we ?_ | refine wf ?_ | ((first | refine wl rfl rfl ?_ ?_ | refine wn (wp rfl rfl rfl rfl rfl ?_) rfl ?_ | refine wu rfl ?_ ?_); try (first | ((repeat' apply And.intro) <;> first | exact trivial | exact rfl | omega | (simp; done) | (simp; omega)))))
      first | refine OpsAt.say (d := 73) rfl (y := .v (.int .i64 ((pr2 ++ [x]).length : Nat))) (by rw [wrap64_in ((pr2.length : Int) + 1) (by omega)]; simp) ?_ | refine Run.say (d := 73) rfl (y := .v (.int .i64 ((pr2 ++ [x]).length : Nat))) (by rw [wrap64_in ((pr2.length : Int) + 1) (by omega)]; simp) ?_ | refine OpsR.say (q := 73) rfl (y := .v (.int .i64 ((pr2 ++ [x]).length : Nat))) (by rw [wrap64_in ((pr2.length : Int) + 1) (by omega)]; simp) ?_ | refine OpsB.say (d := 73) rfl (y := .v (.int .i64 ((pr2 ++ [x]).length : Nat))) (by rw [wrap64_in ((pr2.length : Int) + 1) (by omega)]; simp) ?_
      refine Run.keep [4, 5, 9, 71, 72, 73] rfl ?_
      exact ih2 (pr2 ++ [x], po2) (by simp [hp2]) (by simp)
  refine Run.keep [4, 5, 9] rfl ?_
  repeat (first | refine wj rfl ?_)
  refine wa ?_
  refine wa ?_
  refine wc ?_
  repeat (first | ((refine wl rfl rfl ?_ ?_); try (first | ((repeat' apply And.intro) <;> first | exact trivial | exact rfl | omega | (simp; done) | (simp; omega)) | exact pd_fa (by assumption) rfl (by decide))))
  first | refine OpsAt.say (d := 87) rfl (y := S q.lv) (rfl) ?_ | refine Run.say (d := 87) rfl (y := S q.lv) (rfl) ?_ | refine OpsR.say (q := 87) rfl (y := S q.lv) (rfl) ?_ | refine OpsB.say (d := 87) rfl (y := S q.lv) (rfl) ?_
  refine wn (wA rfl rfl rfl (by repeat' (first | exact trivial | exact rfl | assumption | apply And.intro)) (callable (by decide)) (c_Items q.lv hq.lm)) rfl ?_
  repeat (first | refine wb ?_ | refine wd ?_ | ((first | refine wl rfl rfl ?_ ?_ | refine wn (wq agree rfl rfl rfl ?_) rfl ?_); try (first | exact trivial | ((repeat' apply And.intro) <;> first | exact trivial | exact rfl | omega | (simp; done) | (simp; omega)))))
  refine Run.keep [4, 5, 9, 88, 89, 90] rfl ?_
  refine Run.at (l' := [(4, .d (.v (.bool false))), (5, .box (pd p)), (9, .box (pd (endsP q []))), (88, .d (.lst .any 1 (ints (itemsN q.lv)))), (89, .d (.v (.int .i64 (itemsL q.lv).length))), (90, .d (.v (.int .i64 (0 : Nat))))]) (by rw [← k_iff (q.lv)]; rfl) ?_
  refine Run.loopL (α := List Nat × List Nat) (fun y => itemsL q.lv = y.1 ++ y.2) (fun y => [(4, .d (.v (.bool false))), (5, .box (pd p)), (9, .box (pd (endsP q y.1))), (88, .d (.lst .any 1 (ints (itemsN q.lv)))), (89, .d (.v (.int .i64 (itemsL q.lv).length))), (90, .d (.v (.int .i64 y.1.length)))]) (fun y => y.2.length) ([], itemsL q.lv) rfl ?_
  rintro ⟨pr3, po3⟩ hp3 ih3
  simp only at hp3
  have hl3 : (itemsL q.lv).length = pr3.length + po3.length := by rw [hp3]; simp
  have hl364 := itemsL_le (q.lv)
  have hr2 := ends_ok hq pr3
  have hrw := hr2.pw
  have hemp0 := room_empty hq
  have hemp : po3 = [] → (colP 64 (endsP q pr3)).1.dn = 0 ∧ (colP 64 (endsP q pr3)).1.lv = 0 ∧ (colP 64 (endsP q pr3)).1.g = G0 := fun e => by
    rw [show itemsL q.lv = pr3 by rw [hp3, e, List.append_nil]] at hemp0
    exact hemp0
  clear hemp0
  have hcl := (SP.col 64 _ hr2).pw
  obtain ⟨r, hrq⟩ : ∃ r, r = endsP q pr3 := ⟨_, rfl⟩
  rw [← hrq] at hr2 hrw hemp hcl
  have hplr : ((pd r).get []).pl = true := pd_pl r
  refine Run.at (l' := [(4, .d (.v (.bool false))), (5, .box (pd p)), (9, .box (pd r)), (88, .d (.lst .any 1 (ints (itemsN q.lv)))), (89, .d (.v (.int .i64 (itemsL q.lv).length))), (90, .d (.v (.int .i64 pr3.length)))]) (by rw [hrq]) ?_
  repeat (first | refine wa ?_ | refine wb ?_ | refine wc ?_ | ((refine wn (wp rfl rfl rfl rfl rfl ?_) rfl ?_); try (first | ((repeat' apply And.intro) <;> first | exact trivial | exact rfl | omega | (simp; done) | (simp; omega)))))
  refine Run.condB rfl rfl (fun hb3 => ?_) (fun hb3 => ?_)
  · cases po3 with
    | nil => simp at hl3 hb3; omega
    | cons x po3 =>
      have hgd := at_items hp3
      have hlx2 := k_iff q.lv
      have hxm : x ∈ itemsL q.lv := by rw [hp3]; simp
      simp only [List.length_cons] at hl3
      repeat (first | refine wa ?_ | refine wc ?_ | refine wd ?_ | refine wf ?_ | ((refine wl rfl rfl ?_ ?_); try (first | (rw [hgd] <;> rfl) | ((repeat' apply And.intro) <;> first | exact trivial | exact rfl | omega | (simp; done) | (simp; omega)))))
      first | refine OpsAt.say (d := 93) rfl (y := .v (.int .i64 x)) (hgd) ?_ | refine Run.say (d := 93) rfl (y := .v (.int .i64 x)) (hgd) ?_ | refine OpsR.say (q := 93) rfl (y := .v (.int .i64 x)) (hgd) ?_ | refine OpsB.say (d := 93) rfl (y := .v (.int .i64 x)) (hgd) ?_
      repeat (first | refine wb ?_ | refine wc ?_ | ((refine wl rfl rfl ?_ ?_); try (first | ((repeat' apply And.intro) <;> first | exact trivial | exact rfl | omega | (simp; done) | (simp; omega)) | exact ⟨pd_fits (by assumption) rfl, pd_pl _⟩)))
      have hrx := (hr2.endS (x : Int)).pw
      have hsn3 := ends_snoc q pr3 x
      rw [← hrq] at hsn3
      refine wn (wA rfl rfl rfl (by repeat' (first | exact trivial | exact rfl | assumption | apply And.intro)) (callable (by decide)) (c_End r x hrw)) rfl ?_
      repeat (first | ((refine wl rfl rfl ?_ ?_); try (first | ((repeat' apply And.intro) <;> first | exact trivial | exact rfl | omega | (simp; done) | (simp; omega)) | exact pd_pl _ | exact noOwns_pb _ _)))
      refine wv rfl rfl (pd_pl _) (pd_sto hrx hrw rfl) rfl ?_
      first | refine OpsAt.sayB (d := 9) rfl (y := pd (endsP q (pr3 ++ [x]))) (by rw [hsn3]; rfl) ?_ | refine Run.sayB (d := 9) rfl (y := pd (endsP q (pr3 ++ [x]))) (by rw [hsn3]; rfl) ?_
      repeat (first | refine wb ?_ | refine wc ?_ | refine we ?_ | ((first | refine wl rfl rfl ?_ ?_ | refine wn (wp rfl rfl rfl rfl rfl ?_) rfl ?_); try (first | ((repeat' apply And.intro) <;> first | exact trivial | exact rfl | omega | (simp; done) | (simp; omega)))))
      first | refine OpsAt.say (d := 90) rfl (y := .v (.int .i64 ((pr3 ++ [x]).length : Nat))) (by rw [wrap64_in ((pr3.length : Int) + 1) (by omega)]; simp) ?_ | refine Run.say (d := 90) rfl (y := .v (.int .i64 ((pr3 ++ [x]).length : Nat))) (by rw [wrap64_in ((pr3.length : Int) + 1) (by omega)]; simp) ?_ | refine OpsR.say (q := 90) rfl (y := .v (.int .i64 ((pr3 ++ [x]).length : Nat))) (by rw [wrap64_in ((pr3.length : Int) + 1) (by omega)]; simp) ?_ | refine OpsB.say (d := 90) rfl (y := .v (.int .i64 ((pr3 ++ [x]).length : Nat))) (by rw [wrap64_in ((pr3.length : Int) + 1) (by omega)]; simp) ?_
      refine Run.keep [4, 5, 9, 88, 89, 90] rfl ?_
      exact ih3 (pr3 ++ [x], po3) (by simp [hp3]) (by simp)
  have hpo3 : po3 = [] := by cases po3 with | nil => rfl | cons x po3 => simp at hl3 hb3; omega
  have hemp := hemp hpo3
  refine Run.keep [4, 5, 9] rfl ?_
  repeat (first | refine wa ?_ | refine wc ?_ | ((refine wl rfl rfl ?_ ?_); try (first | exact ⟨pd_fits (by assumption) rfl, pd_pl _⟩)) | refine wj rfl ?_)
  refine wn (wA rfl rfl rfl (by repeat' (first | exact trivial | exact rfl | assumption | apply And.intro)) (callable (by decide)) (c_Collect r hr2)) rfl ?_
  have hno3 := noOwns_pl (colP 64 r).1 (colP 64 r).2
  obtain ⟨e1, e2, e3⟩ := hemp
  repeat (first | ((refine wl rfl rfl ?_ ?_); try (first | ((repeat' apply And.intro) <;> first | exact trivial | exact rfl | omega | (simp; done) | (simp; omega)) | exact pd_pl _)))
  refine wv rfl rfl (pd_pl _) (pd_sto hcl hrw rfl) rfl ?_
  first | refine OpsAt.sayB (d := 9) rfl (y := pd (colP 64 r).1) (rfl) ?_ | refine Run.sayB (d := 9) rfl (y := pd (colP 64 r).1) (rfl) ?_
  repeat (first | refine wb ?_)
  refine Run.keep [4, 9] rfl ?_
  refine wa ?_
  refine wc ?_
  repeat (first | ((first | refine wl rfl rfl ?_ ?_ | refine wn (wp rfl rfl rfl rfl rfl ?_) rfl ?_); try (first | ((repeat' apply And.intro) <;> first | exact trivial | exact rfl | omega | (simp; done) | (simp; omega)) | exact pd_fa (by assumption) rfl (by decide))))
  first | refine OpsAt.say (d := 109) rfl (y := .v (.bool true)) (by show D.v (.bool (((colP 64 r).1.dn : Int) == 0)) = _; rw [e1]; rfl) ?_ | refine Run.say (d := 109) rfl (y := .v (.bool true)) (by show D.v (.bool (((colP 64 r).1.dn : Int) == 0)) = _; rw [e1]; rfl) ?_ | refine OpsR.say (q := 109) rfl (y := .v (.bool true)) (by show D.v (.bool (((colP 64 r).1.dn : Int) == 0)) = _; rw [e1]; rfl) ?_ | refine OpsB.say (d := 109) rfl (y := .v (.bool true)) (by show D.v (.bool (((colP 64 r).1.dn : Int) == 0)) = _; rw [e1]; rfl) ?_
  repeat (first | ((first | refine wl rfl rfl ?_ ?_ | refine wm rfl rfl rfl ?_ ?_ | refine wo rfl (wp rfl rfl rfl rfl rfl ?_) rfl ?_); try (first | ((repeat' apply And.intro) <;> first | exact trivial | exact rfl | omega | (simp; done) | (simp; omega)) | exact pd_fa (by assumption) rfl (by decide))))
  first | refine OpsAt.say (d := 114) rfl (y := .v (.bool true)) (by show D.v (.bool (((colP 64 r).1.lv : Int) == 0)) = _; rw [e2]; rfl) ?_ | refine Run.say (d := 114) rfl (y := .v (.bool true)) (by show D.v (.bool (((colP 64 r).1.lv : Int) == 0)) = _; rw [e2]; rfl) ?_ | refine OpsR.say (q := 114) rfl (y := .v (.bool true)) (by show D.v (.bool (((colP 64 r).1.lv : Int) == 0)) = _; rw [e2]; rfl) ?_ | refine OpsB.say (d := 114) rfl (y := .v (.bool true)) (by show D.v (.bool (((colP 64 r).1.lv : Int) == 0)) = _; rw [e2]; rfl) ?_
  repeat (first | ((refine wm rfl rfl rfl ?_ ?_); try (first | ((repeat' apply And.intro) <;> first | exact trivial | exact rfl | omega | (simp; done) | (simp; omega)) | exact pd_ld1 (by assumption) rfl)))
  first | refine OpsAt.say (d := 116) rfl (y := gr G0) (by show gr (colP 64 r).1.g = _; rw [e3]) ?_ | refine Run.say (d := 116) rfl (y := gr G0) (by show gr (colP 64 r).1.g = _; rw [e3]) ?_ | refine OpsR.say (q := 116) rfl (y := gr G0) (by show gr (colP 64 r).1.g = _; rw [e3]) ?_ | refine OpsB.say (d := 116) rfl (y := gr G0) (by show gr (colP 64 r).1.g = _; rw [e3]) ?_
  refine wo rfl (Ev.buildZ agree rfl rfl rfl) rfl ?_
  first | refine OpsAt.say (d := 117) rfl (y := gr G0) (rfl) ?_ | refine Run.say (d := 117) rfl (y := gr G0) (rfl) ?_ | refine OpsR.say (q := 117) rfl (y := gr G0) (rfl) ?_ | refine OpsB.say (d := 117) rfl (y := gr G0) (rfl) ?_
  have hg0 : (gr G0).pl = true := gr_pl _
  refine wo rfl (Ev.bins rfl rfl rfl (by repeat' (first | exact trivial | exact rfl | assumption | apply And.intro)) (BinD.eqAr (T := 27) (by kernel_rfl) (grT (d := 9998) gok0.1 (e := 25) rfl Tryd.underlying25 (fun _ => rfl)))) rfl ?_
  repeat (first | refine wb ?_ | ((refine wl rfl rfl ?_ ?_); try (first | ((repeat' apply And.intro) <;> first | exact trivial | exact rfl | omega | (simp; done) | (simp; omega)))))
  exact wD (wE rfl rfl rfl)
end Go.Proofs.YtaflihoopnjcgaaDoor

namespace Go.Proofs.YtaflihoopnjcgaaDoor
open Go Go.Dat

theorem ev_plc {l : Env} {dd : Option Nat} {g : Option (Nat × Bool)} {ty : TypeId} {pos : String} {af : Array Edge} {q s : Nat} {gone : List Int} {id : Int} {x : Operand} {c : Prop} (hq : lk l q = .mq s) (hs : lk l s = .mp .i64 (mFrom 0 gone))
    (hx : opOf (lk l) x = some (.v (.int .i64 id), c)) (hc : c) : Ev Tryd.prog Θ (lk l) ⟨dd, .lookup 51 (.tmp q) x false, ty, pos, af, g⟩ (.d (.v (.int .i64 (plc 0 gone id)))) := by
  by_cases hm : id ∈ gone
  · exact Ev.look hq hs Tryd.underlying51 Tryd.underlying3 hx hc (by rw [mget_from, if_pos hm]) rfl
  · rw [plc_zero gone 0 id hm]
    exact Ev.lookNo hq hs Tryd.underlying51 Tryd.underlying3 hx hc (by rw [mget_from, if_neg hm]) rfl

set_option maxHeartbeats 8000000 in
theorem c_PoolGoes (k : Int) (l : List (Int × Int × Int)) (hk : 0 ≤ k ∧ k ≤ 255) (hl : ∀ x ∈ l, 0 ≤ x.1 ∧ x.1 ≤ 255) :
    DFun Tryd.prog 4 [.v (.int .u8 k), .lst .any 3 (ads l)] (.v (.bool true)) := by
  refine DFun.ofRun agree mixed Tryd.func4 rfl rfl ?_
  have hz := pw0
  repeat (first | refine wa ?_ | refine wb ?_ | refine wc ?_ | ((refine wl rfl rfl ?_ ?_); try (first | exact trivial)))
  refine wn (wA rfl rfl rfl (by repeat' (first | exact trivial | exact rfl | assumption | apply And.intro)) (callable (by decide)) (c_alive5)) rfl ?_
  repeat (first | refine wa ?_ | refine wb ?_ | refine wc ?_ | refine wf ?_ | ((first | refine wl rfl rfl ?_ ?_ | refine wn (wp rfl rfl rfl rfl rfl ?_) rfl ?_ | refine wn (wq agree rfl rfl rfl ?_) rfl ?_ | refine wu rfl ?_ ?_); try (first | ((repeat' apply And.intro) <;> first | exact trivial | exact rfl | omega | (simp; done) | (simp; omega)))))
  refine Run.condB rfl rfl (fun h1 => ?_) (fun h1 => ?_)
  · repeat (first | refine wa ?_ | refine wb ?_ | refine wc ?_ | ((refine wl rfl rfl ?_ ?_); try (first | exact trivial)))
    exact wD (wE rfl rfl rfl)
  have hes : l.length ≤ 120 := by have := of_decide_eq_false h1; rw [ads_len] at this; omega
  repeat (first | refine wa ?_ | refine wc ?_ | refine wf ?_ | ((refine wl rfl rfl ?_ ?_); try (first | ((repeat' apply And.intro) <;> first | exact trivial | exact rfl | omega | (simp; done) | (simp; omega)))))
  refine wn (Ev.conv rfl rfl Tryd.underlying5 Tryd.underlying3 rfl) rfl ?_
  repeat (first | ((refine wn (wp rfl rfl rfl rfl rfl ?_) rfl ?_); try (first | ((repeat' apply And.intro) <;> first | exact trivial | exact rfl | omega | (simp; done) | (simp; omega)))))
  first | refine OpsAt.say (d := 29) rfl (y := .v (.int .i64 (nOf k))) (congrArg (fun z => D.v (.int .i64 z)) (nOf_is hk)) ?_ | refine Run.say (d := 29) rfl (y := .v (.int .i64 (nOf k))) (congrArg (fun z => D.v (.int .i64 z)) (nOf_is hk)) ?_ | refine OpsR.say (q := 29) rfl (y := .v (.int .i64 (nOf k))) (congrArg (fun z => D.v (.int .i64 z)) (nOf_is hk)) ?_ | refine OpsB.say (d := 29) rfl (y := .v (.int .i64 (nOf k))) (congrArg (fun z => D.v (.int .i64 z)) (nOf_is hk)) ?_
  refine wn (wA rfl rfl rfl (by repeat' (first | exact trivial | exact rfl | assumption | apply And.intro)) (callable (by decide)) (k_new)) rfl ?_
  repeat (first | ((refine wl rfl rfl ?_ ?_); try (first | ((repeat' apply And.intro) <;> first | exact trivial | exact rfl | omega | (simp; done) | (simp; omega)))))
  have w0 : PW (newP (nOf k)) := (newS (nOf1 k) (nOf2 k)).pw
  first | refine OpsAt.sayB (d := 5) rfl (y := pd zeroP) (rfl) ?_ | refine Run.sayB (d := 5) rfl (y := pd zeroP) (rfl) ?_
  refine wv rfl rfl (pd_pl _) (pd_sto w0 hz rfl) rfl ?_
  first | refine OpsAt.sayB (d := 5) rfl (y := pd (newP (nOf k))) (rfl) ?_ | refine Run.sayB (d := 5) rfl (y := pd (newP (nOf k))) (rfl) ?_
  repeat (first | refine wa ?_ | refine wb ?_ | refine wc ?_ | refine wd ?_ | refine wf ?_ | ((first | refine wl rfl rfl ?_ ?_ | refine wn (wq agree rfl rfl rfl ?_) rfl ?_ | refine wu rfl ?_ ?_); try (first | exact trivial | ((repeat' apply And.intro) <;> first | exact trivial | exact rfl | omega | (simp; done) | (simp; omega)))))
  have hlx : ((ads l).length : Int) = l.length := by rw [ads_len]
  refine Run.keep [4, 5, 35, 36, 37] rfl ?_
  refine Run.at (l' := [(4, .d (.v (.bool false))), (5, .box (pd (stepsP (nOf k) []))), (35, .d (.lst .any 3 (ads l))), (36, .d (.v (.int .i64 l.length))), (37, .d (.v (.int .i64 (0 : Nat))))]) (by rw [← hlx]; rfl) ?_
  refine Run.loopL (α := List (Int × Int × Int) × List (Int × Int × Int)) (fun q => l = q.1 ++ q.2) (fun q => [(4, .d (.v (.bool false))), (5, .box (pd (stepsP (nOf k) q.1))), (35, .d (.lst .any 3 (ads l))), (36, .d (.v (.int .i64 l.length))), (37, .d (.v (.int .i64 q.1.length)))]) (fun q => q.2.length) ([], l) rfl ?_
  rintro ⟨pre, post⟩ hpp ih
  simp only at hpp
  have hlen : l.length = pre.length + post.length := by rw [hpp]; simp
  have hap := steps_ok (nOf1 k) (nOf2 k) pre
  have hsn := steps_snoc (nOf k) pre
  obtain ⟨p, hp0⟩ : ∃ p, p = stepsP (nOf k) pre := ⟨_, rfl⟩
  rw [← hp0] at hap hsn
  refine Run.at (l' := [(4, .d (.v (.bool false))), (5, .box (pd p)), (35, .d (.lst .any 3 (ads l))), (36, .d (.v (.int .i64 l.length))), (37, .d (.v (.int .i64 pre.length)))]) (by rw [hp0]) ?_
  have hct : p.ct ≤ 1000 := by have := hap.ap.ct; omega
  have hw := hap.ap.sp.pw
  have hpp1 : ((pd p).get []).pl = true := pd_pl p
  repeat (first | refine wa ?_ | refine wb ?_ | refine wc ?_ | ((refine wn (wp rfl rfl rfl rfl rfl ?_) rfl ?_); try (first | ((repeat' apply And.intro) <;> first | exact trivial | exact rfl | omega | (simp; done) | (simp; omega)))))
  refine Run.condB rfl rfl (fun hb => ?_) (fun hb => ?_)
  · cases post with
    | nil => simp at hlen hb; omega
    | cons x post =>
      have hgd : (ads l).getD ((pre.length : Int)).toNat un = ad x := by rw [hpp]; exact ads_pre pre post x
      have hkx := hl x (by rw [hpp]; simp)
      repeat (first | refine wa ?_ | refine wc ?_ | refine wd ?_ | refine wf ?_ | ((refine wl rfl rfl ?_ ?_)))
      · exact ⟨rfl, rfl, by omega, by rw [ads_len, hpp]; simp⟩
      first | refine OpsAt.say (d := 39) rfl (y := .pt (ad x)) (congrArg D.pt hgd) ?_ | refine Run.say (d := 39) rfl (y := .pt (ad x)) (congrArg D.pt hgd) ?_ | refine OpsR.say (q := 39) rfl (y := .pt (ad x)) (congrArg D.pt hgd) ?_ | refine OpsB.say (d := 39) rfl (y := .pt (ad x)) (congrArg D.pt hgd) ?_
      repeat (first | ((refine wl rfl rfl ?_ ?_); try (first | ((repeat' apply And.intro) <;> first | exact trivial | exact rfl | omega | (simp; done) | (simp; omega)))))
      refine wv rfl rfl rfl rfl rfl ?_
      first | refine OpsAt.sayB (d := 8) rfl (y := ad x) (rfl) ?_ | refine Run.sayB (d := 8) rfl (y := ad x) (rfl) ?_
      have hpa : ((ad x).get []).pl = true := rfl
      have hpz : (pd zeroP).pl = true := pd_pl _
      repeat (first | refine wa ?_ | refine wb ?_ | refine wc ?_ | ((first | refine wl rfl rfl ?_ ?_ | refine wn (wp rfl rfl rfl rfl rfl ?_) rfl ?_); try (first | ((repeat' apply And.intro) <;> first | exact trivial | exact rfl | omega | (simp; done) | (simp; omega)))))
      first | refine OpsAt.say (d := 44) rfl (y := .v (.bool (!decide (x.1 % 6 = 5)))) (by show D.v (.bool (x.1.tmod 6 != 5)) = _; rw [Int.tmod_eq_emod_of_nonneg hkx.1]; rfl) ?_ | refine Run.say (d := 44) rfl (y := .v (.bool (!decide (x.1 % 6 = 5)))) (by show D.v (.bool (x.1.tmod 6 != 5)) = _; rw [Int.tmod_eq_emod_of_nonneg hkx.1]; rfl) ?_ | refine OpsR.say (q := 44) rfl (y := .v (.bool (!decide (x.1 % 6 = 5)))) (by show D.v (.bool (x.1.tmod 6 != 5)) = _; rw [Int.tmod_eq_emod_of_nonneg hkx.1]; rfl) ?_ | refine OpsB.say (d := 44) rfl (y := .v (.bool (!decide (x.1 % 6 = 5)))) (by show D.v (.bool (x.1.tmod 6 != 5)) = _; rw [Int.tmod_eq_emod_of_nonneg hkx.1]; rfl) ?_
      refine Run.condB rfl rfl (fun hk5 => ?_) (fun hk5 => ?_)
      · have hk5' : ¬ x.1 % 6 = 5 := by simpa using hk5
        have hst : stepP p x = doesP p x := if_neg hk5'
        repeat (first | refine wc ?_ | ((refine wl rfl rfl ?_ ?_); try (first | ((repeat' apply And.intro) <;> first | exact trivial | exact rfl | omega | (simp; done) | (simp; omega)) | exact ⟨pd_fits (by assumption) rfl, pd_pl _⟩)))
        first | refine OpsAt.say (d := 47) rfl (y := pd zeroP) (rfl) ?_ | refine Run.say (d := 47) rfl (y := pd zeroP) (rfl) ?_ | refine OpsR.say (q := 47) rfl (y := pd zeroP) (rfl) ?_ | refine OpsB.say (d := 47) rfl (y := pd zeroP) (rfl) ?_
        skip
        refine wn (wA rfl rfl rfl (by repeat' (first | exact trivial | exact rfl | assumption | apply And.intro)) (callable (by decide)) (k_does p x hap.ap.sp hct hkx)) rfl ?_
        have hx := (hap.ap.sp.does x).pw
        have hno := noOwns_ppb (doesP p x) zeroP (.bool (sameP p zeroP x))
        repeat (first | ((refine wl rfl rfl ?_ ?_); try (first | ((repeat' apply And.intro) <;> first | exact trivial | exact rfl | omega | (simp; done) | (simp; omega)) | exact pd_pl _)))
        refine wv rfl rfl (pd_pl _) (pd_sto hx hw rfl) rfl ?_
        first | refine OpsAt.sayB (d := 5) rfl (y := pd (stepsP (nOf k) (pre ++ [x]))) (by rw [hsn x, hst]; rfl) ?_ | refine Run.sayB (d := 5) rfl (y := pd (stepsP (nOf k) (pre ++ [x]))) (by rw [hsn x, hst]; rfl) ?_
        repeat (first | refine wb ?_ | refine wc ?_ | refine we ?_ | ((first | refine wl rfl rfl ?_ ?_ | refine wn (wp rfl rfl rfl rfl rfl ?_) rfl ?_); try (first | ((repeat' apply And.intro) <;> first | exact trivial | exact rfl | omega | (simp; done) | (simp; omega)))))
        first | refine OpsAt.say (d := 37) rfl (y := .v (.int .i64 ((pre ++ [x]).length : Nat))) (by rw [wrap64_in ((pre.length : Int) + 1) (by omega)]; simp) ?_ | refine Run.say (d := 37) rfl (y := .v (.int .i64 ((pre ++ [x]).length : Nat))) (by rw [wrap64_in ((pre.length : Int) + 1) (by omega)]; simp) ?_ | refine OpsR.say (q := 37) rfl (y := .v (.int .i64 ((pre ++ [x]).length : Nat))) (by rw [wrap64_in ((pre.length : Int) + 1) (by omega)]; simp) ?_ | refine OpsB.say (d := 37) rfl (y := .v (.int .i64 ((pre ++ [x]).length : Nat))) (by rw [wrap64_in ((pre.length : Int) + 1) (by omega)]; simp) ?_
        refine Run.keep [4, 5, 35, 36, 37] rfl ?_
        exact ih (pre ++ [x], post) (by simp [hpp]) (by simp)
      · have hk5' : x.1 % 6 = 5 := by simpa using hk5
        have hst : stepP p x = p := if_pos hk5'
        repeat (first | refine wb ?_ | refine wc ?_ | refine we ?_ | refine wf ?_ | ((first | refine wl rfl rfl ?_ ?_ | refine wn (wp rfl rfl rfl rfl rfl ?_) rfl ?_); try (first | ((repeat' apply And.intro) <;> first | exact trivial | exact rfl | omega | (simp; done) | (simp; omega)))))
        first | refine OpsAt.sayB (d := 5) rfl (y := pd (stepsP (nOf k) (pre ++ [x]))) (by rw [hsn x, hst]) ?_ | refine Run.sayB (d := 5) rfl (y := pd (stepsP (nOf k) (pre ++ [x]))) (by rw [hsn x, hst]) ?_
        first | refine OpsAt.say (d := 37) rfl (y := .v (.int .i64 ((pre ++ [x]).length : Nat))) (by rw [wrap64_in ((pre.length : Int) + 1) (by omega)]; simp) ?_ | refine Run.say (d := 37) rfl (y := .v (.int .i64 ((pre ++ [x]).length : Nat))) (by rw [wrap64_in ((pre.length : Int) + 1) (by omega)]; simp) ?_ | refine OpsR.say (q := 37) rfl (y := .v (.int .i64 ((pre ++ [x]).length : Nat))) (by rw [wrap64_in ((pre.length : Int) + 1) (by omega)]; simp) ?_ | refine OpsB.say (d := 37) rfl (y := .v (.int .i64 ((pre ++ [x]).length : Nat))) (by rw [wrap64_in ((pre.length : Int) + 1) (by omega)]; simp) ?_
        refine Run.keep [4, 5, 35, 36, 37] rfl ?_
        exact ih (pre ++ [x], post) (by simp [hpp]) (by simp)
  have hs := hap.ap.sp
  refine Run.keep [4, 5] rfl ?_
  repeat (first | refine wj rfl ?_)
  have hid := hap.id
  have hnd := gone_nodup hs hid
  have hgt := fun a b => goes_told (a := a) (b := b) hs hid
  have hlen2 : (goneP p).length ≤ 64 := col_len 64 p
  have hwc := (SP.col 64 p hs).pw
  refine wa ?_
  refine wc ?_
  repeat (first | ((refine wl rfl rfl ?_ ?_); try (first | exact ⟨pd_fits (by assumption) rfl, pd_pl _⟩)))
  refine wn (wA rfl rfl rfl (by repeat' (first | exact trivial | exact rfl | assumption | apply And.intro)) (callable (by decide)) (c_Collect p hs)) rfl ?_
  have hno2 := noOwns_pl (colP 64 p).1 (colP 64 p).2
  repeat (first | ((refine wl rfl rfl ?_ ?_); try (first | ((repeat' apply And.intro) <;> first | exact trivial | exact rfl | omega | (simp; done) | (simp; omega)) | exact pd_pl _)))
  first | refine OpsAt.sayB (d := 9) rfl (y := pd zeroP) (rfl) ?_ | refine Run.sayB (d := 9) rfl (y := pd zeroP) (rfl) ?_
  refine wv rfl rfl (pd_pl _) (pd_sto hwc hz rfl) rfl ?_
  repeat (first | refine wb ?_ | ((refine wl rfl rfl ?_ ?_); try (first | ((repeat' apply And.intro) <;> first | exact trivial | exact rfl | omega | (simp; done) | (simp; omega)))))
  obtain ⟨gone, hgone⟩ : ∃ gone, gone = goneP p := ⟨_, rfl⟩
  rw [← hgone] at hnd hgt hlen2
  first | refine OpsAt.say (d := 10) rfl (y := .lst .any 1 (ints gone)) (by rw [hgone]; rfl) ?_ | refine Run.say (d := 10) rfl (y := .lst .any 1 (ints gone)) (by rw [hgone]; rfl) ?_ | refine OpsR.say (q := 10) rfl (y := .lst .any 1 (ints gone)) (by rw [hgone]; rfl) ?_ | refine OpsB.say (d := 10) rfl (y := .lst .any 1 (ints gone)) (by rw [hgone]; rfl) ?_
  refine Run.keep [4, 5, 10] rfl ?_
  refine wa ?_
  refine wc ?_
  refine wn (Ev.makeMap (k := .i64) rfl) rfl ?_
  repeat (first | refine wa ?_ | refine wb ?_ | refine wc ?_ | refine wd ?_ | ((first | refine wl rfl rfl ?_ ?_ | refine wn (wq agree rfl rfl rfl ?_) rfl ?_); try (first | exact trivial | ((repeat' apply And.intro) <;> first | exact trivial | exact rfl | omega | (simp; done) | (simp; omega)))))
  have hlg : ((ints gone).length : Int) = gone.length := by rw [ints_len]
  refine Run.keep [4, 5, 11, 59, 60, 61, 62] rfl ?_
  refine Run.at (l' := [(4, .d (.v (.bool false))), (5, .box (pd p)), (11, .mq 59), (59, .mp .i64 (mFrom 0 [])), (60, .d (.lst .any 1 (ints gone))), (61, .d (.v (.int .i64 gone.length))), (62, .d (.v (.int .i64 (0 : Nat))))]) (by rw [← hlg]; rfl) ?_
  refine Run.loopL (α := List Int × List Int) (fun y => gone = y.1 ++ y.2) (fun y => [(4, .d (.v (.bool false))), (5, .box (pd p)), (11, .mq 59), (59, .mp .i64 (mFrom 0 y.1)), (60, .d (.lst .any 1 (ints gone))), (61, .d (.v (.int .i64 gone.length))), (62, .d (.v (.int .i64 y.1.length)))]) (fun y => y.2.length) ([], gone) rfl ?_
  rintro ⟨pg, qg⟩ hpg ihg
  simp only at hpg
  have hlpg : gone.length = pg.length + qg.length := by rw [hpg]; simp
  refine Run.at (l' := [(4, .d (.v (.bool false))), (5, .box (pd p)), (11, .mq 59), (59, .mp .i64 (mFrom 0 pg)), (60, .d (.lst .any 1 (ints gone))), (61, .d (.v (.int .i64 gone.length))), (62, .d (.v (.int .i64 pg.length)))]) rfl ?_
  repeat (first | refine wa ?_ | refine wb ?_ | refine wc ?_ | ((refine wn (wp rfl rfl rfl rfl rfl ?_) rfl ?_); try (first | ((repeat' apply And.intro) <;> first | exact trivial | exact rfl | omega | (simp; done) | (simp; omega)))))
  refine Run.condB rfl rfl (fun hbg => ?_) (fun hbg => ?_)
  · cases qg with
    | nil => simp at hlpg hbg; omega
    | cons x qg =>
      have hgd : (ints gone).getD ((pg.length : Int)).toNat un = .v (.int .i64 x) := by rw [hpg]; simp [ints]
      have hnx : x ∉ pg := fun h => by
        rw [hpg] at hnd
        exact (List.nodup_append.1 hnd).2.2 x h x List.mem_cons_self rfl
      simp only [List.length_cons] at hlpg
      repeat (first | refine wa ?_ | refine wc ?_ | refine wd ?_ | refine wf ?_ | ((refine wl rfl rfl ?_ ?_); try (first | (rw [hgd] <;> rfl) | ((repeat' apply And.intro) <;> first | exact trivial | exact rfl | omega | (simp; done) | (simp; omega)))))
      first | refine OpsAt.say (d := 66) rfl (y := .v (.int .i64 x)) (hgd) ?_ | refine Run.say (d := 66) rfl (y := .v (.int .i64 x)) (hgd) ?_ | refine OpsR.say (q := 66) rfl (y := .v (.int .i64 x)) (hgd) ?_ | refine OpsB.say (d := 66) rfl (y := .v (.int .i64 x)) (hgd) ?_
      repeat (first | refine wa ?_ | refine wb ?_ | refine wc ?_ | ((refine wl rfl rfl ?_ ?_); try (first | exact trivial | ((repeat' apply And.intro) <;> first | exact trivial | exact rfl | omega | (simp; done) | (simp; omega)))))
      refine wn (Ev.lookNo (T := 51) rfl rfl Tryd.underlying51 Tryd.underlying3 rfl rfl (by rw [mget_from, if_neg hnx]) rfl) rfl ?_
      first | refine OpsAt.say (d := 69) rfl (y := .v (.int .i64 0)) (rfl) ?_ | refine Run.say (d := 69) rfl (y := .v (.int .i64 0)) (rfl) ?_ | refine OpsR.say (q := 69) rfl (y := .v (.int .i64 0)) (rfl) ?_ | refine OpsB.say (d := 69) rfl (y := .v (.int .i64 0)) (rfl) ?_
      repeat (first | refine wb ?_ | refine wc ?_ | refine wf ?_ | ((first | refine wl rfl rfl ?_ ?_ | refine wn (wp rfl rfl rfl rfl rfl ?_) rfl ?_ | refine wu rfl ?_ ?_); try (first | exact trivial | ((repeat' apply And.intro) <;> first | exact trivial | exact rfl | omega | (simp; done) | (simp; omega)))))
      first | refine OpsAt.say (d := 74) rfl (y := .v (.int .i64 ((0 + pg.length + 1 : Nat) : Int))) (by rw [wrap64_in ((pg.length : Int) + 1) (by omega)]; simp) ?_ | refine Run.say (d := 74) rfl (y := .v (.int .i64 ((0 + pg.length + 1 : Nat) : Int))) (by rw [wrap64_in ((pg.length : Int) + 1) (by omega)]; simp) ?_ | refine OpsR.say (q := 74) rfl (y := .v (.int .i64 ((0 + pg.length + 1 : Nat) : Int))) (by rw [wrap64_in ((pg.length : Int) + 1) (by omega)]; simp) ?_ | refine OpsB.say (d := 74) rfl (y := .v (.int .i64 ((0 + pg.length + 1 : Nat) : Int))) (by rw [wrap64_in ((pg.length : Int) + 1) (by omega)]; simp) ?_
      refine OpsAt.mapPut rfl rfl Tryd.underlying51 Tryd.underlying3 rfl rfl (by repeat' (first | exact trivial | exact rfl | apply And.intro)) rfl rfl ?_
      rw [mput_from pg 0 x hnx]
      repeat (first | refine wb ?_ | refine wc ?_ | refine we ?_ | ((first | refine wl rfl rfl ?_ ?_ | refine wn (wp rfl rfl rfl rfl rfl ?_) rfl ?_); try (first | ((repeat' apply And.intro) <;> first | exact trivial | exact rfl | omega | (simp; done) | (simp; omega)))))
      first | refine OpsAt.say (d := 62) rfl (y := .v (.int .i64 ((pg ++ [x]).length : Nat))) (by rw [wrap64_in ((pg.length : Int) + 1) (by omega)]; simp) ?_ | refine Run.say (d := 62) rfl (y := .v (.int .i64 ((pg ++ [x]).length : Nat))) (by rw [wrap64_in ((pg.length : Int) + 1) (by omega)]; simp) ?_ | refine OpsR.say (q := 62) rfl (y := .v (.int .i64 ((pg ++ [x]).length : Nat))) (by rw [wrap64_in ((pg.length : Int) + 1) (by omega)]; simp) ?_ | refine OpsB.say (d := 62) rfl (y := .v (.int .i64 ((pg ++ [x]).length : Nat))) (by rw [wrap64_in ((pg.length : Int) + 1) (by omega)]; simp) ?_
      refine Run.keep [4, 5, 11, 59, 60, 61, 62] rfl ?_
      exact ihg (pg ++ [x], qg) (by simp [hpg]) (by simp)
  have hqg : qg = [] := by cases qg with | nil => rfl | cons x qg => simp at hlpg hbg; omega
  have hpg2 : pg = gone := by rw [hpg, hqg, List.append_nil]
  rw [hpg2]
  refine Run.keep [4, 5, 11, 59] rfl ?_
  refine Run.at (l' := [(4, .d (.v (.bool false))), (5, .box (pd p)), (11, .mq 59), (59, .mp .i64 (mFrom 0 gone))]) rfl ?_
  repeat (first | refine wj rfl ?_)
  refine wa ?_
  refine wa ?_
  refine wc ?_
  repeat (first | ((refine wl rfl rfl ?_ ?_); try (first | ((repeat' apply And.intro) <;> first | exact trivial | exact rfl | omega | (simp; done) | (simp; omega)) | exact pd_fa (by assumption) rfl (by decide))))
  first | refine OpsAt.say (d := 77) rfl (y := S p.dn) (rfl) ?_ | refine Run.say (d := 77) rfl (y := S p.dn) (rfl) ?_ | refine OpsR.say (q := 77) rfl (y := S p.dn) (rfl) ?_ | refine OpsB.say (d := 77) rfl (y := S p.dn) (rfl) ?_
  refine wn (wA rfl rfl rfl (by repeat' (first | exact trivial | exact rfl | assumption | apply And.intro)) (callable (by decide)) (c_Items p.dn hs.dm)) rfl ?_
  repeat (first | refine wb ?_ | refine wd ?_ | ((first | refine wl rfl rfl ?_ ?_ | refine wn (wq agree rfl rfl rfl ?_) rfl ?_); try (first | exact trivial | ((repeat' apply And.intro) <;> first | exact trivial | exact rfl | omega | (simp; done) | (simp; omega)))))
  refine Run.keep [4, 5, 11, 59, 78, 79, 80] rfl ?_
  refine Run.at (l' := [(4, .d (.v (.bool false))), (5, .box (pd p)), (11, .mq 59), (59, .mp .i64 (mFrom 0 gone)), (78, .d (.lst .any 1 (ints (itemsN p.dn)))), (79, .d (.v (.int .i64 (itemsL p.dn).length))), (80, .d (.v (.int .i64 (0 : Nat))))]) (by rw [← k_iff (p.dn)]; rfl) ?_
  refine Run.loopL (α := List Nat × List Nat) (fun y => itemsL p.dn = y.1 ++ y.2) (fun y => [(4, .d (.v (.bool false))), (5, .box (pd p)), (11, .mq 59), (59, .mp .i64 (mFrom 0 gone)), (78, .d (.lst .any 1 (ints (itemsN p.dn)))), (79, .d (.v (.int .i64 (itemsL p.dn).length))), (80, .d (.v (.int .i64 y.1.length)))]) (fun y => y.2.length) ([], itemsL p.dn) rfl ?_
  rintro ⟨pr1, po1⟩ hp1 ih1
  simp only at hp1
  have hl1 : (itemsL p.dn).length = pr1.length + po1.length := by rw [hp1]; simp
  have hl164 := itemsL_le (p.dn)
  repeat (first | refine wa ?_ | refine wb ?_ | refine wc ?_ | ((refine wn (wp rfl rfl rfl rfl rfl ?_) rfl ?_); try (first | ((repeat' apply And.intro) <;> first | exact trivial | exact rfl | omega | (simp; done) | (simp; omega)))))
  refine Run.condB rfl rfl (fun hb1 => ?_) (fun hb1 => ?_)
  · cases po1 with
    | nil => simp at hl1 hb1; omega
    | cons x po1 =>
      have hgd := at_items hp1
      have hlx2 := k_iff p.dn
      have hxm : x ∈ itemsL p.dn := by rw [hp1]; simp
      simp only [List.length_cons] at hl1
      repeat (first | refine wa ?_ | refine wc ?_ | refine wd ?_ | refine wf ?_ | ((refine wl rfl rfl ?_ ?_); try (first | (rw [hgd] <;> rfl) | ((repeat' apply And.intro) <;> first | exact trivial | exact rfl | omega | (simp; done) | (simp; omega)))))
      first | refine OpsAt.say (d := 83) rfl (y := .v (.int .i64 x)) (hgd) ?_ | refine Run.say (d := 83) rfl (y := .v (.int .i64 x)) (hgd) ?_ | refine OpsR.say (q := 83) rfl (y := .v (.int .i64 x)) (hgd) ?_ | refine OpsB.say (d := 83) rfl (y := .v (.int .i64 x)) (hgd) ?_
      repeat (first | refine wa ?_ | refine wb ?_ | ((refine wl rfl rfl ?_ ?_); try (first | ((repeat' apply And.intro) <;> first | exact trivial | exact rfl | omega | (simp; done) | (simp; omega)))))
      refine Run.ops1 (ld := []) rfl ?_
      repeat (first | ((refine wl rfl rfl ?_ ?_); try (first | ((repeat' apply And.intro) <;> first | exact trivial | exact rfl | omega | (simp; done) | (simp; omega)) | exact pd_ld1 (by assumption) rfl)))
      first | refine OpsAt.say (d := 85) rfl (y := gr p.g) (rfl) ?_ | refine Run.say (d := 85) rfl (y := gr p.g) (rfl) ?_ | refine OpsR.say (q := 85) rfl (y := gr p.g) (rfl) ?_ | refine OpsB.say (d := 85) rfl (y := gr p.g) (rfl) ?_
      have hpg3 : (gr p.g).pl = true := gr_pl _
      refine wn (wA rfl rfl rfl (by repeat' (first | exact trivial | exact rfl | assumption | apply And.intro)) (callable (by decide)) (c_Outs p.g x hw.g)) rfl ?_
      repeat (first | ((first | refine wl rfl rfl ?_ ?_ | refine wn (wp rfl rfl rfl rfl rfl ?_) rfl ?_); try (first | ((repeat' apply And.intro) <;> first | exact trivial | exact rfl | omega | (simp; done) | (simp; omega)) | exact pd_fa (by assumption) rfl (by decide))))
      first | refine OpsAt.say (d := 90) rfl (y := S (outsN p.g (x : Int) &&& p.dn)) (congrArg (fun z => D.v (.int .u64 z)) (and64 (outs_lt p.g x) hs.dm)) ?_ | refine Run.say (d := 90) rfl (y := S (outsN p.g (x : Int) &&& p.dn)) (congrArg (fun z => D.v (.int .u64 z)) (and64 (outs_lt p.g x) hs.dm)) ?_ | refine OpsR.say (q := 90) rfl (y := S (outsN p.g (x : Int) &&& p.dn)) (congrArg (fun z => D.v (.int .u64 z)) (and64 (outs_lt p.g x) hs.dm)) ?_ | refine OpsB.say (d := 90) rfl (y := S (outsN p.g (x : Int) &&& p.dn)) (congrArg (fun z => D.v (.int .u64 z)) (and64 (outs_lt p.g x) hs.dm)) ?_
      have hinlt : outsN p.g (x : Int) &&& p.dn < M64 := Nat.lt_of_le_of_lt Nat.and_le_right hs.dm
      refine wn (wA rfl rfl rfl (by repeat' (first | exact trivial | exact rfl | assumption | apply And.intro)) (callable (by decide)) (c_Items (outsN p.g (x : Int) &&& p.dn) hinlt)) rfl ?_
      repeat (first | refine wb ?_ | refine wd ?_ | ((first | refine wl rfl rfl ?_ ?_ | refine wn (wq agree rfl rfl rfl ?_) rfl ?_); try (first | exact trivial | ((repeat' apply And.intro) <;> first | exact trivial | exact rfl | omega | (simp; done) | (simp; omega)))))
      refine Run.keep [4, 5, 11, 15, 59, 78, 79, 80, 91, 92, 93] rfl ?_
      refine Run.at (l' := [(4, .d (.v (.bool false))), (5, .box (pd p)), (11, .mq 59), (15, .d (.v (.int .i64 x))), (59, .mp .i64 (mFrom 0 gone)), (78, .d (.lst .any 1 (ints (itemsN p.dn)))), (79, .d (.v (.int .i64 (itemsL p.dn).length))), (80, .d (.v (.int .i64 pr1.length))), (91, .d (.lst .any 1 (ints (itemsN (outsN p.g (x : Int) &&& p.dn))))), (92, .d (.v (.int .i64 (itemsL (outsN p.g (x : Int) &&& p.dn)).length))), (93, .d (.v (.int .i64 (0 : Nat))))]) (by rw [← k_iff ((outsN p.g (x : Int) &&& p.dn))]; rfl) ?_
      refine Run.loopL (α := List Nat × List Nat) (fun y => itemsL (outsN p.g (x : Int) &&& p.dn) = y.1 ++ y.2) (fun y => [(4, .d (.v (.bool false))), (5, .box (pd p)), (11, .mq 59), (15, .d (.v (.int .i64 x))), (59, .mp .i64 (mFrom 0 gone)), (78, .d (.lst .any 1 (ints (itemsN p.dn)))), (79, .d (.v (.int .i64 (itemsL p.dn).length))), (80, .d (.v (.int .i64 pr1.length))), (91, .d (.lst .any 1 (ints (itemsN (outsN p.g (x : Int) &&& p.dn))))), (92, .d (.v (.int .i64 (itemsL (outsN p.g (x : Int) &&& p.dn)).length))), (93, .d (.v (.int .i64 y.1.length)))]) (fun y => y.2.length) ([], itemsL (outsN p.g (x : Int) &&& p.dn)) rfl ?_
      rintro ⟨pr2, po2⟩ hp2 ih2
      simp only at hp2
      have hl2 : (itemsL (outsN p.g (x : Int) &&& p.dn)).length = pr2.length + po2.length := by rw [hp2]; simp
      have hl264 := itemsL_le ((outsN p.g (x : Int) &&& p.dn))
      repeat (first | refine wa ?_ | refine wb ?_ | refine wc ?_ | ((refine wn (wp rfl rfl rfl rfl rfl ?_) rfl ?_); try (first | ((repeat' apply And.intro) <;> first | exact trivial | exact rfl | omega | (simp; done) | (simp; omega)))))
      refine Run.condB rfl rfl (fun hb2 => ?_) (fun hb2 => ?_)
      · cases po2 with
        | nil => simp at hl2 hb2; omega
        | cons y po2 =>
          have hgd := at_items hp2
          have hlx2 := k_iff (outsN p.g (x : Int) &&& p.dn)
          have hym : y ∈ itemsL (outsN p.g (x : Int) &&& p.dn) := by rw [hp2]; simp
          simp only [List.length_cons] at hl2
          repeat (first | refine wa ?_ | refine wc ?_ | refine wd ?_ | refine wf ?_ | ((refine wl rfl rfl ?_ ?_); try (first | (rw [hgd] <;> rfl) | ((repeat' apply And.intro) <;> first | exact trivial | exact rfl | omega | (simp; done) | (simp; omega)))))
          first | refine OpsAt.say (d := 96) rfl (y := .v (.int .i64 y)) (hgd) ?_ | refine Run.say (d := 96) rfl (y := .v (.int .i64 y)) (hgd) ?_ | refine OpsR.say (q := 96) rfl (y := .v (.int .i64 y)) (hgd) ?_ | refine OpsB.say (d := 96) rfl (y := .v (.int .i64 y)) (hgd) ?_
          repeat (first | refine wa ?_ | refine wb ?_ | ((refine wl rfl rfl ?_ ?_); try (first | ((repeat' apply And.intro) <;> first | exact trivial | exact rfl | omega | (simp; done) | (simp; omega)))))
          have hyb := (itemsL_mem.1 hym).2
          rw [Nat.testBit_and, Bool.and_eq_true] at hyb
          have hxd := (itemsL_mem.1 hxm).2
          have hx32 := hs.dn32 hxd
          have hy32 := hs.dn32 hyb.2
          have htold := hgt x y hxd hyb.2 (by rw [← outs_bit]; exact hyb.1)
          have hga := ids_at hw hx32
          have hgb := ids_at hw hy32
          refine Run.ops1 (ld := []) rfl ?_
          repeat (first | ((refine wl rfl rfl ?_ ?_); try (first | exact trivial | ((repeat' apply And.intro) <;> first | exact trivial | exact rfl | omega | (simp; done) | (simp; omega)) | exact pd_fa (by assumption) rfl (by decide))))
          · exact ⟨rfl, rfl, by rw [ints_len]; exact hw.ids, by omega, by omega⟩
          refine wn (Ev.ldBox rfl (adrOf_sound rfl) (ld_ok (T := 3) hga rfl).1 (ld_ok (T := 3) hga rfl).2) rfl ?_
          first | refine OpsAt.say (d := 101) rfl (y := .v (.int .i64 (p.ids.getD x 0))) (hga) ?_ | refine Run.say (d := 101) rfl (y := .v (.int .i64 (p.ids.getD x 0))) (hga) ?_ | refine OpsR.say (q := 101) rfl (y := .v (.int .i64 (p.ids.getD x 0))) (hga) ?_ | refine OpsB.say (d := 101) rfl (y := .v (.int .i64 (p.ids.getD x 0))) (hga) ?_
          refine wn (ev_plc rfl rfl rfl rfl) rfl ?_
          repeat (first | ((refine wl rfl rfl ?_ ?_); try (first | exact trivial | ((repeat' apply And.intro) <;> first | exact trivial | exact rfl | omega | (simp; done) | (simp; omega)) | exact pd_fa (by assumption) rfl (by decide))))
          · exact ⟨rfl, rfl, by rw [ints_len]; exact hw.ids, by omega, by omega⟩
          refine wn (Ev.ldBox rfl (adrOf_sound rfl) (ld_ok (T := 3) hgb rfl).1 (ld_ok (T := 3) hgb rfl).2) rfl ?_
          first | refine OpsAt.say (d := 107) rfl (y := .v (.int .i64 (p.ids.getD y 0))) (hgb) ?_ | refine Run.say (d := 107) rfl (y := .v (.int .i64 (p.ids.getD y 0))) (hgb) ?_ | refine OpsR.say (q := 107) rfl (y := .v (.int .i64 (p.ids.getD y 0))) (hgb) ?_ | refine OpsB.say (d := 107) rfl (y := .v (.int .i64 (p.ids.getD y 0))) (hgb) ?_
          refine wn (ev_plc rfl rfl rfl rfl) rfl ?_
          obtain ⟨xa, hxa⟩ : ∃ z, z = plc 0 gone (p.ids.getD x 0) := ⟨_, rfl⟩
          obtain ⟨yb, hyb2⟩ : ∃ z, z = plc 0 gone (p.ids.getD y 0) := ⟨_, rfl⟩
          rw [← hxa, ← hyb2] at htold ⊢
          repeat (first | refine wa ?_ | refine wb ?_ | refine wc ?_ | ((first | refine wl rfl rfl ?_ ?_ | refine wn (wp rfl rfl rfl rfl rfl ?_) rfl ?_); try (first | ((repeat' apply And.intro) <;> first | exact trivial | exact rfl | omega | (simp; done) | (simp; omega)))))
          by_cases hy0 : 0 < yb
          · have hx1 : 0 < xa ∧ xa ≤ yb := by rcases htold with h | h <;> omega
            first | refine OpsAt.say (d := 111) rfl (y := .v (.bool true)) (by show D.v (.bool (decide (yb > 0))) = _; rw [decide_eq_true hy0]) ?_ | refine Run.say (d := 111) rfl (y := .v (.bool true)) (by show D.v (.bool (decide (yb > 0))) = _; rw [decide_eq_true hy0]) ?_ | refine OpsR.say (q := 111) rfl (y := .v (.bool true)) (by show D.v (.bool (decide (yb > 0))) = _; rw [decide_eq_true hy0]) ?_ | refine OpsB.say (d := 111) rfl (y := .v (.bool true)) (by show D.v (.bool (decide (yb > 0))) = _; rw [decide_eq_true hy0]) ?_
            repeat (first | ((first | refine wm rfl rfl rfl ?_ ?_ | refine wo rfl (wp rfl rfl rfl rfl rfl ?_) rfl ?_); try (first | ((repeat' apply And.intro) <;> first | exact trivial | exact rfl | omega | (simp; done) | (simp; omega)))))
            first | refine OpsAt.say (d := 114) rfl (y := .v (.bool false)) (by show D.v (.bool (xa == 0)) = _; rw [show (xa == 0) = false by simp only [beq_eq_false_iff_ne, ne_eq]; omega]) ?_ | refine Run.say (d := 114) rfl (y := .v (.bool false)) (by show D.v (.bool (xa == 0)) = _; rw [show (xa == 0) = false by simp only [beq_eq_false_iff_ne, ne_eq]; omega]) ?_ | refine OpsR.say (q := 114) rfl (y := .v (.bool false)) (by show D.v (.bool (xa == 0)) = _; rw [show (xa == 0) = false by simp only [beq_eq_false_iff_ne, ne_eq]; omega]) ?_ | refine OpsB.say (d := 114) rfl (y := .v (.bool false)) (by show D.v (.bool (xa == 0)) = _; rw [show (xa == 0) = false by simp only [beq_eq_false_iff_ne, ne_eq]; omega]) ?_
            repeat (first | refine wb ?_ | ((first | refine wl rfl rfl ?_ ?_ | refine wm rfl rfl rfl ?_ ?_ | refine wo rfl (wp rfl rfl rfl rfl rfl ?_) rfl ?_); try (first | ((repeat' apply And.intro) <;> first | exact trivial | exact rfl | omega | (simp; done) | (simp; omega)))))
            first | refine OpsAt.say (d := 119) rfl (y := .v (.bool false)) (by show D.v (.bool (decide (xa > yb))) = _; rw [decide_eq_false (by omega)]) ?_ | refine Run.say (d := 119) rfl (y := .v (.bool false)) (by show D.v (.bool (decide (xa > yb))) = _; rw [decide_eq_false (by omega)]) ?_ | refine OpsR.say (q := 119) rfl (y := .v (.bool false)) (by show D.v (.bool (decide (xa > yb))) = _; rw [decide_eq_false (by omega)]) ?_ | refine OpsB.say (d := 119) rfl (y := .v (.bool false)) (by show D.v (.bool (decide (xa > yb))) = _; rw [decide_eq_false (by omega)]) ?_
            repeat (first | refine wb ?_ | refine wc ?_ | refine we ?_ | refine wf ?_ | ((first | refine wl rfl rfl ?_ ?_ | refine wn (wp rfl rfl rfl rfl rfl ?_) rfl ?_ | refine wu rfl ?_ ?_); try (first | ((repeat' apply And.intro) <;> first | exact trivial | exact rfl | omega | (simp; done) | (simp; omega)))))
            first | refine OpsAt.say (d := 93) rfl (y := .v (.int .i64 ((pr2 ++ [y]).length : Nat))) (by rw [wrap64_in ((pr2.length : Int) + 1) (by omega)]; simp) ?_ | refine Run.say (d := 93) rfl (y := .v (.int .i64 ((pr2 ++ [y]).length : Nat))) (by rw [wrap64_in ((pr2.length : Int) + 1) (by omega)]; simp) ?_ | refine OpsR.say (q := 93) rfl (y := .v (.int .i64 ((pr2 ++ [y]).length : Nat))) (by rw [wrap64_in ((pr2.length : Int) + 1) (by omega)]; simp) ?_ | refine OpsB.say (d := 93) rfl (y := .v (.int .i64 ((pr2 ++ [y]).length : Nat))) (by rw [wrap64_in ((pr2.length : Int) + 1) (by omega)]; simp) ?_
            refine Run.keep [4, 5, 11, 15, 59, 78, 79, 80, 91, 92, 93] rfl ?_
            exact ih2 (pr2 ++ [y], po2) (by simp [hp2]) (by simp)
          first | refine OpsAt.say (d := 111) rfl (y := .v (.bool false)) (by show D.v (.bool (decide (yb > 0))) = _; rw [decide_eq_false hy0]) ?_ | refine Run.say (d := 111) rfl (y := .v (.bool false)) (by show D.v (.bool (decide (yb > 0))) = _; rw [decide_eq_false hy0]) ?_ | refine OpsR.say (q := 111) rfl (y := .v (.bool false)) (by show D.v (.bool (decide (yb > 0))) = _; rw [decide_eq_false hy0]) ?_ | refine OpsB.say (d := 111) rfl (y := .v (.bool false)) (by show D.v (.bool (decide (yb > 0))) = _; rw [decide_eq_false hy0]) ?_
          repeat (first | refine wb ?_ | refine wc ?_ | refine we ?_ | refine wf ?_ | ((first | refine wl rfl rfl ?_ ?_ | refine wn (wp rfl rfl rfl rfl rfl ?_) rfl ?_ | refine wu rfl ?_ ?_); try (first | ((repeat' apply And.intro) <;> first | exact trivial | exact rfl | omega | (simp; done) | (simp; omega)))) | refine ws rfl rfl ?_)
          first | refine OpsAt.say (d := 93) rfl (y := .v (.int .i64 ((pr2 ++ [y]).length : Nat))) (by rw [wrap64_in ((pr2.length : Int) + 1) (by omega)]; simp) ?_ | refine Run.say (d := 93) rfl (y := .v (.int .i64 ((pr2 ++ [y]).length : Nat))) (by rw [wrap64_in ((pr2.length : Int) + 1) (by omega)]; simp) ?_ | refine OpsR.say (q := 93) rfl (y := .v (.int .i64 ((pr2 ++ [y]).length : Nat))) (by rw [wrap64_in ((pr2.length : Int) + 1) (by omega)]; simp) ?_ | refine OpsB.say (d := 93) rfl (y := .v (.int .i64 ((pr2 ++ [y]).length : Nat))) (by rw [wrap64_in ((pr2.length : Int) + 1) (by omega)]; simp) ?_
          refine Run.keep [4, 5, 11, 15, 59, 78, 79, 80, 91, 92, 93] rfl ?_
          exact ih2 (pr2 ++ [y], po2) (by simp [hp2]) (by simp)
      refine Run.keep [4, 5, 11, 59, 78, 79, 80] rfl ?_
      repeat (first | refine wb ?_ | refine wc ?_ | refine we ?_ | ((first | refine wl rfl rfl ?_ ?_ | refine wn (wp rfl rfl rfl rfl rfl ?_) rfl ?_); try (first | ((repeat' apply And.intro) <;> first | exact trivial | exact rfl | omega | (simp; done) | (simp; omega)))) | refine wj rfl ?_)
      first | refine OpsAt.say (d := 80) rfl (y := .v (.int .i64 ((pr1 ++ [x]).length : Nat))) (by rw [wrap64_in ((pr1.length : Int) + 1) (by omega)]; simp) ?_ | refine Run.say (d := 80) rfl (y := .v (.int .i64 ((pr1 ++ [x]).length : Nat))) (by rw [wrap64_in ((pr1.length : Int) + 1) (by omega)]; simp) ?_ | refine OpsR.say (q := 80) rfl (y := .v (.int .i64 ((pr1 ++ [x]).length : Nat))) (by rw [wrap64_in ((pr1.length : Int) + 1) (by omega)]; simp) ?_ | refine OpsB.say (d := 80) rfl (y := .v (.int .i64 ((pr1 ++ [x]).length : Nat))) (by rw [wrap64_in ((pr1.length : Int) + 1) (by omega)]; simp) ?_
      refine Run.keep [4, 5, 11, 59, 78, 79, 80] rfl ?_
      exact ih1 (pr1 ++ [x], po1) (by simp [hp1]) (by simp)
  repeat (first | refine wa ?_ | refine wb ?_ | refine wc ?_ | ((refine wl rfl rfl ?_ ?_); try (first | exact trivial)) | refine wj rfl ?_)
  exact wD (wE rfl rfl rfl)
end Go.Proofs.YtaflihoopnjcgaaDoor

namespace Go.Proofs.YtaflihoopnjcgaaDoor.rowPoolGoes
open Go Go.Dat
open Go.ChangeShapes Go.WideShapes Go.ChangeAt Go.RowKit

theorem same : Rows.poolGoesRow.laid = one := rfl
theorem own : ownKnob Tryd.prog.godebug = none := by kernel_rfl
theorem laidOut : laidOutB Tryd.prog = true := by kernel_rfl

set_option maxRecDepth 100000 in
theorem lifted (os : Os) (started : os.Started) (H : Type) (enc : TypeId × Value → H) :
    ReturnsInHanded {} Tryd.checked os 4 .any (fun w args => (Rows.poolGoesSpec.pre enc Tryd.prog Tryd.f4 [] false w args ∧ laidMetH Tryd.prog one w) ∧ sizedMet enc Tryd.prog Tryd.f4 (OpenSpec.ofChange Rows.poolGoesSpec) false w args)
      (Rows.poolGoesSpec.post enc Tryd.prog Tryd.f4 false true false false) := by
  refine returnsInHanded_of_change_and (C := Tryd.checked) (X := fun w _ => laidMetH Tryd.prog one w) (fun _ _ _ hh h => h.of_heap hh) own started (by kernel_rfl) Tryd.func4
    (ChangeSpec.witness_shaped (enc := enc) (C := Tryd.checked) (os := os) (X := fun w _ => laidMetH Tryd.prog one w) false (World.laidAll Tryd.prog os one) #[.int .u8 0, .slice none 0 0] 8 (World.laidAll_os _ _ _) (World.shaped_of_ZipB (by kernel_rfl) (by kernel_rfl)) (by kernel_rfl) (by kernel_rfl) (by kernel_rfl) (one_met os _)) ?_
  intro W base args ds gs before hval0 hW _ _ hL _
  obtain ⟨tdom, tab⟩ := one_gives hL
  have hval : ∀ (j : Nat) t v, Tryd.f4.params[j]? = some t → args[j]? = some v → Value.okWide Tryd.prog W .any base t v := hval0
  have hW' := hW
  obtain ⟨p, q, hA0, hV, rfl, hfz, hnd⟩ := hW
  have hA : DataW.TrodAll enc Tryd.prog W 0 (fun _ => true) true Tryd.f4.params.toList args.toList ds p := hA0
  rw [Tryd.params4] at hA hval
  obtain ⟨v0, vs0, d0, ds0, p0, q0, hargs, rfl, rfl, h0, r0⟩ := trodAll_cons hA
  obtain ⟨v1, vs1, d1, ds1, p1, q1, rfl, rfl, rfl, h1, r1⟩ := trodAll_cons r0
  obtain ⟨rfl, rfl, rfl⟩ := trodAll_nil r1
  obtain rfl : args = #[v0, v1] := by cases args; simp_all
  obtain ⟨rfl, rfl⟩ := trodVars_none hV
  have lt0 : ∀ x ∈ p0, x.block < W.heap.size := by obtain ⟨m, hm⟩ := h0; exact DataW.trod_lt m _ _ _ hm
  obtain ⟨a0, e0⟩ := pU8.argI (fun _ => rfl) Tryd.underlying5 (hval 0 5 v0 rfl rfl) h0
  have lt1 : ∀ x ∈ p1, x.block < W.heap.size := by obtain ⟨m, hm⟩ := h1; exact DataW.trod_lt m _ _ _ hm
  obtain ⟨a1, e1⟩ := pActs.argSl (fun _ => rfl) Tryd.underlying22 (hval 1 22 v1 rfl rfl) h1
  have hrpv : Rpv (fun b => b < W.heap.size) W [.v (.int .u8 a0.1), .lst .any 3 (ads a1.1)] [v0, v1] := (Rpv.ofCons e0 (Rpv.ofCons e1 Rpv.ofNil))
  clear hA0 hval0
  refine ((c_PoolGoes a0.1 a1.1 (okU8 a0.2) a1.2).walk ⟨tdom, tab⟩ hrpv).mono fun e W' ⟨he, bel⟩ => ?_
  subst he
  exact ⟨_, rfl, _, _, _, [], _, [], hW', trodAll_mk1 (shut_bool Tryd.underlying4 _), (trodAll_cons_mk (Below.trod laidOut (by kernel_rfl) (of_decide_eq_true (by kernel_rfl)) h0 bel lt0) (trodAll_cons_mk (Below.trod laidOut (by kernel_rfl) (of_decide_eq_true (by kernel_rfl)) h1 bel lt1) trodAll_mk0)), rfl, bel.frame _, fun h => by cases h⟩

theorem over : Rows.poolGoesRow.holds Tryd.pinned (OpenSpec.ofChange Rows.poolGoesSpec) :=
  OpenClaim.holds_of_wide 4 Tryd.f4 rfl rfl rfl rfl rfl rfl rfl ⟨rfl, rfl, rfl, rfl, rfl⟩ rfl rfl rfl rfl rfl (by kernel_rfl) Tryd.func4 (by kernel_rfl)
    (of_decide_eq_true (by kernel_rfl)) (by unfold Func.isWrapper; first | (rw [if_pos (by decide +kernel)]; kernel_rfl) | (rw [if_neg (by decide +kernel)]; exact ⟨rfl, rfl⟩))
    (fun os started H enc _ => lifted os started H enc)

theorem proved : Rows.PoolGoesSaid := over
end Go.Proofs.YtaflihoopnjcgaaDoor.rowPoolGoes

namespace Go.Proofs.YtaflihoopnjcgaaDoor.cardPoolGoes
open Go

theorem proved : Rows.PoolGoesCardSaid :=
  Claim7.holds_tied_plain_at .later [] [.data] true (true, "35591b53fd09d4d5934b113e4c7e45025bbae91d012d3ef1f358135f0f8ec358") false
    rowPoolGoes.proved (fun _ h => by cases h) (by kernel_rfl) (fun _ h => by cases h) poolGoes_row_tie rfl ⟨rfl, rfl⟩ (by kernel_rfl) rfl
    (fun f fn hf hfn => by
      obtain rfl : f = 4 := Option.some.inj ((show Tryd.prog.funcNamed "warpbeam/warpbeamlaw05.PoolGoes" = some 4 by kernel_rfl).symm.trans hf) |>.symm
      obtain rfl : fn = Tryd.f4 := (Option.some.inj (Tryd.func4.symm.trans hfn)).symm
      exact ⟨by kernel_rfl, fun j t ht => by
        rw [Tryd.params4] at ht
        have hm : t ∈ [5, 22] := by simpa using Array.mem_of_getElem? ht
        have hall : ([5, 22].all fun u => !Tryd.prog.wantsStandIn u) = true := by kernel_rfl
        exact (show Tryd.prog.wantsStandIn t = false by simpa using List.all_eq_true.1 hall t hm)⟩)
    (by kernel_rfl)
end Go.Proofs.YtaflihoopnjcgaaDoor.cardPoolGoes
