/- Texts S11, S12, S13, S14, S15, S16, S17, S18, S19 in one file. No conditions. -/
import Derived.Test.YtaflihoopnjcgaaDoorTA
import Derived.Deep.QuietTactic
import Derived.Sort.LotA
import Derived.WalkKit

namespace Go.Proofs.YtaflihoopnjcgaaDoor
open Go Go.Dat

theorem c_refNew : DFun Tryd.prog 30 [] (ord (upto 32)) := by
  refine DFun.ofRun agree mixed Tryd.func30 rfl rfl ?_
  repeat (first | refine wa ?_ | refine wb ?_ | refine wc ?_ | refine wd ?_ | ((refine wl rfl rfl ?_ ?_); try (first | exact trivial | ((repeat' apply And.intro) <;> first | exact trivial | exact rfl | omega | (simp; done) | (simp; omega)))))
  refine Run.keep [0, 1, 2] rfl ?_
  refine Run.at (l' := [(0, .box (ord (upto 0))), (1, .box (ord (upto 0))), (2, .d (.v (.int .i64 (0 : Nat))))]) rfl ?_
  refine Run.loopL (α := Nat) (fun i => i ≤ 32) (fun i => [(0, .box (ord (upto 0))), (1, .box (ord (upto i))), (2, .d (.v (.int .i64 i)))]) (fun i => 32 - i) 0 (by decide) ?_
  intro i hi ih
  repeat (first | refine wa ?_ | refine wb ?_ | refine wc ?_ | ((first | refine wl rfl rfl ?_ ?_ | refine wn (wp rfl rfl rfl rfl rfl ?_) rfl ?_); try (first | ((repeat' apply And.intro) <;> first | exact trivial | exact rfl | omega | (simp; done) | (simp; omega)))))
  refine Run.condB rfl rfl (fun hb => ?_) (fun hb => ?_)
  · have hi2 : i < 32 := by simp at hb; omega
    repeat (first | refine wa ?_ | refine wc ?_ | refine wd ?_ | refine wf ?_ | ((refine wl rfl rfl ?_ ?_); try (first | ((repeat' apply And.intro) <;> first | exact trivial | exact rfl | omega | (simp; done) | (simp; omega)))))
    refine wv rfl rfl rfl (ord_sto (by rw [upto_len]; exact hi2) rfl) rfl ?_
    repeat (first | refine wb ?_ | refine wc ?_ | refine we ?_ | ((first | refine wl rfl rfl ?_ ?_ | refine wn (wp rfl rfl rfl rfl rfl ?_) rfl ?_); try (first | ((repeat' apply And.intro) <;> first | exact trivial | exact rfl | omega | (simp; done) | (simp; omega)))))
    first | refine OpsAt.sayB (d := 1) rfl (y := ord (upto (i + 1))) ((ord_set (upto i) i i).trans (by rw [upto_set i hi2])) ?_ | refine Run.sayB (d := 1) rfl (y := ord (upto (i + 1))) ((ord_set (upto i) i i).trans (by rw [upto_set i hi2])) ?_
    first | refine OpsAt.say (d := 2) rfl (y := .v (.int .i64 (i + 1 : Nat))) (by rw [wrap64_in ((i : Int) + 1) (by omega)]; simp) ?_ | refine Run.say (d := 2) rfl (y := .v (.int .i64 (i + 1 : Nat))) (by rw [wrap64_in ((i : Int) + 1) (by omega)]; simp) ?_ | refine OpsR.say (q := 2) rfl (y := .v (.int .i64 (i + 1 : Nat))) (by rw [wrap64_in ((i : Int) + 1) (by omega)]; simp) ?_ | refine OpsB.say (d := 2) rfl (y := .v (.int .i64 (i + 1 : Nat))) (by rw [wrap64_in ((i : Int) + 1) (by omega)]; simp) ?_
    refine Run.keep [0, 1, 2] rfl ?_
    exact ih (i + 1) (by omega) (by omega)
  · have hi2 : i = 32 := by simp at hb; omega
    subst hi2
    repeat (first | refine wa ?_ | refine wb ?_ | refine wc ?_ | ((first | refine wl rfl rfl ?_ ?_ | refine wv rfl rfl ?_ rfl rfl ?_); try (first | ((repeat' apply And.intro) <;> first | exact trivial | exact rfl | omega | (simp; done) | (simp; omega)))) | refine wj rfl ?_)
    exact wD (Ends.cellE agree rfl rfl rfl rfl)

def cpTo (g : List Nat) (i : Nat) : List Nat := (List.range 32).map fun j => if j < i then g.getD j 0 else 0
theorem cpTo_len (g : List Nat) (i : Nat) : (cpTo g i).length = 32 := by simp [cpTo]
theorem cpTo_set (g : List Nat) (i : Nat) (hi : i < 32) : (cpTo g i).set i (g.getD i 0) = cpTo g (i + 1) := by
  apply List.ext_getElem?
  intro j
  rw [List.getElem?_set]
  by_cases h1 : i = j
  · subst h1
    simp [cpTo, hi]
  · simp only [h1, if_false, cpTo, List.getElem?_map]
    by_cases h2 : j < 32
    · have h3 : j < i ↔ j < i + 1 := by omega
      simp [h2, h3]
    · simp [h2]
theorem cpTo_all {g : List Nat} (h : g.length = 32) : cpTo g 32 = g := by
  apply List.ext_getElem?
  intro j
  simp only [cpTo, List.getElem?_map]
  by_cases h2 : j < 32
  · simp [h2, h]
  · simp [h2, h]

theorem c_Ours (g : List Nat) (hg : gok g) : DFun Tryd.prog 31 [gr g] (gr g) := by
  refine DFun.ofRun agree mixed Tryd.func31 rfl rfl ?_
  repeat (first | refine wa ?_ | refine wc ?_ | ((refine wl rfl rfl ?_ ?_)))
  · exact gr_pl g
  repeat (first | refine wa ?_ | refine wb ?_ | refine wc ?_ | ((refine wl rfl rfl ?_ ?_); try (first | ((repeat' apply And.intro) <;> first | exact trivial | exact rfl | omega | (simp; done) | (simp; omega)))))
  · exact ⟨gr_fits hg.1 rfl, gr_pl g⟩
  repeat (first | refine wb ?_ | refine wd ?_ | ((refine wl rfl rfl ?_ ?_); try (first | exact trivial)))
  refine Run.keep [2, 3, 6, 7] rfl ?_
  refine Run.at (l' := [(2, .box (gr (cpTo g 0))), (3, .box (gr (cpTo g 0))), (6, .d (gr g)), (7, .d (.v (.int .i64 (0 : Nat))))]) rfl ?_
  refine Run.loopL (α := Nat) (fun i => i ≤ 32) (fun i => [(2, .box (gr (cpTo g 0))), (3, .box (gr (cpTo g i))), (6, .d (gr g)), (7, .d (.v (.int .i64 i)))]) (fun i => 32 - i) 0 (by decide) ?_
  intro i hi ih
  repeat (first | refine wa ?_ | refine wb ?_ | refine wc ?_ | ((refine wn (wp rfl rfl rfl rfl rfl ?_) rfl ?_); try (first | ((repeat' apply And.intro) <;> first | exact trivial | exact rfl | omega | (simp; done) | (simp; omega)))))
  refine Run.condB rfl rfl (fun hb => ?_) (fun hb => ?_)
  · have hi2 : i < 32 := by simp at hb; omega
    have hgi : (sets g).getD ((i : Int)).toNat un = S (g.getD i 0) := by simp [sets, hg.1, hi2]
    repeat (first | refine wa ?_ | refine wc ?_ | refine wd ?_ | refine wf ?_ | ((refine wl rfl rfl ?_ ?_); try (first | ((repeat' apply And.intro) <;> first | exact trivial | exact rfl | omega | (simp; done) | (simp; omega)))))
    refine wn (Ev.arrIx (e := 25) (es := 1) (ds := sets g) (y := S (g.getD i 0)) agree rfl rfl rfl ?_ hgi rfl ⟨gr_pl g, rfl, by omega, by rw [sets_len, hg.1]; omega⟩) rfl ?_
    · rw [sets_len, hg.1]; rfl
    repeat (first | refine wb ?_ | refine wc ?_ | ((refine wl rfl rfl ?_ ?_); try (first | ((repeat' apply And.intro) <;> first | exact trivial | exact rfl | omega | (simp; done) | (simp; omega)))))
    refine wv rfl rfl rfl (gr_sto (by rw [cpTo_len]; exact hi2) rfl) rfl ?_
    repeat (first | refine wb ?_ | refine wc ?_ | refine we ?_ | ((first | refine wl rfl rfl ?_ ?_ | refine wn (wp rfl rfl rfl rfl rfl ?_) rfl ?_); try (first | ((repeat' apply And.intro) <;> first | exact trivial | exact rfl | omega | (simp; done) | (simp; omega)))))
    first | refine OpsAt.sayB (d := 3) rfl (y := gr (cpTo g (i + 1))) ((gr_set (cpTo g i) i (g.getD i 0)).trans (by rw [cpTo_set g i hi2])) ?_ | refine Run.sayB (d := 3) rfl (y := gr (cpTo g (i + 1))) ((gr_set (cpTo g i) i (g.getD i 0)).trans (by rw [cpTo_set g i hi2])) ?_
    first | refine OpsAt.say (d := 7) rfl (y := .v (.int .i64 (i + 1 : Nat))) (by rw [wrap64_in ((i : Int) + 1) (by omega)]; simp) ?_ | refine Run.say (d := 7) rfl (y := .v (.int .i64 (i + 1 : Nat))) (by rw [wrap64_in ((i : Int) + 1) (by omega)]; simp) ?_ | refine OpsR.say (q := 7) rfl (y := .v (.int .i64 (i + 1 : Nat))) (by rw [wrap64_in ((i : Int) + 1) (by omega)]; simp) ?_ | refine OpsB.say (d := 7) rfl (y := .v (.int .i64 (i + 1 : Nat))) (by rw [wrap64_in ((i : Int) + 1) (by omega)]; simp) ?_
    refine Run.keep [2, 3, 6, 7] rfl ?_
    exact ih (i + 1) (by omega) (by omega)
  · have hi2 : i = 32 := by simp at hb; omega
    subst hi2
    repeat (first | refine wa ?_ | refine wb ?_ | refine wc ?_ | ((first | refine wl rfl rfl ?_ ?_ | refine wv rfl rfl ?_ rfl rfl ?_); try (first | ((repeat' apply And.intro) <;> first | exact trivial | exact rfl | omega | (simp; done) | (simp; omega)))) | refine wj rfl ?_)
    exact wD (Ends.cellE agree rfl rfl (by rfl) (congrArg gr (cpTo_all hg.1)))
end Go.Proofs.YtaflihoopnjcgaaDoor

namespace Go.Proofs.YtaflihoopnjcgaaDoor
open Go Go.Dat

theorem c_refNode (i : Int) : DFun Tryd.prog 63 [.v (.int .i64 i)] (.v (.bool (nodeN i))) := by
  refine DFun.ofRun agree mixed Tryd.func63 rfl rfl ?_
  repeat (first | refine wa ?_ | refine wb ?_ | refine wc ?_ | ((first | refine wl rfl rfl ?_ ?_ | refine wn (wp rfl rfl rfl rfl rfl ?_) rfl ?_); try (first | exact trivial | ((repeat' apply And.intro) <;> first | exact trivial | exact rfl | omega | (simp; done) | (simp; omega)))))
  refine OpsAt.br rfl rfl rfl (fun h1 => ?_) (fun h1 => ?_)
  · have h1' : 0 ≤ i := of_decide_eq_true h1
    repeat (first | refine wb ?_ | ((first | refine wl rfl rfl ?_ ?_ | refine wm rfl rfl rfl ?_ ?_ | refine wo rfl (wp rfl rfl rfl rfl rfl ?_) rfl ?_); try (first | ((repeat' apply And.intro) <;> first | exact trivial | exact rfl | omega | (simp; done) | (simp; omega)))))
    refine wD (wE rfl rfl ?_)
    simp [nodeN, h1']
  · have h1' : ¬ 0 ≤ i := of_decide_eq_false h1
    repeat (first | refine wb ?_ | ((refine wl rfl rfl ?_ ?_); try (first | ((repeat' apply And.intro) <;> first | exact trivial | exact rfl | omega | (simp; done) | (simp; omega)))) | refine ws rfl rfl ?_)
    refine wD (wE rfl rfl ?_)
    simp [nodeN, h1']

theorem c_power (n : Nat) (hn : n < 64) : DFun Tryd.prog 62 [.v (.int .i64 n)] (S (2 ^ n)) := by
  refine DFun.ofRun agree mixed Tryd.func62 rfl rfl ?_
  repeat (first | refine wa ?_ | refine wb ?_ | refine wc ?_ | refine wd ?_ | ((refine wl rfl rfl ?_ ?_); try (first | exact trivial)))
  refine Run.keep [0, 3, 4] rfl ?_
  refine Run.at (l' := [(0, .d (.v (.int .i64 n))), (3, .d (S (2 ^ 0))), (4, .d (.v (.int .i64 (0 : Nat))))]) rfl ?_
  refine Run.loopL (α := Nat) (fun i => i ≤ n) (fun i => [(0, .d (.v (.int .i64 n))), (3, .d (S (2 ^ i))), (4, .d (.v (.int .i64 i)))]) (fun i => n - i) 0 (Nat.zero_le _) ?_
  intro i hi ih
  repeat (first | refine wa ?_ | refine wb ?_ | refine wc ?_ | ((first | refine wl rfl rfl ?_ ?_ | refine wn (wp rfl rfl rfl rfl rfl ?_) rfl ?_); try (first | ((repeat' apply And.intro) <;> first | exact trivial | exact rfl | omega | (simp; done) | (simp; omega)))))
  refine Run.condB rfl rfl (fun hb => ?_) (fun hb => ?_)
  · have hi2 : i < n := by simp at hb; omega
    have hlt : 2 ^ (i + 1) < M64 := Nat.pow_lt_pow_right (a := 2) (by decide) (show i + 1 < 64 by omega)
    have he : IntKind.u64.wrap (((2 ^ i : Nat) : Int) * 2) = ((2 ^ (i + 1) : Nat) : Int) := by
      rw [show ((2 ^ i : Nat) : Int) * 2 = ((2 ^ (i + 1) : Nat) : Int) by rw [Nat.pow_succ]; simp]
      exact u64_in hlt
    repeat (first | refine wa ?_ | refine wb ?_ | refine wc ?_ | refine wd ?_ | refine we ?_ | refine wf ?_ | ((first | refine wl rfl rfl ?_ ?_ | refine wn (wp rfl rfl rfl rfl rfl ?_) rfl ?_); try (first | ((repeat' apply And.intro) <;> first | exact trivial | exact rfl | omega | (simp; done) | (simp; omega)))))
    first | refine OpsAt.say (d := 3) rfl (y := S (2 ^ (i + 1))) (congrArg (fun z => D.v (.int .u64 z)) he) ?_ | refine Run.say (d := 3) rfl (y := S (2 ^ (i + 1))) (congrArg (fun z => D.v (.int .u64 z)) he) ?_ | refine OpsR.say (q := 3) rfl (y := S (2 ^ (i + 1))) (congrArg (fun z => D.v (.int .u64 z)) he) ?_ | refine OpsB.say (d := 3) rfl (y := S (2 ^ (i + 1))) (congrArg (fun z => D.v (.int .u64 z)) he) ?_
    first | refine OpsAt.say (d := 4) rfl (y := .v (.int .i64 (i + 1 : Nat))) (by rw [wrap64_in ((i : Int) + 1) (by omega)]; simp) ?_ | refine Run.say (d := 4) rfl (y := .v (.int .i64 (i + 1 : Nat))) (by rw [wrap64_in ((i : Int) + 1) (by omega)]; simp) ?_ | refine OpsR.say (q := 4) rfl (y := .v (.int .i64 (i + 1 : Nat))) (by rw [wrap64_in ((i : Int) + 1) (by omega)]; simp) ?_ | refine OpsB.say (d := 4) rfl (y := .v (.int .i64 (i + 1 : Nat))) (by rw [wrap64_in ((i : Int) + 1) (by omega)]; simp) ?_
    refine Run.keep [0, 3, 4] rfl ?_
    exact ih (i + 1) (by omega) (by omega)
  · have hi2 : i = n := by simp at hb; omega
    subst hi2
    repeat (first | refine wa ?_ | refine wb ?_ | refine wc ?_ | ((refine wl rfl rfl ?_ ?_); try (first | ((repeat' apply And.intro) <;> first | exact trivial | exact rfl | omega | (simp; done) | (simp; omega)))) | refine wj rfl ?_)
    exact wD (wE rfl rfl rfl)

theorem c_refHas (s : Nat) (i : Int) (h : s < M64) : DFun Tryd.prog 39 [S s, .v (.int .i64 i)] (.v (.bool (hasN s i))) := by
  refine DFun.ofRun agree mixed Tryd.func39 rfl rfl ?_
  repeat (first | refine wa ?_ | refine wb ?_ | refine wc ?_ | ((first | refine wl rfl rfl ?_ ?_ | refine wn (wp rfl rfl rfl rfl rfl ?_) rfl ?_); try (first | exact trivial | ((repeat' apply And.intro) <;> first | exact trivial | exact rfl | omega | (simp; done) | (simp; omega)))))
  refine OpsAt.br rfl rfl rfl (fun h1 => ?_) (fun h1 => ?_)
  · have h1' : 0 ≤ i := of_decide_eq_true h1
    obtain ⟨n, rfl⟩ := Int.eq_ofNat_of_zero_le h1'
    repeat (first | ((first | refine wl rfl rfl ?_ ?_ | refine wm rfl rfl rfl ?_ ?_ | refine wo rfl (wp rfl rfl rfl rfl rfl ?_) rfl ?_); try (first | ((repeat' apply And.intro) <;> first | exact trivial | exact rfl | omega | (simp; done) | (simp; omega)))))
    first | refine OpsAt.say (d := 11) rfl (y := .v (.bool (decide ((n : Int) < 64)))) (rfl) ?_ | refine Run.say (d := 11) rfl (y := .v (.bool (decide ((n : Int) < 64)))) (rfl) ?_ | refine OpsR.say (q := 11) rfl (y := .v (.bool (decide ((n : Int) < 64)))) (rfl) ?_ | refine OpsB.say (d := 11) rfl (y := .v (.bool (decide ((n : Int) < 64)))) (rfl) ?_
    refine OpsAt.br rfl rfl rfl (fun h2 => ?_) (fun h2 => ?_)
    · have h2' : n < 64 := by have := of_decide_eq_true h2; omega
      repeat (first | ((refine wm rfl rfl rfl ?_ ?_); try (first | ((repeat' apply And.intro) <;> first | exact trivial | exact rfl | omega | (simp; done) | (simp; omega)))))
      refine wo rfl (wA rfl rfl rfl (by repeat' (first | exact trivial | exact rfl | assumption | apply And.intro)) (callable (by decide)) (c_power n h2')) rfl ?_
      repeat (first | ((refine wo rfl (wp rfl rfl rfl rfl rfl ?_) rfl ?_)))
      · exact ⟨rfl, rfl, by have := Nat.two_pow_pos n; omega⟩
      first | refine OpsAt.say (d := 15) rfl (y := S (s / 2 ^ n)) (by rw [← Int.ofNat_tdiv]; exact congrArg (fun z => D.v (.int .u64 z)) (u64_in (Nat.lt_of_le_of_lt (Nat.div_le_self _ _) h))) ?_ | refine Run.say (d := 15) rfl (y := S (s / 2 ^ n)) (by rw [← Int.ofNat_tdiv]; exact congrArg (fun z => D.v (.int .u64 z)) (u64_in (Nat.lt_of_le_of_lt (Nat.div_le_self _ _) h))) ?_ | refine OpsR.say (q := 15) rfl (y := S (s / 2 ^ n)) (by rw [← Int.ofNat_tdiv]; exact congrArg (fun z => D.v (.int .u64 z)) (u64_in (Nat.lt_of_le_of_lt (Nat.div_le_self _ _) h))) ?_ | refine OpsB.say (d := 15) rfl (y := S (s / 2 ^ n)) (by rw [← Int.ofNat_tdiv]; exact congrArg (fun z => D.v (.int .u64 z)) (u64_in (Nat.lt_of_le_of_lt (Nat.div_le_self _ _) h))) ?_
      repeat (first | refine wb ?_ | ((first | refine wl rfl rfl ?_ ?_ | refine wo rfl (wp rfl rfl rfl rfl rfl ?_) rfl ?_); try (first | ((repeat' apply And.intro) <;> first | exact trivial | exact rfl | omega | (simp; done) | (simp; omega)))))
      refine wD (wE rfl rfl ?_)
      have hsm : small (n : Int) = true := by simp [small]; omega
      have hm : (((s / 2 ^ n : Nat) : Int).tmod 2) = ((s / 2 ^ n % 2 : Nat) : Int) := (Int.ofNat_tmod _ _).symm
      rw [hasN, hsm, Bool.true_and, Int.toNat_natCast, Nat.testBit_eq_decide_div_mod_eq]
      show D.v (.bool ((((s / 2 ^ n : Nat) : Int).tmod 2) == 1)) = _
      have hk : ∀ k : Nat, (((k : Nat) : Int) == 1) = decide (k = 1) := fun k => by
        by_cases h : k = 1
        · simp [h]
        · have h' : ¬ (k : Int) = 1 := by omega
          simp [h, h']
      rw [hm, hk]
    · have h2' : ¬ n < 64 := by have := of_decide_eq_false h2; omega
      repeat (first | refine wb ?_ | ((refine wl rfl rfl ?_ ?_); try (first | ((repeat' apply And.intro) <;> first | exact trivial | exact rfl | omega | (simp; done) | (simp; omega)))) | refine ws rfl rfl ?_)
      refine wD (wE rfl rfl ?_)
      have : small (n : Int) = false := by simp [small]; omega
      simp [hasN, this]
  · have h1' : ¬ 0 ≤ i := of_decide_eq_false h1
    repeat (first | refine wb ?_ | ((refine wl rfl rfl ?_ ?_); try (first | ((repeat' apply And.intro) <;> first | exact trivial | exact rfl | omega | (simp; done) | (simp; omega)))) | refine ws rfl rfl ?_)
    refine wD (wE rfl rfl ?_)
    have : small i = false := by simp [small, h1']
    simp [hasN, this]
end Go.Proofs.YtaflihoopnjcgaaDoor

namespace Go.Proofs.YtaflihoopnjcgaaDoor
open Go Go.Dat

theorem bitN_bit (i : Int) (j : Nat) : (bitN i).testBit j = (small i && decide (i.toNat = j)) := by
  unfold bitN
  split
  · next h => rw [Nat.testBit_two_pow, h, Bool.true_and]
  · next h => simp [h]
theorem withN_bit (s : Nat) (i : Int) (j : Nat) : (withN s i).testBit j = (s.testBit j || (small i && decide (i.toNat = j))) := by
  unfold withN
  rw [Nat.testBit_or, bitN_bit]
theorem foldN_bit (l : List Int) (j : Nat) : ∀ s, (l.foldl withN s).testBit j = true ↔ s.testBit j = true ∨ (j < 64 ∧ (j : Int) ∈ l) := by
  induction l with
  | nil => simp
  | cons x l ih =>
    intro s
    rw [List.foldl_cons, ih, withN_bit]
    simp only [Bool.or_eq_true, Bool.and_eq_true, small, decide_eq_true_eq, List.mem_cons]
    constructor
    · rintro ((h | ⟨h1, h2⟩) | h)
      · exact .inl h
      · exact .inr ⟨by omega, .inl (by omega)⟩
      · exact .inr ⟨h.1, .inr h.2⟩
    · rintro (h | ⟨h1, h2 | h2⟩)
      · exact .inl (.inl h)
      · exact .inl (.inr ⟨by omega, by omega⟩)
      · exact .inr ⟨h1, h2⟩
theorem ofN_bit (l : List Int) (j : Nat) : (ofN l).testBit j = true ↔ j < 64 ∧ (j : Int) ∈ l := by
  unfold ofN
  rw [foldN_bit]
  simp

def nums (n : Nat) : List Int := (List.range n).map fun p : Nat => (p : Int)
theorem perm_of_all : ∀ (n : Nat) (l : List Int), l.length ≤ n → (∀ p : Nat, p < n → (p : Int) ∈ l) → l.Perm (nums n)
  | 0, l, h, _ => by
    have : l = [] := List.eq_nil_of_length_eq_zero (by omega)
    subst this
    exact .refl _
  | n + 1, l, h, ha => by
    have hn := ha n (by omega)
    have h1 := List.perm_cons_erase hn
    have h2 : (l.erase (n : Int)).length ≤ n := by rw [List.length_erase_of_mem hn]; omega
    have ih := perm_of_all n (l.erase n) h2 (fun p hp => (List.mem_erase_of_ne (by omega)).2 (ha p (by omega)))
    have e : nums (n + 1) = nums n ++ [(n : Int)] := by simp [nums, List.range_succ]
    rw [e]
    exact h1.trans ((List.Perm.cons _ ih).trans (List.perm_append_comm (l₁ := [(n : Int)])))
theorem full_bit (j : Nat) : (4294967295 : Nat).testBit j = decide (j < 32) := by
  have := Nat.testBit_two_pow_sub_one 32 j
  simpa using this
theorem rightO_iff {l : List Int} (h : l.length = 32) : rightO l = true ↔ l.Perm (nums 32) := by
  unfold rightO
  rw [decide_eq_true_eq]
  constructor
  · intro e
    refine perm_of_all 32 l (by omega) fun p hp => ?_
    have : (ofN l).testBit p = true := by rw [e, full_bit]; simpa using hp
    exact ((ofN_bit l p).1 this).2
  · intro e
    apply Nat.eq_of_testBit_eq
    intro j
    rw [full_bit, Bool.eq_iff_iff, ofN_bit, e.mem_iff, decide_eq_true_eq]
    simp only [nums, List.mem_map, List.mem_range]
    constructor
    · rintro ⟨_, a, h1, h2⟩; omega
    · intro h1; exact ⟨by omega, j, h1, rfl⟩

/-- The place of a node. -/
def pl (l : List Int) (i : Nat) : Nat := (l.getD i 0).toNat
/-- An order with each place taken once. -/
structure Perm32 (l : List Int) : Prop where
  len : l.length = 32
  perm : l.Perm (nums 32)
theorem rightO_p {l : List Int} (h : l.length = 32) (hr : rightO l = true) : Perm32 l := ⟨h, (rightO_iff h).1 hr⟩
theorem Perm32.right {l : List Int} (h : Perm32 l) : rightO l = true := (rightO_iff h.len).2 h.perm
theorem Perm32.mem {l : List Int} (h : Perm32 l) {x : Int} : x ∈ l ↔ 0 ≤ x ∧ x < 32 := by
  rw [h.perm.mem_iff]
  simp only [nums, List.mem_map, List.mem_range]
  constructor
  · rintro ⟨a, h1, rfl⟩; omega
  · intro h1; exact ⟨x.toNat, by omega, by omega⟩
theorem getD_mem {α : Type} {l : List α} {i : Nat} {d : α} (h : i < l.length) : l.getD i d ∈ l := by
  rw [List.getD_eq_getElem?_getD]; simp [h]
theorem Perm32.pl_eq {l : List Int} (h : Perm32 l) {i : Nat} (hi : i < 32) : l.getD i 0 = (pl l i : Int) ∧ pl l i < 32 := by
  have := (h.mem (x := l.getD i 0)).1 (getD_mem (by rw [h.len]; exact hi))
  unfold pl
  omega
theorem Perm32.nodup {l : List Int} (h : Perm32 l) : l.Nodup := by
  refine h.perm.nodup_iff.2 ?_
  unfold nums
  refine List.Pairwise.map _ (fun a b (hab : a ≠ b) => ?_) List.nodup_range
  intro h
  exact hab (by omega)
theorem Perm32.inj {l : List Int} (h : Perm32 l) {i j : Nat} (hi : i < 32) (hj : j < 32) (e : pl l i = pl l j) : i = j := by
  have h1 := (h.pl_eq hi).1
  have h2 := (h.pl_eq hj).1
  have h3 : l.getD i 0 = l.getD j 0 := by rw [h1, h2, e]
  have hi' : i < l.length := by rw [h.len]; exact hi
  have hj' : j < l.length := by rw [h.len]; exact hj
  exact (List.getD_inj hi' hj' h.nodup).1 h3
theorem Perm32.surj {l : List Int} (h : Perm32 l) {p : Nat} (hp : p < 32) : ∃ i, i < 32 ∧ pl l i = p := by
  have := (h.mem (x := (p : Int))).2 ⟨by omega, by omega⟩
  obtain ⟨i, hi, e⟩ := List.getElem_of_mem this
  rw [h.len] at hi
  refine ⟨i, hi, ?_⟩
  unfold pl
  rw [List.getD_eq_getElem?_getD]
  simp [h.len, hi, e]

/-- The node at a place. -/
def at' (l : List Int) (p : Nat) : Nat := ((rowOf l 32).getD p 0).toNat
theorem rowOf_at {l : List Int} (h : Perm32 l) : ∀ n, n ≤ 32 → ∀ j, j < n → (rowOf l n).getD (pl l j) 0 = (j : Int)
  | 0, _, _, hj => absurd hj (by omega)
  | n + 1, hn, j, hj => by
    rw [rowOf_succ]
    have hp := (h.pl_eq (i := n) (by omega)).2
    show ((rowOf l n).set (pl l n) n).getD (pl l j) 0 = _
    rw [List.getD_eq_getElem?_getD, List.getElem?_set]
    by_cases e : pl l n = pl l j
    · have : n = j := h.inj (by omega) (by omega) e
      subst this
      simp [rowOf_len, hp]
    · have hjn : j < n := by
        rcases Nat.lt_or_ge j n with h1 | h1
        · exact h1
        · exact absurd (by rw [show j = n by omega]) e
      have := rowOf_at h n (by omega) j hjn
      rw [List.getD_eq_getElem?_getD] at this
      simp only [e, if_false]
      exact this
theorem Perm32.at_pl {l : List Int} (h : Perm32 l) {i : Nat} (hi : i < 32) : at' l (pl l i) = i := by
  unfold at'
  rw [rowOf_at h 32 (by omega) i hi]
  rfl
theorem Perm32.pl_at {l : List Int} (h : Perm32 l) {p : Nat} (hp : p < 32) : pl l (at' l p) = p ∧ at' l p < 32 := by
  obtain ⟨i, hi, rfl⟩ := h.surj hp
  rw [h.at_pl hi]
  exact ⟨rfl, hi⟩
theorem Perm32.row {l : List Int} (h : Perm32 l) {p : Nat} (hp : p < 32) : (rowOf l 32).getD p 0 = (at' l p : Int) := by
  obtain ⟨i, hi, rfl⟩ := h.surj hp
  rw [h.at_pl hi, rowOf_at h 32 (by omega) i hi]

/-- The nodes of a set by their places. -/
def byO (l : List Int) (s : Nat) : List Nat := ((List.range 32).map (at' l)).filter fun i => s.testBit i
theorem Perm32.byO_mem {l : List Int} (h : Perm32 l) {s i : Nat} : i ∈ byO l s ↔ i < 32 ∧ s.testBit i = true := by
  unfold byO
  rw [List.mem_filter, List.mem_map]
  constructor
  · rintro ⟨⟨p, h1, rfl⟩, h2⟩
    exact ⟨(h.pl_at (List.mem_range.1 h1)).2, h2⟩
  · rintro ⟨h1, h2⟩
    exact ⟨⟨pl l i, List.mem_range.2 (h.pl_eq h1).2, h.at_pl h1⟩, h2⟩
theorem Perm32.byO_sorted {l : List Int} (h : Perm32 l) (s : Nat) : (byO l s).Pairwise (fun x y => pl l x < pl l y) := by
  unfold byO
  refine List.Pairwise.filter _ ?_
  rw [List.pairwise_map]
  have h1 : (List.range 32).Pairwise (· < ·) := List.pairwise_lt_range
  refine List.Pairwise.imp_of_mem ?_ h1
  intro a b ha hb hab
  rw [(h.pl_at (List.mem_range.1 ha)).1, (h.pl_at (List.mem_range.1 hb)).1]
  exact hab
theorem pairwise_nodup {l : List Int} {xs : List Nat} (h : xs.Pairwise (fun x y => pl l x < pl l y)) : xs.Nodup :=
  List.Pairwise.imp (fun {a b} hab => by rintro rfl; omega) h
/-- Sorted by places: there is one such list. -/
theorem Perm32.byO_uniq {l : List Int} (h : Perm32 l) {s : Nat} {xs : List Nat} (h1 : xs.Pairwise (fun x y => pl l x < pl l y)) (h2 : ∀ i, i ∈ xs ↔ i < 32 ∧ s.testBit i = true) : xs = byO l s := by
  refine List.Perm.eq_of_pairwise (le := fun x y => pl l x < pl l y) (fun a b _ _ hab hba => by omega) h1 (h.byO_sorted s) ?_
  exact (List.perm_ext_iff_of_nodup (pairwise_nodup h1) (pairwise_nodup (h.byO_sorted s))).2 fun i => by rw [h2, h.byO_mem]
end Go.Proofs.YtaflihoopnjcgaaDoor

namespace Go.Proofs.YtaflihoopnjcgaaDoor
open Go Go.Dat

/-- What comes of a by steps. -/
inductive Comes (nx : Nat → Nat → Bool) (a : Nat) : Nat → Prop
  | base : Comes nx a a
  | step {i k : Nat} : Comes nx a i → nx i k = true → Comes nx a k

theorem Comes.trans {nx : Nat → Nat → Bool} {a b c : Nat} (h1 : Comes nx a b) (h2 : Comes nx b c) : Comes nx a c := by
  induction h2 with
  | base => exact h1
  | step _ h ih => exact ih.step h

theorem hi_bit {s j : Nat} (hs : s < M64) (hj : 64 ≤ j) : s.testBit j = false :=
  Nat.testBit_lt_two_pow (Nat.lt_of_lt_of_le hs (Nat.pow_le_pow_right (n := 2) (i := 64) (by decide) hj))
theorem hi_bit32 {s j : Nat} (hs : s < 4294967296) (hj : 32 ≤ j) : s.testBit j = false :=
  Nat.testBit_lt_two_pow (Nat.lt_of_lt_of_le hs (Nat.pow_le_pow_right (n := 2) (i := 32) (by decide) hj))
theorem bits_eq {s t : Nat} (hs : s < M64) (ht : t < M64) (h : ∀ j, j < 64 → (s.testBit j = true ↔ t.testBit j = true)) : s = t := by
  apply Nat.eq_of_testBit_eq
  intro j
  by_cases hj : j < 64
  · exact Bool.eq_iff_iff.2 (h j hj)
  · rw [hi_bit hs (by omega), hi_bit ht (by omega)]

open Classical in
noncomputable def setOf (p : Nat → Prop) : Nat := ofN (((List.range 64).filter (fun j => decide (p j))).map fun j : Nat => (j : Int))
theorem setOf_lt (p : Nat → Prop) : setOf p < M64 := ofN_lt _ (by decide)
theorem setOf_bit {p : Nat → Prop} {j : Nat} : (setOf p).testBit j = true ↔ j < 64 ∧ p j := by
  classical
  unfold setOf
  rw [ofN_bit]
  simp only [List.mem_map, List.mem_filter, List.mem_range]
  constructor
  · rintro ⟨h, k, ⟨h1, h2⟩, h3⟩
    have : k = j := by omega
    subst this
    exact ⟨h, by simpa using h2⟩
  · rintro ⟨h, h1⟩
    exact ⟨h, j, ⟨h, by simpa using h1⟩, rfl⟩
theorem setOf_eq {s : Nat} {p : Nat → Prop} (hs : s < M64) (h : ∀ j, j < 64 → (s.testBit j = true ↔ p j)) : s = setOf p :=
  bits_eq hs (setOf_lt p) fun j hj => by rw [h j hj, setOf_bit]; exact ⟨fun h => ⟨hj, h⟩, fun h => h.2⟩

/-- How many of the first n are not in it. -/
def cntTo (s : Nat) : Nat → Nat
  | 0 => 0
  | n + 1 => cntTo s n + (if s.testBit n then 0 else 1)
theorem with_bit {s k j : Nat} (hk : k < 64) : (withN s (k : Int)).testBit j = (s.testBit j || decide (k = j)) := by
  rw [withN_bit]
  have : small (k : Int) = true := by simp [small]; omega
  rw [this, Bool.true_and, Int.toNat_natCast]
theorem cnt_same {s k : Nat} (hk : k < 64) : ∀ n, n ≤ k → cntTo (withN s (k : Int)) n = cntTo s n
  | 0, _ => rfl
  | n + 1, h => by
    have hne : ¬ k = n := by omega
    simp only [cntTo, cnt_same hk n (by omega), with_bit hk, hne, decide_false, Bool.or_false]
theorem cnt_with {s k : Nat} (hk : k < 64) (hs : s.testBit k = false) : ∀ n, k < n → cntTo (withN s (k : Int)) n + 1 = cntTo s n
  | 0, h => absurd h (by omega)
  | n + 1, h => by
    by_cases e : k = n
    · subst e
      simp only [cntTo, cnt_same hk k (Nat.le_refl _), with_bit hk, hs, decide_true, Bool.or_true, if_true]
      simp
    · simp only [cntTo, with_bit hk, e, decide_false, Bool.or_false]
      have := cnt_with hk hs n (by omega)
      omega

def andn (s t : Nat) : Nat := (BitVec.ofNat 64 s &&& ~~~ BitVec.ofNat 64 t).toNat
theorem andn_lt (s t : Nat) : andn s t < M64 := (BitVec.ofNat 64 s &&& ~~~ BitVec.ofNat 64 t).isLt
theorem andn_bit {s t : Nat} (hs : s < M64) (j : Nat) : (andn s t).testBit j = (s.testBit j && !t.testBit j) := by
  by_cases h : j < 64
  · have : (andn s t).testBit j = (BitVec.ofNat 64 s &&& ~~~ BitVec.ofNat 64 t).getLsbD j := rfl
    rw [this, BitVec.getLsbD_and, BitVec.getLsbD_not, BitVec.getLsbD_ofNat, BitVec.getLsbD_ofNat]
    simp [h]
  · rw [hi_bit hs (by omega), hi_bit (andn_lt s t) (by omega)]
    rfl

/-- The numbers of a set. -/
def itemsL (s : Nat) : List Nat := (List.range 64).filter fun j => s.testBit j
def natI (l : List Nat) : List Int := l.map Int.ofNat
theorem itemsN_eq (s : Nat) : itemsN s = natI (itemsL s) := rfl
theorem itemsL_mem {s j : Nat} : j ∈ itemsL s ↔ j < 64 ∧ s.testBit j = true := by
  unfold itemsL
  rw [List.mem_filter, List.mem_range]
theorem itemsL_nodup (s : Nat) : (itemsL s).Nodup := List.Pairwise.filter _ List.nodup_range
theorem itemsL_le (s : Nat) : (itemsL s).length ≤ 64 := by
  have := items_le s
  rwa [itemsN_eq, natI, List.length_map] at this

def nxf (nxt : Nat → Nat) (my : Nat → Bool) (i k : Nat) : Bool := (nxt i).testBit k && my k

/-- What holds as it goes on: all that is had comes of a, and what comes of it is had, or it waits. -/
structure NI (nxt : Nat → Nat) (my : Nat → Bool) (a had : Nat) (st : List Nat) (cur : Option Nat) : Prop where
  lt : had < M64
  sound : ∀ j, had.testBit j = true → j < 32 ∧ Comes (nxf nxt my) a j
  base : had.testBit a = true
  stk : ∀ j ∈ st, had.testBit j = true
  clo : ∀ i, had.testBit i = true → i ∈ st ∨ cur = some i ∨ ∀ k, nxf nxt my i k = true → had.testBit k = true
  room : st.length + cntTo had 32 ≤ 32

theorem NI.start {nxt : Nat → Nat} {my : Nat → Bool} {a : Nat} (ha : a < 32) : NI nxt my a (ofN [(a : Int)]) [a] none := by
  have hb : ∀ j, (ofN [(a : Int)]).testBit j = true ↔ j = a := fun j => by
    rw [ofN_bit]; simp; omega
  refine ⟨ofN_lt _ (by decide), fun j hj => ?_, (hb a).2 rfl, fun j hj => (hb j).2 (by simpa using hj), fun i hi => .inl (by simpa using (hb i).1 hi), ?_⟩
  · obtain rfl := (hb j).1 hj
    exact ⟨ha, .base⟩
  · have : ofN [(a : Int)] = withN 0 (a : Int) := rfl
    have h := cnt_with (s := 0) (k := a) (by omega) (by simp) 32 ha
    rw [this]
    have h0 : cntTo 0 32 = 32 := by decide
    simp only [List.length_singleton]
    omega
theorem NI.pop {nxt : Nat → Nat} {my : Nat → Bool} {a had i : Nat} {st : List Nat} (h : NI nxt my a had (st ++ [i]) none) : NI nxt my a had st (some i) := by
  refine ⟨h.lt, h.sound, h.base, fun j hj => h.stk j (by simp [hj]), fun k hk => ?_, ?_⟩
  · rcases h.clo k hk with h1 | h1 | h1
    · simp only [List.mem_append, List.mem_singleton] at h1
      rcases h1 with h1 | rfl
      · exact .inl h1
      · exact .inr (.inl rfl)
    · cases h1
    · exact .inr (.inr h1)
  · have := h.room
    simp only [List.length_append, List.length_singleton] at this
    omega
theorem NI.push {nxt : Nat → Nat} {my : Nat → Bool} {a had i k : Nat} {st : List Nat} (h : NI nxt my a had st (some i)) (hi : had.testBit i = true) (hk : k < 32) (hn : nxf nxt my i k = true) (h0 : had.testBit k = false) :
    NI nxt my a (withN had (k : Int)) (st ++ [k]) (some i) := by
  have hb : ∀ j, (withN had (k : Int)).testBit j = true ↔ had.testBit j = true ∨ k = j := fun j => by rw [with_bit (by omega)]; simp
  refine ⟨withN_lt _ h.lt, fun j hj => ?_, (hb a).2 (.inl h.base), fun j hj => ?_, fun j hj => ?_, ?_⟩
  · rcases (hb j).1 hj with h1 | rfl
    · exact h.sound j h1
    · exact ⟨hk, (h.sound i hi).2.step hn⟩
  · simp only [List.mem_append, List.mem_singleton] at hj
    rcases hj with h1 | rfl
    · exact (hb j).2 (.inl (h.stk j h1))
    · exact (hb j).2 (.inr rfl)
  · rcases (hb j).1 hj with h1 | rfl
    · rcases h.clo j h1 with h2 | h2 | h2
      · exact .inl (by simp [h2])
      · exact .inr (.inl h2)
      · exact .inr (.inr fun m hm => (hb m).2 (.inl (h2 m hm)))
    · exact .inl (by simp)
  · have h1 := h.room
    have h2 := cnt_with (s := had) (k := k) (by omega) h0 32 hk
    simp only [List.length_append, List.length_singleton]
    omega
theorem NI.close {nxt : Nat → Nat} {my : Nat → Bool} {a had i : Nat} {st : List Nat} (h : NI nxt my a had st (some i)) (hc : ∀ k, nxf nxt my i k = true → had.testBit k = true) : NI nxt my a had st none :=
  ⟨h.lt, h.sound, h.base, h.stk, fun j hj => by
    rcases h.clo j hj with h2 | h2 | h2
    · exact .inl h2
    · cases h2; exact .inr (.inr hc)
    · exact .inr (.inr h2), h.room⟩
theorem NI.done {nxt : Nat → Nat} {my : Nat → Bool} {a had : Nat} (h : NI nxt my a had [] none) : had = setOf (Comes (nxf nxt my) a) := by
  refine setOf_eq h.lt fun j h64 => ⟨fun hj => (h.sound j hj).2, fun hj => ?_⟩
  clear h64
  induction hj with
  | base => exact h.base
  | step _ hn ih =>
    rcases h.clo _ ih with h1 | h1 | h1
    · cases h1
    · cases h1
    · exact h1 _ hn
end Go.Proofs.YtaflihoopnjcgaaDoor

namespace Go.Proofs.YtaflihoopnjcgaaDoor
open Go Go.Dat

theorem natI_len (l : List Nat) : (natI l).length = l.length := by simp [natI]
theorem ints_at {l : List Nat} {i : Nat} (hi : i < l.length) : (ints (natI l)).getD i un = .v (.int .i64 (l.getD i 0 : Nat)) := by
  simp [ints, natI, hi]
theorem ints_pre (pre post : List Nat) (x : Nat) : (ints (natI (pre ++ x :: post))).getD ((pre.length : Int)).toNat un = .v (.int .i64 (x : Nat)) := by
  simp [ints, natI]

theorem c_near (f1 f2 : FuncId) (cs1 cs2 : List D) (nxt : Nat → Nat) (my : Nat → Bool) (a : Nat) (ha : a < 32) (hn : ∀ i, nxt i < 4294967296) (hc1 : Callable Tryd.prog f1) (hc2 : Callable Tryd.prog f2)
    (h1 : ∀ i : Nat, i < 32 → DFun Tryd.prog f1 ([] ++ [.v (.int .i64 (i : Nat))] ++ cs1) (S (nxt i))) (h2 : ∀ k : Nat, k < 32 → DFun Tryd.prog f2 ([] ++ [.v (.int .i64 (k : Nat))] ++ cs2) (.v (.bool (my k)))) :
    DFun Tryd.prog 73 [.v (.int .i64 a), .fn (.func f1) [] cs1, .fn (.func f2) [] cs2] (S (setOf (Comes (nxf nxt my) a))) := by
  refine DFun.ofRun agree mixed Tryd.func73 rfl rfl ?_
  refine wa ?_
  refine wc ?_
  repeat (first | refine wb ?_ | refine wg ?_ | ((refine wl rfl rfl ?_ ?_); try (first | exact trivial)))
  refine wa ?_
  refine wc ?_
  repeat (first | ((refine wl rfl rfl ?_ ?_); try (first | ((repeat' apply And.intro) <;> first | exact trivial | exact rfl | omega | (simp; done) | (simp; omega)))))
  refine wn (xc rfl rfl rfl rfl (by repeat' (first | exact trivial | exact rfl | assumption | apply And.intro)) (callable (by decide)) (c_Of .any [(a : Int)] (by simp))) rfl ?_
  repeat (first | refine wb ?_ | ((refine wl rfl rfl ?_ ?_); try (first | ((repeat' apply And.intro) <;> first | exact trivial | exact rfl | omega | (simp; done) | (simp; omega)))))
  refine wa ?_
  refine wc ?_
  repeat (first | refine wb ?_ | ((refine wl rfl rfl ?_ ?_); try (first | ((repeat' apply And.intro) <;> first | exact trivial | exact rfl | omega | (simp; done) | (simp; omega)))) | refine ww rfl rfl rfl ?_)
  refine wa ?_
  refine wi ?_
  refine Run.keep [1, 2, 7, 8] rfl ?_
  refine Run.at (l' := [(1, .d (.fn (.func f1) [] cs1)), (2, .d (.fn (.func f2) [] cs2)), (7, .d (S (ofN [(a : Int)]))), (8, .d (.own false 3 1 (ints (natI [a]))))]) rfl ?_
  refine Run.again (α := Nat × List Nat × Bool) (fun q => NI nxt my a q.1 q.2.1 none ∧ (q.2.2 = true → q.2.1 = [])) (fun q => [(1, .d (.fn (.func f1) [] cs1)), (2, .d (.fn (.func f2) [] cs2)), (7, .d (S q.1)), (8, .d (.own q.2.2 3 1 (ints (natI q.2.1))))]) (fun q => q.2.1.length + 2 * cntTo q.1 32) (ofN [(a : Int)], [a], false) ⟨.start ha, by simp⟩ ?_
  rintro ⟨had, st, nl⟩ ⟨hI, hnl⟩ ih
  simp only at hI hnl
  have hroom := hI.room
  refine Run.at (l' := [(1, .d (.fn (.func f1) [] cs1)), (2, .d (.fn (.func f2) [] cs2)), (7, .d (S had)), (8, .d (.own nl 3 1 (ints (natI st))))]) rfl ?_
  repeat (first | refine wa ?_ | refine wb ?_ | refine wc ?_ | ((first | refine wl rfl rfl ?_ ?_ | refine wn (wp rfl rfl rfl rfl rfl ?_) rfl ?_ | refine xa agree rfl rfl ?_ ?_); try (first | exact trivial | ((repeat' apply And.intro) <;> first | exact trivial | exact rfl | omega | (simp; done) | (simp; omega)))))
  refine Run.condB rfl rfl (fun h0 => ?_) (fun h0 => ?_)
  · have : st = [] := by
      have h0' : (ints (natI st)).length = 0 := by simp at h0; simpa using h0
      rw [ints_len, natI_len] at h0'
      exact List.eq_nil_of_length_eq_zero h0'
    subst this
    repeat (first | refine wa ?_ | refine wb ?_ | refine wc ?_ | ((refine wl rfl rfl ?_ ?_); try (first | ((repeat' apply And.intro) <;> first | exact trivial | exact rfl | omega | (simp; done) | (simp; omega)))))
    refine wD (wE rfl rfl ?_)
    rw [hI.done]
  · have hne : st ≠ [] := by
      rintro rfl
      simp [ints, natI] at h0
    obtain ⟨st', i, rfl⟩ : ∃ st' i, st = st' ++ [i] := ⟨st.dropLast, st.getLast hne, (List.dropLast_concat_getLast hne).symm⟩
    have hl : ((ints (natI (st' ++ [i]))).length : Int) = st'.length + 1 := by rw [ints_len, natI_len]; simp
    have hsm : st'.length ≤ 32 := by simp at hroom; omega
    have hw : IntKind.i64.wrap (((ints (natI (st' ++ [i]))).length : Int) - 1) = (st'.length : Nat) := by rw [hl, wrap64_in _ (by omega)]; omega
    have hi := hI.stk i (by simp)
    have hi32 := (hI.sound i hi).1
    have hgd : (ints (natI (st' ++ [i]))).getD (IntKind.i64.wrap (((ints (natI (st' ++ [i]))).length : Int) - 1)).toNat un = .v (.int .i64 (i : Nat)) := by
      rw [hw]
      exact ints_pre st' [] i
    repeat (first | refine wa ?_ | refine wc ?_ | refine wf ?_ | ((first | refine wl rfl rfl ?_ ?_ | refine wn (wp rfl rfl rfl rfl rfl ?_) rfl ?_ | refine xa agree rfl rfl ?_ ?_); try (first | exact trivial | (rw [hgd] <;> rfl) | ((repeat' apply And.intro) <;> first | exact trivial | exact rfl | omega | (simp; done) | (simp; omega)))))
    first | refine OpsAt.say (d := 26) rfl (y := .v (.int .i64 (i : Nat))) (hgd) ?_ | refine Run.say (d := 26) rfl (y := .v (.int .i64 (i : Nat))) (hgd) ?_ | refine OpsR.say (q := 26) rfl (y := .v (.int .i64 (i : Nat))) (hgd) ?_ | refine OpsB.say (d := 26) rfl (y := .v (.int .i64 (i : Nat))) (hgd) ?_
    repeat (first | refine wa ?_ | refine wb ?_ | refine wc ?_ | ((first | refine wl rfl rfl ?_ ?_ | refine wn (wp rfl rfl rfl rfl rfl ?_) rfl ?_ | refine xa agree rfl rfl ?_ ?_); try (first | exact trivial | ((repeat' apply And.intro) <;> first | exact trivial | exact rfl | omega | (simp; done) | (simp; omega)))))
    first | refine OpsAt.say (d := 30) rfl (y := .v (.int .i64 (st'.length : Nat))) (congrArg (fun z => D.v (.int .i64 z)) hw) ?_ | refine Run.say (d := 30) rfl (y := .v (.int .i64 (st'.length : Nat))) (congrArg (fun z => D.v (.int .i64 z)) hw) ?_ | refine OpsR.say (q := 30) rfl (y := .v (.int .i64 (st'.length : Nat))) (congrArg (fun z => D.v (.int .i64 z)) hw) ?_ | refine OpsB.say (d := 30) rfl (y := .v (.int .i64 (st'.length : Nat))) (congrArg (fun z => D.v (.int .i64 z)) hw) ?_
    refine OpsAt.cut agree rfl rfl rfl rfl rfl rfl ⟨⟨rfl, by omega⟩, by rw [ints_len, natI_len]; simp⟩ ?_
    first | refine OpsAt.say (d := 31) rfl (y := .own nl 3 1 (ints (natI st'))) (by simp [ints, natI]) ?_ | refine Run.say (d := 31) rfl (y := .own nl 3 1 (ints (natI st'))) (by simp [ints, natI]) ?_ | refine OpsR.say (q := 31) rfl (y := .own nl 3 1 (ints (natI st'))) (by simp [ints, natI]) ?_ | refine OpsB.say (d := 31) rfl (y := .own nl 3 1 (ints (natI st'))) (by simp [ints, natI]) ?_
    repeat (first | refine wa ?_ | refine wb ?_ | refine wc ?_ | ((refine wl rfl rfl ?_ ?_); try (first | ((repeat' apply And.intro) <;> first | exact trivial | exact rfl | omega | (simp; done) | (simp; omega)))) | refine ww rfl rfl rfl ?_)
    refine wn (xc rfl rfl rfl rfl (by repeat' (first | exact trivial | exact rfl | assumption | apply And.intro)) hc1 (h1 i hi32)) rfl ?_
    repeat (first | ((first | refine wl rfl rfl ?_ ?_ | refine wn (wp rfl rfl rfl rfl rfl ?_) rfl ?_); try (first | ((repeat' apply And.intro) <;> first | exact trivial | exact rfl | omega | (simp; done) | (simp; omega)))))
    have hni : nxt i < M64 := Nat.lt_trans (hn i) (by decide)
    first | refine OpsAt.say (d := 36) rfl (y := S (andn (nxt i) had)) (by rw [show IntKind.u64.bits = 64 from rfl, BitVec.ofInt_natCast, BitVec.ofInt_natCast]; exact congrArg (fun z => D.v (.int .u64 z)) (u64_in (andn_lt (nxt i) had))) ?_ | refine Run.say (d := 36) rfl (y := S (andn (nxt i) had)) (by rw [show IntKind.u64.bits = 64 from rfl, BitVec.ofInt_natCast, BitVec.ofInt_natCast]; exact congrArg (fun z => D.v (.int .u64 z)) (u64_in (andn_lt (nxt i) had))) ?_ | refine OpsR.say (q := 36) rfl (y := S (andn (nxt i) had)) (by rw [show IntKind.u64.bits = 64 from rfl, BitVec.ofInt_natCast, BitVec.ofInt_natCast]; exact congrArg (fun z => D.v (.int .u64 z)) (u64_in (andn_lt (nxt i) had))) ?_ | refine OpsB.say (d := 36) rfl (y := S (andn (nxt i) had)) (by rw [show IntKind.u64.bits = 64 from rfl, BitVec.ofInt_natCast, BitVec.ofInt_natCast]; exact congrArg (fun z => D.v (.int .u64 z)) (u64_in (andn_lt (nxt i) had))) ?_
    refine wn (wA rfl rfl rfl (by repeat' (first | exact trivial | exact rfl | assumption | apply And.intro)) (callable (by decide)) (c_Items (andn (nxt i) had) (andn_lt _ _))) rfl ?_
    obtain ⟨ks, hks⟩ : ∃ ks, ks = itemsL (andn (nxt i) had) := ⟨_, rfl⟩
    rw [itemsN_eq, ← hks]
    have hkl : ks.length ≤ 64 := by rw [hks]; exact itemsL_le _
    have hnd : ks.Nodup := by rw [hks]; exact itemsL_nodup _
    have hmem : ∀ k, k ∈ ks ↔ k < 32 ∧ (nxt i).testBit k = true ∧ had.testBit k = false := fun k => by
      rw [hks, itemsL_mem, andn_bit hni]
      simp only [Bool.and_eq_true, Bool.not_eq_true']
      constructor
      · rintro ⟨_, h3, h4⟩
        refine ⟨?_, h3, h4⟩
        rcases Nat.lt_or_ge k 32 with h5 | h5
        · exact h5
        · rw [hi_bit32 (hn i) h5] at h3; cases h3
      · rintro ⟨h3, h4, h5⟩
        exact ⟨by omega, h4, h5⟩
    have hP := hI.pop
    repeat (first | refine wb ?_ | refine wd ?_ | ((first | refine wl rfl rfl ?_ ?_ | refine wn (wq agree rfl rfl rfl ?_) rfl ?_); try (first | exact trivial | ((repeat' apply And.intro) <;> first | exact trivial | exact rfl | omega | (simp; done) | (simp; omega)))))
    refine Run.keep [1, 2, 7, 8, 37, 38, 39] rfl ?_
    have hlx : ((ints (natI ks)).length : Int) = ks.length := by rw [ints_len, natI_len]
    refine Run.at (l' := [(1, .d (.fn (.func f1) [] cs1)), (2, .d (.fn (.func f2) [] cs2)), (7, .d (S had)), (8, .d (.own nl 3 1 (ints (natI st')))), (37, .d (.lst .any 1 (ints (natI ks)))), (38, .d (.v (.int .i64 ks.length))), (39, .d (.v (.int .i64 (0 : Nat))))]) (by rw [← hlx]; rfl) ?_
    refine Run.loopL (α := List Nat × List Nat × Nat × List Nat × Bool) (fun q => ks = q.1 ++ q.2.1 ∧ NI nxt my a q.2.2.1 q.2.2.2.1 (some i) ∧ (q.2.2.2.2 = true → q.2.2.2.1 = []) ∧ (∀ j, had.testBit j = true → q.2.2.1.testBit j = true) ∧ (∀ k ∈ q.1, my k = true → q.2.2.1.testBit k = true) ∧ (∀ k ∈ q.2.1, q.2.2.1.testBit k = false) ∧ q.2.2.2.1.length + 2 * cntTo q.2.2.1 32 ≤ st'.length + 2 * cntTo had 32)
      (fun q => [(1, .d (.fn (.func f1) [] cs1)), (2, .d (.fn (.func f2) [] cs2)), (7, .d (S q.2.2.1)), (8, .d (.own q.2.2.2.2 3 1 (ints (natI q.2.2.2.1)))), (37, .d (.lst .any 1 (ints (natI ks)))), (38, .d (.v (.int .i64 ks.length))), (39, .d (.v (.int .i64 q.1.length)))])
      (fun q => q.2.1.length) ([], ks, had, st', nl) ⟨rfl, hP, fun h => absurd (hnl h) (by simp), fun _ h => h, fun k hk => absurd hk (by simp), fun k hk => ((hmem k).1 hk).2.2, Nat.le_refl _⟩ ?_
    rintro ⟨pre, post, hd, sk, nl2⟩ ⟨hp, hN, hnl2, hsub, hpre, hpost, hle⟩ ih2
    simp only at hp hN hnl2 hsub hpre hpost hle
    have hlen : ks.length = pre.length + post.length := by rw [hp]; simp
    refine Run.at (l' := [(1, .d (.fn (.func f1) [] cs1)), (2, .d (.fn (.func f2) [] cs2)), (7, .d (S hd)), (8, .d (.own nl2 3 1 (ints (natI sk)))), (37, .d (.lst .any 1 (ints (natI ks)))), (38, .d (.v (.int .i64 ks.length))), (39, .d (.v (.int .i64 pre.length)))]) rfl ?_
    repeat (first | refine wa ?_ | refine wb ?_ | refine wc ?_ | ((refine wn (wp rfl rfl rfl rfl rfl ?_) rfl ?_); try (first | ((repeat' apply And.intro) <;> first | exact trivial | exact rfl | omega | (simp; done) | (simp; omega)))))
    refine Run.condB rfl rfl (fun hb => ?_) (fun hb => ?_)
    · cases post with
      | nil => simp at hlen hb; omega
      | cons k post =>
        have hk := (hmem k).1 (by rw [hp]; simp)
        have hk0 := hpost k (by simp)
        have hgd : (ints (natI ks)).getD ((pre.length : Int)).toNat un = .v (.int .i64 (k : Nat)) := by rw [hp]; exact ints_pre pre post k
        repeat (first | refine wa ?_ | refine wc ?_ | refine wd ?_ | refine wf ?_ | ((refine wl rfl rfl ?_ ?_)))
        · exact ⟨rfl, rfl, by omega, by rw [ints_len, natI_len, hp]; simp⟩
        first | refine OpsAt.say (d := 41) rfl (y := .pt (.v (.int .i64 (k : Nat)))) (congrArg D.pt hgd) ?_ | refine Run.say (d := 41) rfl (y := .pt (.v (.int .i64 (k : Nat)))) (congrArg D.pt hgd) ?_ | refine OpsR.say (q := 41) rfl (y := .pt (.v (.int .i64 (k : Nat)))) (congrArg D.pt hgd) ?_ | refine OpsB.say (d := 41) rfl (y := .pt (.v (.int .i64 (k : Nat)))) (congrArg D.pt hgd) ?_
        repeat (first | refine wa ?_ | refine wb ?_ | refine wc ?_ | ((refine wl rfl rfl ?_ ?_); try (first | ((repeat' apply And.intro) <;> first | exact trivial | exact rfl | omega | (simp; done) | (simp; omega)))))
        refine wn (xc rfl rfl rfl rfl (by repeat' (first | exact trivial | exact rfl | assumption | apply And.intro)) hc2 (h2 k hk.1)) rfl ?_
        repeat (first | refine wb ?_)
        have hnx : my k = true → nxf nxt my i k = true := fun h => by simp [nxf, hk.2.1, h]
        have hroom2 := hN.room
        have hnd2 : k ∉ post := by
          rw [hp] at hnd
          have := (List.nodup_append.1 hnd).2.1
          exact (List.nodup_cons.1 this).1
        refine Run.condB rfl rfl (fun hm => ?_) (fun hm => ?_)
        · repeat (first | refine wa ?_ | refine wc ?_ | ((refine wl rfl rfl ?_ ?_); try (first | ((repeat' apply And.intro) <;> first | exact trivial | exact rfl | omega | (simp; done) | (simp; omega)))))
          refine wn (wA rfl rfl rfl (by repeat' (first | exact trivial | exact rfl | assumption | apply And.intro)) (callable (by decide)) (c_With hd k hN.lt)) rfl ?_
          repeat (first | refine wb ?_ | refine wc ?_ | ((refine wl rfl rfl ?_ ?_); try (first | exact trivial | ((repeat' apply And.intro) <;> first | exact trivial | exact rfl | omega | (simp; done) | (simp; omega)))) | (refine wx rfl rfl (.vw (vwOf_sound rfl)) rfl rfl ?_ ?_ rfl ?_; (try (simp <;> omega)); (try (first | (simp <;> omega) | (simp [maxLen] <;> omega)))))
          · simp [ints, natI]; omega
          · simp [ints, natI, maxLen]; omega
          repeat (first | refine wb ?_ | refine wc ?_ | refine we ?_ | ((first | refine wl rfl rfl ?_ ?_ | refine wn (wp rfl rfl rfl rfl rfl ?_) rfl ?_); try (first | ((repeat' apply And.intro) <;> first | exact trivial | exact rfl | omega | (simp; done) | (simp; omega)))) | refine ww rfl rfl rfl ?_)
          first | refine OpsAt.say (d := 8) rfl (y := .own false 3 1 (ints (natI (sk ++ [k])))) (by simp [ints, natI]) ?_ | refine Run.say (d := 8) rfl (y := .own false 3 1 (ints (natI (sk ++ [k])))) (by simp [ints, natI]) ?_ | refine OpsR.say (q := 8) rfl (y := .own false 3 1 (ints (natI (sk ++ [k])))) (by simp [ints, natI]) ?_ | refine OpsB.say (d := 8) rfl (y := .own false 3 1 (ints (natI (sk ++ [k])))) (by simp [ints, natI]) ?_
          first | refine OpsAt.say (d := 39) rfl (y := .v (.int .i64 ((pre ++ [k]).length : Nat))) (by rw [wrap64_in ((pre.length : Int) + 1) (by omega)]; simp) ?_ | refine Run.say (d := 39) rfl (y := .v (.int .i64 ((pre ++ [k]).length : Nat))) (by rw [wrap64_in ((pre.length : Int) + 1) (by omega)]; simp) ?_ | refine OpsR.say (q := 39) rfl (y := .v (.int .i64 ((pre ++ [k]).length : Nat))) (by rw [wrap64_in ((pre.length : Int) + 1) (by omega)]; simp) ?_ | refine OpsB.say (d := 39) rfl (y := .v (.int .i64 ((pre ++ [k]).length : Nat))) (by rw [wrap64_in ((pre.length : Int) + 1) (by omega)]; simp) ?_
          refine Run.keep [1, 2, 7, 8, 37, 38, 39] rfl ?_
          have hbw : ∀ j, (withN hd (k : Int)).testBit j = true ↔ hd.testBit j = true ∨ k = j := fun j => by rw [with_bit (by omega)]; simp
          have hcw := cnt_with (s := hd) (k := k) (by omega) hk0 32 hk.1
          refine ih2 (pre ++ [k], post, withN hd (k : Int), sk ++ [k], false) ⟨by simp [hp], hN.push (hsub i hi) hk.1 (hnx hm) hk0, (fun h => by cases h), fun j hj => (hbw j).2 (.inl (hsub j hj)), fun j hj hmj => ?_, fun j hj => ?_, ?_⟩ (by simp)
          · simp only [List.mem_append, List.mem_singleton] at hj
            rcases hj with hj | rfl
            · exact (hbw j).2 (.inl (hpre j hj hmj))
            · exact (hbw j).2 (.inr rfl)
          · have h3 := hpost j (by simp [hj])
            have h4 : ¬ k = j := by rintro rfl; exact hnd2 hj
            rw [with_bit (by omega), h3]
            simp [h4]
          · simp only [List.length_append, List.length_singleton]
            omega
        · repeat (first | refine wb ?_ | refine wc ?_ | refine we ?_ | refine wf ?_ | ((first | refine wl rfl rfl ?_ ?_ | refine wn (wp rfl rfl rfl rfl rfl ?_) rfl ?_); try (first | ((repeat' apply And.intro) <;> first | exact trivial | exact rfl | omega | (simp; done) | (simp; omega)))))
          first | refine OpsAt.say (d := 39) rfl (y := .v (.int .i64 ((pre ++ [k]).length : Nat))) (by rw [wrap64_in ((pre.length : Int) + 1) (by omega)]; simp) ?_ | refine Run.say (d := 39) rfl (y := .v (.int .i64 ((pre ++ [k]).length : Nat))) (by rw [wrap64_in ((pre.length : Int) + 1) (by omega)]; simp) ?_ | refine OpsR.say (q := 39) rfl (y := .v (.int .i64 ((pre ++ [k]).length : Nat))) (by rw [wrap64_in ((pre.length : Int) + 1) (by omega)]; simp) ?_ | refine OpsB.say (d := 39) rfl (y := .v (.int .i64 ((pre ++ [k]).length : Nat))) (by rw [wrap64_in ((pre.length : Int) + 1) (by omega)]; simp) ?_
          refine Run.keep [1, 2, 7, 8, 37, 38, 39] rfl ?_
          refine ih2 (pre ++ [k], post, hd, sk, nl2) ⟨by simp [hp], hN, hnl2, hsub, fun j hj hmj => ?_, fun j hj => hpost j (by simp [hj]), hle⟩ (by simp)
          simp only [List.mem_append, List.mem_singleton] at hj
          rcases hj with hj | rfl
          · exact hpre j hj hmj
          · rw [hm] at hmj; cases hmj
    · have h0 : post = [] := by cases post with | nil => rfl | cons x post => simp at hlen hb; omega
      subst h0
      rw [List.append_nil] at hp
      refine wj rfl ?_
      refine wk rfl ?_
      refine wa ?_
      refine wf ?_
      refine Run.keep [1, 2, 7, 8] rfl ?_
      refine ih (hd, sk, nl2) ⟨hN.close fun m hm => ?_, hnl2⟩ ?_
      · simp only [nxf, Bool.and_eq_true] at hm
        by_cases h3 : had.testBit m = true
        · exact hsub m h3
        · refine hpre m ?_ hm.2
          rw [← hp, hmem]
          refine ⟨?_, hm.1, by simpa using h3⟩
          rcases Nat.lt_or_ge m 32 with h5 | h5
          · exact h5
          · rw [hi_bit32 (hn i) h5] at hm; cases hm.1
      · simp only [List.length_append, List.length_singleton]
        omega
end Go.Proofs.YtaflihoopnjcgaaDoor

namespace Go.Proofs.YtaflihoopnjcgaaDoor
open Go Go.Shelf Go.RowKit Go.Lib Go.Sort

set_option maxHeartbeats 2000000 in
theorem k_sorted1 (B : Nat) (W : World) (G : Nat → Int) (hc : ∀ t, t < 32 → W.cell? ⟨B, t, none⟩ = some (.int .i64 (G t))) (i j : Nat) (hi : i < 32) (hj : j < 32) :
    Calls Tryd.prog 84 #[.int .i64 i, .int .i64 j, .pointer (some ⟨B, 0, none⟩)] W fun e w' => e = .returned (.int .i64 (Lib.compareInt (G i) (G j))) ∧ ∃ q, w' = W.drewN q := by
  have ci := hc i hi
  have cj := hc j hj
  have hcon := fun W => AnyG.cmp_Compare_int Tryd.cmpInt (G i) (G j) W
  change ∀ W, Calls Tryd.prog 85 _ _ _ at hcon
  generalize Lib.compareInt (G i) (G j) = r at hcon ⊢
  go_enter Tryd.func84, Tryd.ntmps84
  go_wp2
  go_quiet ((go_at_call 85; exact Calls.quiet_of_same (hcon _)))
  go_wp2
  go_ret
  exact ⟨rfl, nq, rfl⟩
end Go.Proofs.YtaflihoopnjcgaaDoor

namespace Go.Proofs.YtaflihoopnjcgaaDoor
open Go Go.Dat

theorem rpa_ints {Sx : Nat → Prop} {w : World} : ∀ {l : List Int} {cs : List Value}, Rpa Sx w 1 (ints l) cs → cs = l.map (Value.int .i64)
  | [], _, h => by simpa [ints, Rpa] using h
  | z :: l, _, h => by
    change Rpa Sx w 1 (.v (.int .i64 z) :: ints l) _ at h
    simp only [Rpa] at h
    obtain ⟨x, y, rfl, _, h1, h2⟩ := h
    simp only [Rp] at h1
    rw [rpa_ints h2, h1.1]
    rfl
theorem ints_rpa {Sx : Nat → Prop} {w : World} : ∀ {l : List Int}, Rpa Sx w 1 (ints l) (l.map (Value.int .i64))
  | [] => by simp [ints, Rpa]
  | z :: l => by
    change Rpa Sx w 1 (.v (.int .i64 z) :: ints l) _
    simp only [Rpa]
    exact ⟨[.int .i64 z], l.map (Value.int .i64), rfl, rfl, by simp [Rp, Value.oneCell'], ints_rpa⟩

open Go.Shelf Go.RowKit Go.Lib Go.Sort

def encF (i : Fin 32) : Value := .int .i64 (i.val : Int)
def cfO (l : List Int) (x y : Fin 32) : Int := Lib.compareInt (l.getD x.val 0) (l.getD y.val 0)
theorem ltO (l : List Int) (x y : Fin 32) : ltOf (cfO l) x y = decide (l.getD x.val 0 < l.getD y.val 0) := by
  unfold ltOf cfO Lib.compareInt
  generalize l.getD x.val 0 = p
  generalize l.getD y.val 0 = q
  by_cases h1 : p < q
  · simp [h1]
  · by_cases h2 : q < p <;> simp [h1, h2]
theorem swoO (l : List Int) : SWO (ltOf (cfO l)) where
  irrefl x := by rw [ltO]; simp
  trans x y z h1 h2 := by rw [ltO] at *; simp at *; omega
  ntrans x y z h1 h2 := by rw [ltO] at *; simp at *; omega
theorem totO {l : List Int} (h : Perm32 l) (x y : Fin 32) (h1 : ltOf (cfO l) x y = false) (h2 : ltOf (cfO l) y x = false) : x = y := by
  rw [ltO] at h1 h2
  simp only [decide_eq_false_iff_not] at h1 h2
  have e1 := (h.pl_eq x.isLt).1
  have e2 := (h.pl_eq y.isLt).1
  exact Fin.ext (h.inj x.isLt y.isLt (by omega))
/-- Sorted by places. -/
def sortF (l : List Int) (fs : List (Fin 32)) : List (Fin 32) := fs.mergeSort fun x y => !(ltOf (cfO l)) y x

theorem cmpLaysO {l : List Int} (blk B size : Nat) (w : World) (hne : B ≠ blk) (hB : B < w.heap.size) (hc : ∀ t, t < 32 → w.cell? ⟨B, t, none⟩ = some (.int .i64 (l.getD t 0))) :
    CmpLays1 Tryd.prog 84 #[.pointer (some ⟨B, 0, none⟩)] encF (cfO l) blk 0 size w := by
  intro m os dk hs x y
  have hc' : ∀ t, t < 32 → (sortWorld encF w blk 0 m dk os).cell? ⟨B, t, none⟩ = some (.int .i64 (l.getD t 0)) := by
    intro t ht
    unfold sortWorld
    rw [cell?_grow _ _ _ (by simpa using hB), cell?_putRow_other _ _ blk 0 dk _ (Or.inl hne)]
    exact hc t ht
  refine (k_sorted1 B _ (fun t => l.getD t 0) hc' x.val y.val x.isLt y.isLt).mono ?_
  rintro e w' ⟨he, q, hq⟩
  exact ⟨he, q, #[], by rw [hq, grow_empty]⟩

theorem putCells_take {enc : Fin 32 → Value} (d : Array (Fin 32)) (c : Array Value) (h : d.size ≤ c.size) : (putCells enc 0 d c).toList.take d.size = d.toList.map enc := by
  apply List.ext_getElem?
  intro j
  rw [List.getElem?_take, List.getElem?_map]
  by_cases hj : j < d.size
  · have hc : j < c.size := by omega
    simp only [hj, if_true, putCells, Array.toList_mapIdx, List.getElem?_mapIdx]
    simp [hj, hc, getElem!_pos]
  · simp [hj]

theorem sortWorld_row {w : World} {g n : Nat} {d : Array (Fin 32)} {os : Array Obj} {cur : Array Value} {e : TypeId} {fr : Nat × Nat} (hg : w.heap[g]? = some (.cells cur e fr)) : (sortWorld encF w g 0 n d os).heap[g]? = some (.cells (putCells encF 0 d cur) e fr) := by
  have hlt : g < w.heap.size := (Array.getElem?_eq_some_iff.1 hg).1
  unfold sortWorld
  rw [heap_grow_old _ _ (by simpa using hlt)]
  show ((Sort.ahead w n).heap.modify g (onCells (putCells encF 0 d)))[g]? = _
  rw [Array.getElem?_modify, if_pos rfl]
  show (w.heap[g]?).map _ = _
  rw [hg]
  rfl
theorem sortWorld_old {w : World} {g n : Nat} {d : Array (Fin 32)} {os : Array Obj} {b : Nat} (hb : b < w.heap.size) (hne : b ≠ g) : (sortWorld encF w g 0 n d os).heap[b]? = w.heap[b]? := by
  unfold sortWorld
  rw [heap_grow_old _ _ (by simpa using hb)]
  show ((Sort.ahead w n).heap.modify g (onCells (putCells encF 0 d)))[b]? = _
  rw [Array.getElem?_modify, if_neg (fun h => hne h.symm)]
  rfl
theorem sortWorld_size {w : World} {g n : Nat} {d : Array (Fin 32)} {os : Array Obj} : w.heap.size ≤ (sortWorld encF w g 0 n d os).heap.size := by
  unfold sortWorld
  simp

theorem wpOp_plain {P : Program} {ops : Array Oper} {Q : Exit → Act → World → Prop} {i : Nat} {o : Oper} {K : Act → World → Prop} {a : Act} {w : World} (h : ops[i]? = some o) (hg : o.guard = none) (hw : o.wp P a w K Q) : wpOp P ops Q i K a w := by
  unfold wpOp
  rw [h]
  simp only [Region.wanted, hg, if_true]
  exact .inl hw

theorem fins {ns : List Nat} (h : ∀ i ∈ ns, i < 32) : ∃ fs : List (Fin 32), fs.map (·.val) = ns := by
  induction ns with
  | nil => exact ⟨[], rfl⟩
  | cons n ns ih =>
    obtain ⟨fs, hf⟩ := ih fun i hi => h i (by simp [hi])
    exact ⟨⟨n, h n (by simp)⟩ :: fs, by simp [hf]⟩

def fI (fs : List (Fin 32)) : List Int := natI (fs.map (·.val))
theorem fI_enc (fs : List (Fin 32)) : (fI fs).map (Value.int .i64) = fs.map encF := by
  simp only [fI, natI, List.map_map]
  rfl
theorem fI_len (fs : List (Fin 32)) : (fI fs).length = fs.length := by simp [fI, natI]

theorem raw_sort {n id dm df dc : Nat} {o0 o1 o2 : Oper} {ts : Array TypeId} {nl : Bool} {e : TypeId} {l : List Int} {fs : List (Fin 32)} (hp : Perm32 l) (hlen : fs.length ≤ 64)
    (h0 : o0.op = .move (.tmp 5)) (g0 : o0.guard = none) (d0 : o0.dst = some dm) (h1 : o1.op = .makeFunc (.func 84) #[] #[.tmp 2]) (g1 : o1.guard = none) (d1 : o1.dst = some df)
    (h2 : o2.op = .call { callee := .value (.func 83), args := #[.tmp dm, .tmp df], argTypes := ts }) (g2 : o2.guard = none) (d2 : o2.dst = some dc)
    (hn : dm < n ∧ df < n ∧ dc < n) (hne : dm ≠ 2 ∧ dm ≠ 5 ∧ df ≠ 2 ∧ df ≠ 5 ∧ dc ≠ 2 ∧ dc ≠ 5 ∧ dm ≠ df) (hcal : Callable Tryd.prog 83) (hcal1 : Callable Tryd.prog 84) :
    RawCode Tryd.prog n (.region id #[o0, o1, o2] false) (lk [(2, .box (ord l)), (5, .d (.own nl e 1 (ints (fI fs))))]) (lk [(2, .box (ord l)), (5, .d (.own nl e 1 (ints (fI (sortF l fs)))))]) := by
  intro ρ w a b k cs hI
  obtain ⟨e1, a', w', ⟨rfl, h3, ρ', h4, h5⟩, harr⟩ : ∃ e' a' w', (e' = Exit.normal ∧ After n ρ w a (lk [(2, .box (ord l)), (5, .d (.own nl e 1 (ints (fI (sortF l fs)))))]) a' w') ∧ Arrives Tryd.prog (lone (b.at a (.code (.region id #[o0, o1, o2] false) :: k)) cs w) b k cs e' a' w' := by
    refine wp_region (Q := fun e' a' w' => e' = Exit.normal ∧ After n ρ w a (lk [(2, .box (ord l)), (5, .d (.own nl e 1 (ints (fI (sortF l fs)))))]) a' w') ?_ b k cs
    obtain ⟨B, bcs, hb1, hb2, ⟨be, hb3⟩, hb4⟩ := hI.box (s := 2) (x := ord l) rfl
    have hbs := rpa_ints (by simpa only [Rp, ord] using (RB.plain (ord l) (ord_pl l)).1 hb4)
    have hown := RV.own (hI.slot 5)
    obtain ⟨v, hv⟩ : ∃ v, v = a.tmps.getD 5 undef := ⟨_, rfl⟩
    rw [← hv] at hown
    obtain ⟨cells, ⟨hcl, hrow⟩, hrp, hnil, htag⟩ := hown
    have hcells := rpa_ints hrp
    rw [fI_enc] at hcells
    rw [ints_len, fI_len] at hrow hcl
    have hsize := hI.size
    have hperm : (sortF l fs).Perm fs := List.mergeSort_perm _ _
    have fin : ∀ (w1 : World) (c1 c2 r : Value), w1.os = w.os → w1.tape = w.tape → w1.output = w.output → w.heap.size ≤ w1.heap.size → (∀ b, b < w.heap.size → (∀ g, v.ownBlock = some g → b ≠ g) → w1.heap[b]? = w.heap[b]?) → w1.ownsRow 0 e 1 v fs.length ((sortF l fs).map encF) →
        After n ρ w a (lk [(2, .box (ord l)), (5, .d (.own nl e 1 (ints (fI (sortF l fs)))))]) { a with tmps := ((a.tmps.setIfInBounds dm c1).setIfInBounds df c2).setIfInBounds dc r } w1 := by
      intro w1 c1 c2 r k1 k2 k3 k4 k5 k6
      have hset : ∀ u, u ≠ dm → u ≠ df → u ≠ dc → (((a.tmps.setIfInBounds dm c1).setIfInBounds df c2).setIfInBounds dc r).getD u undef = a.tmps.getD u undef := fun u u1 u2 u3 => by
        rw [getD_put _ _ _ _ (by simp; omega), if_neg (fun h => u3 h.symm), getD_put _ _ _ _ (by simp; omega), if_neg (fun h => u2 h.symm), getD_put _ _ _ _ (by omega), if_neg (fun h => u1 h.symm)]
      have hkeep : ∀ b, b < w.heap.size → ρ b ≠ .sl 5 [] → w1.heap[b]? = w.heap[b]? := fun b hb1 hb2 => k5 b hb1 fun g hg => by rintro rfl; exact hb2 (htag b hg)
      refine ⟨rfl, ρ, ⟨fun _ h => h, fun _ _ h => h, fun b hb ht => hkeep b hb (by rcases ht with h | h <;> rw [h] <;> simp), k1, k2, k3, k4⟩, by simp [hI.size], fun b hb => Nat.lt_of_lt_of_le (hI.lt b hb) k4, hI.tab.mono (fun b hb => ⟨hb, hkeep b (hI.lt b (by simp only [sh] at hb; rw [hb]; simp)) (by simp only [sh] at hb; rw [hb]; simp)⟩), fun u => ?_⟩
      by_cases u2 : u = 2
      · subst u2
        rw [hset 2 (by omega) (by omega) (by omega)]
        refine ⟨B, bcs, hb1, hb2, ⟨be, by rw [hkeep B (hI.lt B (by rw [hb2]; simp)) (by rw [hb2]; simp)]; exact hb3⟩, (RB.plain (ord l) (ord_pl l)).2 ?_⟩
        simp only [Rp, ord]
        rw [hbs]
        exact ints_rpa
      · by_cases u5 : u = 5
        · subst u5
          rw [hset 5 (by omega) (by omega) (by omega), ← hv]
          refine RV.ofOwn ⟨(sortF l fs).map encF, ?_, ?_, hnil, htag⟩
          · rw [ints_len, fI_len, hperm.length_eq]
            exact k6
          · rw [← fI_enc]
            exact ints_rpa
        · have : lk [(2, Slot.box (ord l)), (5, .d (.own nl e 1 (ints (fI (sortF l fs)))))] u = .un := by
            have a2 : ¬ 2 = u := fun h => u2 h.symm
            have a5 : ¬ 5 = u := fun h => u5 h.symm
            simp [lk, a2, a5]
          rw [this]
          trivial
    obtain ⟨fv, hfv⟩ : ∃ fv, fv = Value.func (.func 84) #[] #[.pointer (some ⟨B, 0, none⟩)] := ⟨_, rfl⟩
    rw [show List.range (#[o0, o1, o2] : Array Oper).size = [0, 1, 2] from rfl, wpOps_cons]
    refine wpOp_plain (o := o0) rfl g0 (oper_val (v := v) (w' := w) (by simp [execOp, h0, eval_tmp, hv]) ?_)
    rw [put_some d0, wpOps_cons]
    have hb1' : (a.tmps.setIfInBounds dm v).getD 2 undef = .pointer (some ⟨B, 0, none⟩) := by rw [getD_put _ _ _ _ (by omega), if_neg (by omega), hb1]
    refine wpOp_plain (o := o1) rfl g1 (oper_val (v := fv) (w' := w) (by simp [execOp, h1, eval_tmp, hb1', hfv, Instr.makeFunc]) ?_)
    rw [put_some d1, wpOps_cons]
    refine wpOp_plain (o := o2) rfl g2 ?_
    unfold Oper.wp
    rw [callValue_run (first := #[]) (cap := #[]) h2 rfl hcal]
    have hm : ((a.tmps.setIfInBounds dm v).setIfInBounds df fv).getD dm undef = v := by rw [getD_put _ _ _ _ (by simp; omega), if_neg (by omega), getD_put _ _ _ _ (by omega), if_pos rfl]
    have hf : ((a.tmps.setIfInBounds dm v).setIfInBounds df fv).getD df undef = fv := by rw [getD_put _ _ _ _ (by simp; omega), if_pos rfl]
    have hargs : #[] ++ (#[Operand.tmp dm, Operand.tmp df].map ({ a with tmps := (a.tmps.setIfInBounds dm v).setIfInBounds df fv } : Act).eval) ++ #[] = #[v, fv] := by
      simp [eval_tmp, hm, hf]
    have hBc : ∀ t, t < 32 → w.cell? ⟨B, t, none⟩ = some (.int .i64 (l.getD t 0)) := by
      intro t ht
      simp [World.cell?, hb3, hbs, hp.len, ht]
    rw [hargs]
    have hBs : B < w.heap.size := hI.lt B (by rw [hb2]; simp)
    have hms : (sortF l fs).length = fs.length := hperm.length_eq
    rcases hrow with ⟨rfl, hl0⟩ | ⟨g, cap, cur, rfl, _, hg, hc1, hc2, hc3, htake⟩
    · have hfs : fs = [] := List.eq_nil_of_length_eq_zero hl0
      subst hfs
      have hS := AnyF.slices_SortFunc_none (P := Tryd.prog) (ρ := Tryd.sortInt_ren) { Tryd.sortInt with } none 0 fv w
      change Calls Tryd.prog 83 _ _ _ at hS
      refine hS.mono ?_
      rintro e1 w' ⟨rfl, rfl⟩
      show wpOps Tryd.prog #[o0, o1, o2] _ [] (Act.put _ o2.dst _) _
      rw [put_some d2]
      exact ⟨rfl, fin _ _ _ _ rfl rfl rfl (Nat.le_refl _) (fun _ _ _ => rfl) ⟨by simp [sortF], .inl ⟨rfl, rfl⟩⟩⟩
    · have hgs : g < w.heap.size := (Array.getElem?_eq_some_iff.1 hg).1
      have hgt : ρ g = .sl 5 [] := htag g rfl
      have hne2 : B ≠ g := by rintro rfl; rw [hb2] at hgt; cases hgt
      have hH : Holds encF w g 0 fs.toArray := by
        intro j hj
        simp only [List.size_toArray] at hj
        have hct : cur.toList.take fs.length = fs.map encF := by rw [← hcells, ← htake, Nat.mul_one]
        have hcur : cur.toList[j]? = some (encF fs.toArray[j]!) := by
          have := congrArg (fun z => z[j]?) hct
          simp only [List.getElem?_take, hj, if_true, List.getElem?_map] at this
          rw [this]
          simp [hj]
        refine ⟨?_, by simp [World.frozen?, hg]⟩
        simp only [World.cell?, hg, Nat.zero_add]
        simpa using hcur
      have hS := Any.slices_SortFunc_total (P := Tryd.prog) (ρ := Tryd.sortInt_ren) Tryd.sortInt encF (fun _ => rfl) (cfO l) (swoO l) 84 #[.pointer (some ⟨B, 0, none⟩)] g 0 cap fs.toArray w
        (fun _ _ => callFunc_run hcal1) (cmpLaysO g B _ w hne2 hBs hBc) hH hgs (by simp only [List.size_toArray]; omega) (totO hp)
      change Calls Tryd.prog 83 _ _ _ at hS
      rw [List.size_toArray, ← hfv] at hS
      refine hS.mono ?_
      rintro e1 w' ⟨rfl, q, os, rfl⟩
      show wpOps Tryd.prog #[o0, o1, o2] _ [] (Act.put _ o2.dst _) _
      rw [put_some d2]
      refine ⟨rfl, fin _ _ _ _ rfl rfl rfl sortWorld_size (fun b hb hbg => sortWorld_old hb (hbg g rfl)) ⟨by simp [hms], .inr ⟨g, cap, _, rfl, Nat.zero_le _, sortWorld_row hg, hc1, hc2, ?_, ?_⟩⟩⟩
      · simp [putCells, hc3]
      · rw [Nat.mul_one]
        have := putCells_take (enc := encF) (sortF l fs).toArray cur (by simp [hms]; omega)
        simp only [List.size_toArray, hms] at this
        exact this
  exact ⟨a', w', harr, h3, ρ', h4, h5⟩

theorem sortF_byO {l : List Int} (hp : Perm32 l) {s : Nat} (hs : s < 4294967296) {fs : List (Fin 32)} (hf : fs.map (·.val) = itemsL s) : (sortF l fs).map (·.val) = byO l s := by
  have hperm : (sortF l fs).Perm fs := List.mergeSort_perm _ _
  have hle : ∀ x y : Fin 32, (!(ltOf (cfO l)) y x) = decide (pl l x.val ≤ pl l y.val) := fun x y => by
    rw [ltO, (hp.pl_eq x.isLt).1, (hp.pl_eq y.isLt).1]
    by_cases h : pl l x.val ≤ pl l y.val
    · have : ¬ ((pl l y.val : Int) < (pl l x.val : Int)) := by omega
      rw [decide_eq_false this, decide_eq_true h]; rfl
    · have : ((pl l y.val : Int) < (pl l x.val : Int)) := by omega
      rw [decide_eq_true this, decide_eq_false h]; rfl
  have hsort : (sortF l fs).Pairwise (fun x y => pl l x.val ≤ pl l y.val) := by
    have := List.pairwise_mergeSort (le := fun x y : Fin 32 => !(ltOf (cfO l)) y x) (fun a b c h1 h2 => by simp only [hle, decide_eq_true_eq] at *; omega) (fun a b => by simp only [hle, Bool.or_eq_true, decide_eq_true_eq]; omega) fs
    exact this.imp fun {a b} h => by simpa only [hle, decide_eq_true_eq] using h
  have hnd : (sortF l fs).Nodup := hperm.nodup_iff.2 (by
    have := itemsL_nodup s
    rw [← hf] at this
    exact (List.pairwise_map.1 this).imp fun {a b} h => by rintro rfl; exact h rfl)
  refine hp.byO_uniq ?_ fun i => ?_
  · rw [List.pairwise_map]
    refine (hsort.and hnd).imp fun {a b} h => ?_
    have : pl l a.val ≠ pl l b.val := fun e => h.2 (Fin.ext (hp.inj a.isLt b.isLt e))
    omega
  · rw [(hperm.map _).mem_iff, hf, itemsL_mem]
    constructor
    · rintro ⟨_, h⟩
      refine ⟨?_, h⟩
      rcases Nat.lt_or_ge i 32 with h5 | h5
      · exact h5
      · rw [hi_bit32 hs h5] at h; cases h
    · rintro ⟨h1, h2⟩
      exact ⟨by omega, h2⟩

theorem c_sorted (l : List Int) (s : Nat) (hp : Perm32 l) (hs : s < 4294967296) : DFun Tryd.prog 78 [ord l, S s] (.own (byO l s).isEmpty 3 1 (ints (natI (byO l s)))) := by
  refine DFun.ofRun agree mixed Tryd.func78 rfl rfl ?_
  skip
  refine wa ?_
  refine wc ?_
  repeat (first | ((refine wl rfl rfl ?_ ?_)))
  · exact ord_pl l
  repeat (first | refine wb ?_ | ((refine wl rfl rfl ?_ ?_); try (first | exact trivial)))
  refine wa ?_
  refine wc ?_
  repeat (first | ((refine wl rfl rfl ?_ ?_); try (first | ((repeat' apply And.intro) <;> first | exact trivial | exact rfl | omega | (simp; done) | (simp; omega)))))
  refine wn (wA rfl rfl rfl (by repeat' (first | exact trivial | exact rfl | assumption | apply And.intro)) (callable (by decide)) (c_ItemsO s (Nat.lt_trans hs (by decide)))) rfl ?_
  repeat (first | refine wb ?_ | refine ww rfl rfl rfl ?_)
  refine wa ?_
  obtain ⟨fs, hf⟩ := fins (ns := itemsL s) (fun i hi => by
    have := (itemsL_mem.1 hi).2
    rcases Nat.lt_or_ge i 32 with h5 | h5
    · exact h5
    · rw [hi_bit32 hs h5] at this; cases this)
  have hfl : fs.length ≤ 64 := by
    have := itemsL_le s
    rw [← hf, List.length_map] at this
    exact this
  have hby := sortF_byO hp hs hf
  refine Run.keep [2, 5] rfl ?_
  refine Run.at (l' := [(2, .box (ord l)), (5, .d (.own (itemsN s).isEmpty 3 1 (ints (fI fs))))]) (by rw [fI, hf, itemsN_eq]; rfl) ?_
  refine Run.raw (raw_sort hp hfl rfl rfl rfl rfl rfl rfl rfl rfl rfl (by decide) (by decide) (callable (by decide)) (callable (by decide))) ?_
  repeat (first | refine wa ?_ | refine wb ?_ | refine wc ?_ | ((refine wl rfl rfl ?_ ?_); try (first | exact trivial)))
  refine wD (Ends.viewE rfl rfl rfl ?_)
  have he : (itemsN s).isEmpty = (byO l s).isEmpty := by
    rw [itemsN_eq, ← hf, ← hby]
    have hl : (sortF l fs).length = fs.length := (List.mergeSort_perm _ _).length_eq
    cases h1 : sortF l fs with
    | nil => rw [h1] at hl; rw [List.eq_nil_of_length_eq_zero (l := fs) (by simpa using hl.symm)]; rfl
    | cons a b =>
      cases fs with
      | nil => rw [h1] at hl; cases hl
      | cons c d => rfl
  rw [he, fI, hby]
end Go.Proofs.YtaflihoopnjcgaaDoor

namespace Go.Proofs.YtaflihoopnjcgaaDoor
open Go Go.Dat

theorem c_Grow (n : Nat) (hn : n ≤ 1000) : DFun Tryd.prog 86 [.lst .nl 0 [], .v (.int .i64 n)] (.own (n == 0) 3 1 []) := by
  classical
  intro Sx w vals hS hT hv
  have hlt : ∀ b, tagS Sx b ≠ .other → b < w.heap.size := fun b hb => hS b (Classical.byContradiction fun hne => hb (by simp [tagS, hne]))
  simp only [Rpv] at hv
  obtain ⟨u, y, cs, rfl, h1, h2, u2, y2, cs2, rfl, h3, h4, rfl⟩ := hv
  simp only [Rp] at h1 h3
  obtain ⟨ad, l0, c0, rfl, h5, _⟩ := h1
  simp only [Hdr] at h5
  obtain ⟨rfl, rfl, rfl, _⟩ := h5
  obtain ⟨rfl, _⟩ := h3
  simp only [VC] at h2 h4
  obtain rfl : u = .slice none 0 0 := by simpa using h2.symm
  obtain rfl : u2 = .int .i64 n := by simpa using h4.symm
  obtain ⟨hu, i, z, i1, i2, i3, i4, i5, i6⟩ := agree.says (T := 48) (td := .sl 3 1 8) rfl
  by_cases h0 : n = 0
  · subst h0
    have h := Any8.slices_Grow_room (P := Tryd.prog) (ρ := Tryd.growInt_ren) Tryd.growInt none 0 0 0 w (Nat.le_refl _) (by decide) (by decide) (by decide)
    change Calls Tryd.prog 86 _ _ _ at h
    refine h.mono ?_
    rintro e w' ⟨rfl, rfl⟩
    refine ⟨_, _, rfl, Grow.refl hlt, [.slice none 0 0], ?_, rfl⟩
    simp only [RB]
    exact ⟨_, rfl, [], World.ownsRow_nil _ 0 _ _, by simp [Rpa], by simp, by simp [Value.ownBlock]⟩
  · have h := Any8.slices_Grow_grow (P := Tryd.prog) (ρ := Tryd.growInt_ren) Tryd.growInt i z i1 i4 (by rw [i2]; decide) none 0 0 n [] w (Nat.le_refl _) (by omega) (by rw [i3]; omega) (by omega) (by simp) (fun _ => rfl) (fun a h => by cases h)
    change Calls Tryd.prog 86 _ _ _ at h
    refine h.mono ?_
    rintro e w' ⟨rfl, rfl⟩
    have hb : (n == 0) = false := by simpa using h0
    rw [hb]
    refine ⟨_, _, rfl, (Grow.refl hlt).drew.trans (Grow.alloc (w := w.drew) hlt (.sl 0 []) _), ?_⟩
    refine RS.newOwn (w := w.drew) (tmps := #[]) (E := fun _ => .un) (t := 0) (xs := []) hlt (Nat.zero_le _) (grownCap_le_maxLen w _ 0 _ (by simp only [maxLen]; omega)) ?_ (by simp [Rpa]) (by simp)
    have hge := grownCap_ge w (0 + n) 0 (Tryd.growInt_ren.t 25)
    simp only [Array.size_append, List.size_toArray, List.length_nil, size_zeroCells, i5]
    omega

def rows (xss : List (List Nat)) : List D := xss.map fun x => .lst .any 1 (ints (natI x))
theorem rows_len (xss : List (List Nat)) : (rows xss).length = xss.length := by simp [rows]
theorem rows_pre (pre post : List (List Nat)) (x : List Nat) : (rows (pre ++ x :: post)).getD ((pre.length : Int)).toNat un = .lst .any 1 (ints (natI x)) := by simp [rows]
theorem flat_le {pre post : List (List Nat)} : (pre.flatten).length ≤ ((pre ++ post).flatten).length := by simp

theorem c_Concat (xss : List (List Nat)) (h1 : xss.length ≤ 1000) (h2 : xss.flatten.length ≤ 1000) : DFun Tryd.prog 79 [.lst .any 1 (rows xss)] (.own (xss.flatten.length == 0) 3 1 (ints (natI xss.flatten))) := by
  refine DFun.ofRun agree mixed Tryd.func79 rfl rfl ?_
  repeat (first | refine wa ?_ | refine wb ?_ | refine wc ?_ | refine wd ?_ | ((first | refine wl rfl rfl ?_ ?_ | refine wn (wq agree rfl rfl rfl ?_) rfl ?_); try (first | exact trivial | ((repeat' apply And.intro) <;> first | exact trivial | exact rfl | omega | (simp; done) | (simp; omega)))))
  refine Run.keep [0, 3, 9, 10, 11] rfl ?_
  have hl : ((rows xss).length : Int) = xss.length := by rw [rows_len]
  refine Run.at (l' := [(0, .d (.lst .any 1 (rows xss))), (3, .d (.v (.int .i64 (0 : Nat)))), (9, .d (.lst .any 1 (rows xss))), (10, .d (.v (.int .i64 xss.length))), (11, .d (.v (.int .i64 (0 : Nat))))]) (by rw [← hl]; rfl) ?_
  refine Run.loopL (α := List (List Nat) × List (List Nat)) (fun q => xss = q.1 ++ q.2) (fun q => [(0, .d (.lst .any 1 (rows xss))), (3, .d (.v (.int .i64 q.1.flatten.length))), (9, .d (.lst .any 1 (rows xss))), (10, .d (.v (.int .i64 xss.length))), (11, .d (.v (.int .i64 q.1.length)))]) (fun q => q.2.length) ([], xss) rfl ?_
  rintro ⟨pre, post⟩ hp ih
  simp only at hp
  have hlen : xss.length = pre.length + post.length := by rw [hp]; simp
  refine Run.at (l' := [(0, .d (.lst .any 1 (rows xss))), (3, .d (.v (.int .i64 pre.flatten.length))), (9, .d (.lst .any 1 (rows xss))), (10, .d (.v (.int .i64 xss.length))), (11, .d (.v (.int .i64 pre.length)))]) rfl ?_
  repeat (first | refine wa ?_ | refine wb ?_ | refine wc ?_ | ((refine wn (wp rfl rfl rfl rfl rfl ?_) rfl ?_); try (first | ((repeat' apply And.intro) <;> first | exact trivial | exact rfl | omega | (simp; done) | (simp; omega)))))
  refine Run.condB rfl rfl (fun hb => ?_) (fun hb => ?_)
  · cases post with
    | nil => simp at hlen hb; omega
    | cons x post =>
      have hgd : (rows xss).getD ((pre.length : Int)).toNat un = .lst .any 1 (ints (natI x)) := by rw [hp]; exact rows_pre pre post x
      have hfl : pre.flatten.length + x.length ≤ 1000 := by rw [hp] at h2; simp at h2; simp; omega
      repeat (first | refine wa ?_ | refine wc ?_ | refine wd ?_ | refine wf ?_ | ((refine wl rfl rfl ?_ ?_)))
      · exact ⟨rfl, rfl, by omega, by rw [rows_len, hp]; simp⟩
      first | refine OpsAt.say (d := 13) rfl (y := .pt (.lst .any 1 (ints (natI x)))) (congrArg D.pt hgd) ?_ | refine Run.say (d := 13) rfl (y := .pt (.lst .any 1 (ints (natI x)))) (congrArg D.pt hgd) ?_ | refine OpsR.say (q := 13) rfl (y := .pt (.lst .any 1 (ints (natI x)))) (congrArg D.pt hgd) ?_ | refine OpsB.say (d := 13) rfl (y := .pt (.lst .any 1 (ints (natI x)))) (congrArg D.pt hgd) ?_
      repeat (first | refine wa ?_ | refine wb ?_ | refine wc ?_ | ((first | refine wl rfl rfl ?_ ?_ | refine wn (wp rfl rfl rfl rfl rfl ?_) rfl ?_ | refine wn (wq agree rfl rfl rfl ?_) rfl ?_); try (first | ((repeat' apply And.intro) <;> first | exact trivial | exact rfl | omega | (simp; done) | (simp; omega)))))
      have hlx : ((ints (natI x)).length : Int) = x.length := by rw [ints_len, natI_len]
      have hw : IntKind.i64.wrap ((pre.flatten.length : Int) + ((ints (natI x)).length : Int)) = ((pre ++ [x]).flatten.length : Nat) := by rw [hlx, wrap64_in _ (by omega)]; simp
      refine Run.condB rfl rfl (fun hneg => ?_) (fun hneg => ?_)
      · rw [hw] at hneg
        have := of_decide_eq_true hneg
        omega
      · repeat (first | refine wb ?_ | refine wc ?_ | refine we ?_ | refine wf ?_ | ((first | refine wl rfl rfl ?_ ?_ | refine wn (wp rfl rfl rfl rfl rfl ?_) rfl ?_); try (first | ((repeat' apply And.intro) <;> first | exact trivial | exact rfl | omega | (simp; done) | (simp; omega)))))
        first | refine OpsAt.say (d := 3) rfl (y := .v (.int .i64 ((pre ++ [x]).flatten.length : Nat))) (congrArg (fun z => D.v (.int .i64 z)) hw) ?_ | refine Run.say (d := 3) rfl (y := .v (.int .i64 ((pre ++ [x]).flatten.length : Nat))) (congrArg (fun z => D.v (.int .i64 z)) hw) ?_ | refine OpsR.say (q := 3) rfl (y := .v (.int .i64 ((pre ++ [x]).flatten.length : Nat))) (congrArg (fun z => D.v (.int .i64 z)) hw) ?_ | refine OpsB.say (d := 3) rfl (y := .v (.int .i64 ((pre ++ [x]).flatten.length : Nat))) (congrArg (fun z => D.v (.int .i64 z)) hw) ?_
        first | refine OpsAt.say (d := 11) rfl (y := .v (.int .i64 ((pre ++ [x]).length : Nat))) (by rw [wrap64_in ((pre.length : Int) + 1) (by omega)]; simp) ?_ | refine Run.say (d := 11) rfl (y := .v (.int .i64 ((pre ++ [x]).length : Nat))) (by rw [wrap64_in ((pre.length : Int) + 1) (by omega)]; simp) ?_ | refine OpsR.say (q := 11) rfl (y := .v (.int .i64 ((pre ++ [x]).length : Nat))) (by rw [wrap64_in ((pre.length : Int) + 1) (by omega)]; simp) ?_ | refine OpsB.say (d := 11) rfl (y := .v (.int .i64 ((pre ++ [x]).length : Nat))) (by rw [wrap64_in ((pre.length : Int) + 1) (by omega)]; simp) ?_
        refine Run.keep [0, 3, 9, 10, 11] rfl ?_
        exact ih (pre ++ [x], post) (by simp [hp]) (by simp)
  · have h0 : post = [] := by cases post with | nil => rfl | cons x post => simp at hlen hb; omega
    subst h0
    rw [List.append_nil] at hp
    subst hp
    repeat (first | refine wa ?_ | refine wc ?_ | ((refine wl rfl rfl ?_ ?_); try (first | ((repeat' apply And.intro) <;> first | exact trivial | exact rfl | omega | (simp; done) | (simp; omega)))) | refine wj rfl ?_)
    refine wn (wA rfl rfl rfl (by repeat' (first | exact trivial | exact rfl | assumption | apply And.intro)) (callable (by decide)) (c_Grow xss.flatten.length h2)) rfl ?_
    repeat (first | refine wa ?_ | refine wb ?_ | refine wc ?_ | refine wd ?_ | ((first | refine wl rfl rfl ?_ ?_ | refine wn (wq agree rfl rfl rfl ?_) rfl ?_); try (first | exact trivial | ((repeat' apply And.intro) <;> first | exact trivial | exact rfl | omega | (simp; done) | (simp; omega)))) | refine ww rfl rfl rfl ?_)
    refine Run.keep [0, 6, 25, 26, 27] rfl ?_
    refine Run.at (l' := [(0, .d (.lst .any 1 (rows xss))), (6, .d (.own (xss.flatten.length == 0) 3 1 (ints (natI [])))), (25, .d (.lst .any 1 (rows xss))), (26, .d (.v (.int .i64 xss.length))), (27, .d (.v (.int .i64 (0 : Nat))))]) (by rw [← hl]; rfl) ?_
    refine Run.loopL (α := List (List Nat) × List (List Nat)) (fun q => xss = q.1 ++ q.2) (fun q => [(0, .d (.lst .any 1 (rows xss))), (6, .d (.own (xss.flatten.length == 0) 3 1 (ints (natI q.1.flatten)))), (25, .d (.lst .any 1 (rows xss))), (26, .d (.v (.int .i64 xss.length))), (27, .d (.v (.int .i64 q.1.length)))]) (fun q => q.2.length) ([], xss) rfl ?_
    rintro ⟨pre, post⟩ hp ih
    simp only at hp
    have hlen : xss.length = pre.length + post.length := by rw [hp]; simp
    refine Run.at (l' := [(0, .d (.lst .any 1 (rows xss))), (6, .d (.own (xss.flatten.length == 0) 3 1 (ints (natI pre.flatten)))), (25, .d (.lst .any 1 (rows xss))), (26, .d (.v (.int .i64 xss.length))), (27, .d (.v (.int .i64 pre.length)))]) rfl ?_
    repeat (first | refine wa ?_ | refine wb ?_ | refine wc ?_ | ((refine wn (wp rfl rfl rfl rfl rfl ?_) rfl ?_); try (first | ((repeat' apply And.intro) <;> first | exact trivial | exact rfl | omega | (simp; done) | (simp; omega)))))
    refine Run.condB rfl rfl (fun hb2 => ?_) (fun hb2 => ?_)
    · cases post with
      | nil => simp at hlen hb2; omega
      | cons x post =>
        have hgd : (rows xss).getD ((pre.length : Int)).toNat un = .lst .any 1 (ints (natI x)) := by rw [hp]; exact rows_pre pre post x
        have hfl : pre.flatten.length + x.length ≤ 1000 := by rw [hp] at h2; simp at h2; simp; omega
        repeat (first | refine wa ?_ | refine wc ?_ | refine wd ?_ | refine wf ?_ | ((refine wl rfl rfl ?_ ?_)))
        · exact ⟨rfl, rfl, by omega, by rw [rows_len, hp]; simp⟩
        first | refine OpsAt.say (d := 29) rfl (y := .pt (.lst .any 1 (ints (natI x)))) (congrArg D.pt hgd) ?_ | refine Run.say (d := 29) rfl (y := .pt (.lst .any 1 (ints (natI x)))) (congrArg D.pt hgd) ?_ | refine OpsR.say (q := 29) rfl (y := .pt (.lst .any 1 (ints (natI x)))) (congrArg D.pt hgd) ?_ | refine OpsB.say (d := 29) rfl (y := .pt (.lst .any 1 (ints (natI x)))) (congrArg D.pt hgd) ?_
        repeat (first | refine wb ?_ | refine wc ?_ | ((refine wl rfl rfl ?_ ?_); try (first | exact trivial | ((repeat' apply And.intro) <;> first | exact trivial | exact rfl | omega | (simp; done) | (simp; omega)))) | (refine wy rfl rfl rfl rfl rfl rfl ?_ ?_ ?_ ?_; (try (first | trivial | rfl)); (try (simp <;> omega)); (try (first | (simp <;> omega) | (simp [maxLen] <;> omega)))))
        · simp only [ints_len, natI_len]; omega
        · simp only [ints_len, natI_len, maxLen]; omega
        have hnl : (xss.flatten.length == 0 && (ints (natI x)).isEmpty) = (xss.flatten.length == 0) := by
          cases hx : xss.flatten.length == 0 with
          | false => rfl
          | true =>
            have hx0 : xss.flatten.length = 0 := by simpa using hx
            rw [hp] at hx0
            have : x = [] := List.eq_nil_of_length_eq_zero (by simp at hx0; simp [hx0])
            subst this
            rfl
        first | refine OpsAt.say (d := 33) rfl (y := .own (xss.flatten.length == 0) 3 1 (ints (natI (pre ++ [x]).flatten))) (by rw [hnl]; simp [ints, natI]) ?_ | refine Run.say (d := 33) rfl (y := .own (xss.flatten.length == 0) 3 1 (ints (natI (pre ++ [x]).flatten))) (by rw [hnl]; simp [ints, natI]) ?_ | refine OpsR.say (q := 33) rfl (y := .own (xss.flatten.length == 0) 3 1 (ints (natI (pre ++ [x]).flatten))) (by rw [hnl]; simp [ints, natI]) ?_ | refine OpsB.say (d := 33) rfl (y := .own (xss.flatten.length == 0) 3 1 (ints (natI (pre ++ [x]).flatten))) (by rw [hnl]; simp [ints, natI]) ?_
        repeat (first | refine wb ?_ | refine wc ?_ | refine we ?_ | ((first | refine wl rfl rfl ?_ ?_ | refine wn (wp rfl rfl rfl rfl rfl ?_) rfl ?_); try (first | ((repeat' apply And.intro) <;> first | exact trivial | exact rfl | omega | (simp; done) | (simp; omega)))) | refine ww rfl rfl rfl ?_)
        first | refine OpsAt.say (d := 27) rfl (y := .v (.int .i64 ((pre ++ [x]).length : Nat))) (by rw [wrap64_in ((pre.length : Int) + 1) (by omega)]; simp) ?_ | refine Run.say (d := 27) rfl (y := .v (.int .i64 ((pre ++ [x]).length : Nat))) (by rw [wrap64_in ((pre.length : Int) + 1) (by omega)]; simp) ?_ | refine OpsR.say (q := 27) rfl (y := .v (.int .i64 ((pre ++ [x]).length : Nat))) (by rw [wrap64_in ((pre.length : Int) + 1) (by omega)]; simp) ?_ | refine OpsB.say (d := 27) rfl (y := .v (.int .i64 ((pre ++ [x]).length : Nat))) (by rw [wrap64_in ((pre.length : Int) + 1) (by omega)]; simp) ?_
        refine Run.keep [0, 6, 25, 26, 27] rfl ?_
        exact ih (pre ++ [x], post) (by simp [hp]) (by simp)
    · have h0 : post = [] := by cases post with | nil => rfl | cons x post => simp at hlen hb2; omega
      subst h0
      rw [List.append_nil] at hp
      subst hp
      repeat (first | refine wa ?_ | refine wb ?_ | refine wc ?_ | ((refine wl rfl rfl ?_ ?_); try (first | exact trivial)) | refine wj rfl ?_)
      exact wD (Ends.viewE rfl rfl rfl rfl)

/-- The same as c_sorted, the row being anybody's. -/
theorem c_sortedF (l : List Int) (s : Nat) (hp : Perm32 l) (hs : s < 4294967296) : DFun Tryd.prog 78 [ord l, S s] (.lst .any 1 (ints (natI (byO l s)))) := by
  refine DFun.ofRun agree mixed Tryd.func78 rfl rfl ?_
  skip
  refine wa ?_
  refine wc ?_
  repeat (first | ((refine wl rfl rfl ?_ ?_)))
  · exact ord_pl l
  repeat (first | refine wb ?_ | ((refine wl rfl rfl ?_ ?_); try (first | exact trivial)))
  refine wa ?_
  refine wc ?_
  repeat (first | ((refine wl rfl rfl ?_ ?_); try (first | ((repeat' apply And.intro) <;> first | exact trivial | exact rfl | omega | (simp; done) | (simp; omega)))))
  refine wn (wA rfl rfl rfl (by repeat' (first | exact trivial | exact rfl | assumption | apply And.intro)) (callable (by decide)) (c_ItemsO s (Nat.lt_trans hs (by decide)))) rfl ?_
  repeat (first | refine wb ?_ | refine ww rfl rfl rfl ?_)
  refine wa ?_
  obtain ⟨fs, hf⟩ := fins (ns := itemsL s) (fun i hi => by
    have := (itemsL_mem.1 hi).2
    rcases Nat.lt_or_ge i 32 with h5 | h5
    · exact h5
    · rw [hi_bit32 hs h5] at this; cases this)
  have hfl : fs.length ≤ 64 := by
    have := itemsL_le s
    rw [← hf, List.length_map] at this
    exact this
  have hby := sortF_byO hp hs hf
  refine Run.keep [2, 5] rfl ?_
  refine Run.at (l' := [(2, .box (ord l)), (5, .d (.own (itemsN s).isEmpty 3 1 (ints (fI fs))))]) (by rw [fI, hf, itemsN_eq]; rfl) ?_
  refine Run.raw (raw_sort hp hfl rfl rfl rfl rfl rfl rfl rfl rfl rfl (by decide) (by decide) (callable (by decide)) (callable (by decide))) ?_
  refine Run.freeze 5 .any rfl (okK_any _) ?_
  repeat (first | refine wa ?_ | refine wb ?_ | refine wc ?_ | ((refine wl rfl rfl ?_ ?_); try (first | ((repeat' apply And.intro) <;> first | exact trivial | exact rfl | omega | (simp; done) | (simp; omega)))))
  refine wD (wE rfl rfl ?_)
  rw [fI, hby]
end Go.Proofs.YtaflihoopnjcgaaDoor

namespace Go.Proofs.YtaflihoopnjcgaaDoor
open Go Go.Dat

def edge (g : List Nat) (i k : Nat) : Bool := decide (i < 32) && decide (k < 32) && (g.getD i 0).testBit k

theorem node_cast (i : Nat) : nodeN (i : Int) = decide (i < 32) := by
  unfold nodeN
  by_cases h : i < 32 <;> simp [h] <;> omega
theorem outs_bit (g : List Nat) (i k : Nat) : (outsN g (i : Int)).testBit k = edge g i k := by
  unfold outsN edge
  rw [node_cast]
  by_cases h : i < 32
  · rw [if_pos (by simpa using h), Nat.testBit_and, show full32 = 4294967295 from rfl, full_bit, Int.toNat_natCast]
    simp [h, Bool.and_comm]
  · simp [h]
theorem insTo_bit (g : List Nat) (i : Nat) (hi : i < 32) (k : Nat) : ∀ n, n ≤ 32 → (insTo g (i : Int) n).testBit k = (decide (k < n) && (g.getD k 0).testBit i)
  | 0, _ => by simp [insTo]
  | n + 1, h => by
    have hs : hasN (g.getD n 0) (i : Int) = (g.getD n 0).testBit i := by
      have : small (i : Int) = true := by simp [small]; omega
      rw [hasN, this, Bool.true_and, Int.toNat_natCast]
    rw [insTo_succ, hs]
    have ih := insTo_bit g i hi k n (by omega)
    by_cases hk : n = k
    · subst hk
      cases hb : (g.getD n 0).testBit i
      · simp [ih]
      · rw [if_pos rfl, with_bit (by omega)]; simp
    · have e : (decide (k < n + 1)) = decide (k < n) := by
        by_cases h1 : k < n
        · rw [decide_eq_true h1, decide_eq_true (by omega)]
        · rw [decide_eq_false h1, decide_eq_false (by omega)]
      rw [e]
      split
      · rw [with_bit (by omega), ih]; simp [hk]
      · exact ih
theorem ins_bit (g : List Nat) (i k : Nat) : (insN g (i : Int)).testBit k = edge g k i := by
  unfold insN edge
  rw [node_cast]
  by_cases h : i < 32
  · rw [if_pos (by simpa using h), insTo_bit g i h k 32 (by omega)]
    simp [h]
  · simp [h]
theorem outs32 (g : List Nat) (i : Nat) : outsN g (i : Int) < 4294967296 := by
  unfold outsN
  split
  · exact Nat.lt_of_le_of_lt Nat.and_le_right (by decide)
  · decide
theorem lt32_of {s : Nat} (_ : s < M64) (hb : ∀ k, 32 ≤ k → s.testBit k = false) : s < 4294967296 := by
  have : s = s % 2 ^ 32 := by
    apply Nat.eq_of_testBit_eq
    intro j
    rw [Nat.testBit_mod_two_pow]
    by_cases hj : j < 32
    · simp [hj]
    · simp [hj, hb j (by omega)]
  rw [this]
  exact Nat.mod_lt _ (by decide)
theorem ins32 (g : List Nat) (i : Nat) : insN g (i : Int) < 4294967296 := by
  refine lt32_of ?_ fun k hk => ?_
  · unfold insN
    split
    · exact insTo_lt _ _ _
    · decide
  · rw [ins_bit]
    simp [edge]
    omega

theorem sorted_edge {g : List Nat} {l : List Int} (hs : sortedN g l = true) (hp : Perm32 l) {i k : Nat} (h : edge g i k = true) : pl l i < pl l k := by
  have hik : i < 32 ∧ k < 32 := by simp only [edge, Bool.and_eq_true, decide_eq_true_eq] at h; exact h.1
  unfold sortedN at hs
  rw [Bool.and_eq_true] at hs
  have h1 := List.all_eq_true.1 hs.1 i (List.mem_range.2 hik.1)
  have h2 := List.all_eq_true.1 h1 (k : Int) (by
    rw [itemsN_eq, natI]
    exact List.mem_map.2 ⟨k, itemsL_mem.2 ⟨by omega, by rw [outs_bit]; exact h⟩, rfl⟩)
  have h3 := of_decide_eq_true h2
  rw [Int.toNat_natCast, (hp.pl_eq hik.1).1, (hp.pl_eq hik.2).1] at h3
  omega
theorem sorted_iff {g : List Nat} {l : List Int} (hl : l.length = 32) : sortedN g l = true ↔ Perm32 l ∧ ∀ i k, edge g i k = true → pl l i < pl l k := by
  constructor
  · intro hs
    have hp : Perm32 l := rightO_p hl (by unfold sortedN at hs; rw [Bool.and_eq_true] at hs; exact hs.2)
    exact ⟨hp, fun i k h => sorted_edge hs hp h⟩
  · rintro ⟨hp, h⟩
    unfold sortedN
    rw [Bool.and_eq_true]
    refine ⟨List.all_eq_true.2 fun i hi => List.all_eq_true.2 fun x hx => ?_, hp.right⟩
    rw [itemsN_eq, natI, List.mem_map] at hx
    obtain ⟨k, hk, rfl⟩ := hx
    rw [itemsL_mem, outs_bit] at hk
    have hk32 : k < 32 := by have := hk.2; simp only [edge, Bool.and_eq_true, decide_eq_true_eq] at this; exact this.1.2
    have := h i k hk.2
    refine decide_eq_true ?_
    show l.getD i 0 < l.getD k 0
    rw [(hp.pl_eq (List.mem_range.1 hi)).1, (hp.pl_eq hk32).1]
    omega

/-- Forth from b, no further than a. -/
def nxF (g : List Nat) (l : List Int) (a : Nat) : Nat → Nat → Bool := nxf (fun i => outsN g (i : Int)) (fun k => decide (l.getD k 0 ≤ l.getD a 0))
/-- Back from a, no further than b. -/
def nxH (g : List Nat) (l : List Int) (b : Nat) : Nat → Nat → Bool := nxf (fun i => insN g (i : Int)) (fun k => decide (l.getD b 0 ≤ l.getD k 0))
noncomputable def foreN (g : List Nat) (l : List Int) (a b : Nat) : Nat := setOf (Comes (nxF g l a) b)
noncomputable def hindN (g : List Nat) (l : List Int) (a b : Nat) : Nat := setOf (Comes (nxH g l b) a)

theorem nxF_iff {g : List Nat} {l : List Int} (hp : Perm32 l) {a i k : Nat} (ha : a < 32) : nxF g l a i k = true ↔ edge g i k = true ∧ pl l k ≤ pl l a := by
  unfold nxF nxf
  simp only [outs_bit, Bool.and_eq_true, decide_eq_true_eq]
  refine ⟨fun h => ⟨h.1, ?_⟩, fun h => ⟨h.1, ?_⟩⟩
  all_goals
    have hk : k < 32 := by have := h.1; simp only [edge, Bool.and_eq_true, decide_eq_true_eq] at this; exact this.1.2
    have h2 := h.2
    have e1 := (hp.pl_eq ha).1
    have e2 := (hp.pl_eq hk).1
    omega
theorem nxH_iff {g : List Nat} {l : List Int} (hp : Perm32 l) {b i k : Nat} (hb : b < 32) : nxH g l b i k = true ↔ edge g k i = true ∧ pl l b ≤ pl l k := by
  unfold nxH nxf
  simp only [ins_bit, Bool.and_eq_true, decide_eq_true_eq]
  refine ⟨fun h => ⟨h.1, ?_⟩, fun h => ⟨h.1, ?_⟩⟩
  all_goals
    have hk : k < 32 := by have := h.1; simp only [edge, Bool.and_eq_true, decide_eq_true_eq] at this; exact this.1.1
    have h2 := h.2
    have e1 := (hp.pl_eq hb).1
    have e2 := (hp.pl_eq hk).1
    omega

section
variable {g : List Nat} {l : List Int} {a b : Nat}
theorem fore_lt (hp : Perm32 l) (hs : ∀ i k, edge g i k = true → pl l i < pl l k) (ha : a < 32) (hb : b < 32) (hab : pl l b ≤ pl l a) {j : Nat} (h : Comes (nxF g l a) b j) : j < 32 ∧ pl l b ≤ pl l j ∧ pl l j ≤ pl l a := by
  induction h with
  | base => exact ⟨hb, Nat.le_refl _, hab⟩
  | step _ hn ih =>
    rw [nxF_iff hp ha] at hn
    have := hs _ _ hn.1
    have h3 := hn.1
    simp only [edge, Bool.and_eq_true, decide_eq_true_eq] at h3
    exact ⟨h3.1.2, by omega, hn.2⟩
theorem hind_lt (hp : Perm32 l) (hs : ∀ i k, edge g i k = true → pl l i < pl l k) (ha : a < 32) (hb : b < 32) (hab : pl l b ≤ pl l a) {j : Nat} (h : Comes (nxH g l b) a j) : j < 32 ∧ pl l b ≤ pl l j ∧ pl l j ≤ pl l a := by
  induction h with
  | base => exact ⟨ha, hab, Nat.le_refl _⟩
  | step _ hn ih =>
    rw [nxH_iff hp hb] at hn
    have := hs _ _ hn.1
    have h3 := hn.1
    simp only [edge, Bool.and_eq_true, decide_eq_true_eq] at h3
    exact ⟨h3.1.1, hn.2, by omega⟩
/-- Who is reached from both ends closes a way round. -/
theorem meet (hp : Perm32 l) (hs : ∀ i k, edge g i k = true → pl l i < pl l k) (ha : a < 32) (hb : b < 32) (hab : pl l b ≤ pl l a) {j : Nat} (h : Comes (nxH g l b) a j) : Comes (nxF g l a) b j → Comes (nxF g l a) b a := by
  induction h with
  | base => exact id
  | step h0 hn ih =>
    intro h1
    have h2 := hind_lt hp hs ha hb hab h0
    rw [nxH_iff hp hb] at hn
    exact ih (h1.step ((nxF_iff hp ha).2 ⟨hn.1, h2.2.2⟩))
theorem apart (hp : Perm32 l) (hs : ∀ i k, edge g i k = true → pl l i < pl l k) (ha : a < 32) (hb : b < 32) (hab : pl l b ≤ pl l a) (hno : ¬ (foreN g l a b).testBit a = true) (j : Nat) : ¬ ((foreN g l a b).testBit j = true ∧ (hindN g l a b).testBit j = true) := by
  rintro ⟨h1, h2⟩
  exact hno (setOf_bit.2 ⟨by omega, meet hp hs ha hb hab (setOf_bit.1 h2).2 (setOf_bit.1 h1).2⟩)
end

theorem filter_or {α : Type} (p q : α → Bool) (l : List α) (h : ∀ x ∈ l, ¬ (p x = true ∧ q x = true)) : (l.filter p).length + (l.filter q).length = (l.filter fun x => p x || q x).length := by
  induction l with
  | nil => rfl
  | cons x l ih =>
    have h1 := h x (by simp)
    have h2 := ih fun y hy => h y (by simp [hy])
    cases hp : p x <;> cases hq : q x <;> simp_all <;> omega
theorem byO_or {l : List Int} {s t : Nat} (h : ∀ j, ¬ (s.testBit j = true ∧ t.testBit j = true)) : (byO l t).length + (byO l s).length = (byO l (s ||| t)).length := by
  unfold byO
  rw [filter_or (fun i => t.testBit i) (fun i => s.testBit i) _ (fun x _ hx => h x ⟨hx.2, hx.1⟩)]
  congr 1
  apply List.filter_congr
  intro x _
  rw [Nat.testBit_or, Bool.or_comm]

/-- Nodes are given places, one behind the other. -/
def assign (l : List Int) : List Nat → List Nat → List Int
  | i :: is, p :: ps => assign (l.set i (p : Int)) is ps
  | _, _ => l
theorem assign_len : ∀ (is ps : List Nat) (l : List Int), (assign l is ps).length = l.length
  | [], _, _ => by simp [assign]
  | _ :: _, [], _ => by simp [assign]
  | i :: is, p :: ps, l => by simp [assign, assign_len is ps]
theorem assign_snoc : ∀ (is ps : List Nat) (l : List Int) (i p : Nat), is.length = ps.length → assign l (is ++ [i]) (ps ++ [p]) = (assign l is ps).set i (p : Int)
  | [], [], _, _, _, _ => rfl
  | [], _ :: _, _, _, _, h => by cases h
  | _ :: _, [], _, _, _, h => by cases h
  | j :: is, q :: ps, l, i, p, h => by
    simp only [List.cons_append, assign]
    exact assign_snoc is ps _ i p (by simpa using h)

def newO (l : List Int) (hind fore : Nat) : List Int := assign l (byO l hind ++ byO l fore) ((byO l (fore ||| hind)).map (pl l))
/-- A graph and an order with one edge more. -/
noncomputable def insG (g : List Nat) (l : List Int) (a b : Int) : List Nat × List Int × Bool :=
  if !(putG g a b).2 || !sortedN g l then (g, l, false)
  else if l.getD a.toNat 0 < l.getD b.toNat 0 then ((putG g a b).1, l, true)
  else if hasN (foreN g l a.toNat b.toNat) a then (g, l, false)
  else ((putG g a b).1, newO l (hindN g l a.toNat b.toNat) (foreN g l a.toNat b.toNat), true)
end Go.Proofs.YtaflihoopnjcgaaDoor
