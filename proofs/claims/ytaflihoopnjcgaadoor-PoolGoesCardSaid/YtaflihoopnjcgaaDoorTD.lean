/- Texts S33, S34, S35, S36, S37, S38, S39, S40, S41 in one file. No conditions. -/
import Derived.Test.YtaflihoopnjcgaaDoorTC

namespace Go.Proofs.YtaflihoopnjcgaaDoor
open Go Go.Dat

theorem add_bit {s n : Nat} (hs : s < M64) (hn : n < 64) (h : s.testBit n = false) : s + 2 ^ n = s ||| 2 ^ n := by
  have hp : 2 ^ n < 2 ^ 64 := Nat.pow_lt_pow_right (a := 2) (by decide) hn
  have hs' : s < 2 ^ 64 := hs
  have e1' : ∀ p, p < 2 ^ 64 → (BitVec.ofNat 65 s + BitVec.ofNat 65 p).toNat = s + p := fun p hp => by
    rw [BitVec.toNat_add, BitVec.toNat_ofNat, BitVec.toNat_ofNat]
    omega
  have e2' : ∀ p, p < 2 ^ 64 → (BitVec.ofNat 65 s ||| BitVec.ofNat 65 p).toNat = s ||| p := fun p hp => by
    rw [BitVec.toNat_or, BitVec.toNat_ofNat, BitVec.toNat_ofNat, Nat.mod_eq_of_lt (a := s) (by omega), Nat.mod_eq_of_lt (a := p) (by omega)]
  have e1 := e1' (2 ^ n) hp
  have e2 := e2' (2 ^ n) hp
  rw [← e1, ← e2, BitVec.add_eq_or_of_and_eq_zero]
  apply BitVec.eq_of_getLsbD_eq
  intro j hj
  rw [BitVec.getLsbD_and, BitVec.getLsbD_ofNat, BitVec.getLsbD_ofNat, Nat.testBit_two_pow]
  by_cases e : n = j
  · subst e; simp [h]
  · simp [e]
theorem bitN_nat {n : Nat} (hn : n < 64) : bitN (n : Int) = 2 ^ n := by
  have : small (n : Int) = true := by simp [small]; omega
  rw [bitN, this, if_pos rfl, Int.toNat_natCast]
theorem with_add {s n : Nat} (hs : s < M64) (hn : n < 64) (h : s.testBit n = false) : withN s (n : Int) = s + 2 ^ n := by
  rw [withN, bitN_nat hn, add_bit hs hn h]
theorem less_sub {s n : Nat} (hs : s < M64) (hn : n < 64) (h : s.testBit n = true) : lessN s (n : Int) + 2 ^ n = s := by
  have hb : (lessN s (n : Int)).testBit n = false := by rw [lessN_bit _ hs, bit_at hn]; simp
  rw [add_bit (lessN_lt _ _) hn hb]
  apply Nat.eq_of_testBit_eq
  intro j
  rw [Nat.testBit_or, lessN_bit _ hs, bit_at hn, Nat.testBit_two_pow]
  by_cases e : n = j
  · subst e; simp [h]
  · simp [e]
theorem has_nat (s n : Nat) (hn : n < 64) : hasN s (n : Int) = s.testBit n := by
  have : small (n : Int) = true := by simp [small]; omega
  rw [hasN, this, Bool.true_and, Int.toNat_natCast]
theorem not_small {i : Int} (h : i < 0 ∨ 63 < i) : small i = false := by
  unfold small
  rcases h with h | h
  · have : ¬ 0 ≤ i := by omega
    simp [this]
  · have : ¬ i ≤ 63 := by omega
    simp [this]

theorem c_rWith (s : Nat) (i : Int) (hs : s < M64) : DFun Tryd.prog 57 [S s, .v (.int .i64 i)] (S (withN s i)) := by
  refine DFun.ofRun agree mixed Tryd.func57 rfl rfl ?_
  repeat (first | refine wa ?_ | refine wb ?_ | refine wc ?_ | ((first | refine wl rfl rfl ?_ ?_ | refine wn (wp rfl rfl rfl rfl rfl ?_) rfl ?_); try (first | exact trivial | ((repeat' apply And.intro) <;> first | exact trivial | exact rfl | omega | (simp; done) | (simp; omega)))))
  refine OpsAt.br rfl rfl rfl (fun h1 => ?_) (fun h1 => ?_)
  · repeat (first | refine wa ?_ | refine wb ?_ | refine wc ?_ | ((first | refine wl rfl rfl ?_ ?_ | refine wt rfl ?_ ?_); try (first | ((repeat' apply And.intro) <;> first | exact trivial | exact rfl | omega | (simp; done) | (simp; omega)))) | refine ws rfl rfl ?_)
    refine wD (wE rfl rfl ?_)
    rw [withN, bitN, not_small (.inl (of_decide_eq_true h1))]
    simp
  · have h1' := of_decide_eq_false h1
    repeat (first | ((first | refine wl rfl rfl ?_ ?_ | refine wm rfl rfl rfl ?_ ?_ | refine wo rfl (wp rfl rfl rfl rfl rfl ?_) rfl ?_); try (first | ((repeat' apply And.intro) <;> first | exact trivial | exact rfl | omega | (simp; done) | (simp; omega)))))
    refine OpsAt.br rfl rfl rfl (fun h2 => ?_) (fun h2 => ?_)
    · repeat (first | refine wa ?_ | refine wb ?_ | refine wc ?_ | ((first | refine wl rfl rfl ?_ ?_ | refine wt rfl ?_ ?_); try (first | ((repeat' apply And.intro) <;> first | exact trivial | exact rfl | omega | (simp; done) | (simp; omega)))) | refine ws rfl rfl ?_)
      refine wD (wE rfl rfl ?_)
      rw [withN, bitN, not_small (.inr (of_decide_eq_true h2))]
      simp
    · have h2' := of_decide_eq_false h2
      obtain ⟨n, rfl⟩ := Int.eq_ofNat_of_zero_le (show 0 ≤ i by omega)
      have hn : n < 64 := by omega
      repeat (first | ((refine wm rfl rfl rfl ?_ ?_); try (first | ((repeat' apply And.intro) <;> first | exact trivial | exact rfl | omega | (simp; done) | (simp; omega)))))
      refine wo rfl (wA rfl rfl rfl (by repeat' (first | exact trivial | exact rfl | assumption | apply And.intro)) (callable (by decide)) (c_refHas s n hs)) rfl ?_
      first | refine OpsAt.say (d := 14) rfl (y := .v (.bool (s.testBit n))) (by rw [has_nat _ _ hn]) ?_ | refine Run.say (d := 14) rfl (y := .v (.bool (s.testBit n))) (by rw [has_nat _ _ hn]) ?_ | refine OpsR.say (q := 14) rfl (y := .v (.bool (s.testBit n))) (by rw [has_nat _ _ hn]) ?_ | refine OpsB.say (d := 14) rfl (y := .v (.bool (s.testBit n))) (by rw [has_nat _ _ hn]) ?_
      repeat (first | refine wb ?_ | ((refine wl rfl rfl ?_ ?_); try (first | ((repeat' apply And.intro) <;> first | exact trivial | exact rfl | omega | (simp; done) | (simp; omega)))))
      refine Run.condB rfl rfl (fun h3 => ?_) (fun h3 => ?_)
      · repeat (first | refine wa ?_ | refine wb ?_ | refine wc ?_ | ((refine wl rfl rfl ?_ ?_); try (first | ((repeat' apply And.intro) <;> first | exact trivial | exact rfl | omega | (simp; done) | (simp; omega)))))
        refine wD (wE rfl rfl ?_)
        have : withN s (n : Int) = s := by
          apply Nat.eq_of_testBit_eq
          intro j
          rw [with_bit hn]
          by_cases e : n = j
          · subst e; simp [h3]
          · simp [e]
        rw [this]
      · repeat (first | refine wa ?_ | refine wc ?_ | refine wf ?_ | ((refine wl rfl rfl ?_ ?_); try (first | ((repeat' apply And.intro) <;> first | exact trivial | exact rfl | omega | (simp; done) | (simp; omega)))))
        refine wn (wA rfl rfl rfl (by repeat' (first | exact trivial | exact rfl | assumption | apply And.intro)) (callable (by decide)) (c_power n hn)) rfl ?_
        repeat (first | refine wb ?_ | ((first | refine wl rfl rfl ?_ ?_ | refine wn (wp rfl rfl rfl rfl rfl ?_) rfl ?_); try (first | ((repeat' apply And.intro) <;> first | exact trivial | exact rfl | omega | (simp; done) | (simp; omega)))))
        refine wD (wE rfl rfl ?_)
        have hw := with_add hs hn h3
        rw [hw]
        have : s + 2 ^ n < M64 := by rw [← hw]; exact withN_lt _ hs
        show D.v (.int .u64 (IntKind.u64.wrap ((s : Int) + ((2 ^ n : Nat) : Int)))) = _
        rw [show (s : Int) + ((2 ^ n : Nat) : Int) = ((s + 2 ^ n : Nat) : Int) by omega, u64_in this]
        rfl

theorem c_rLess (s : Nat) (i : Int) (hs : s < M64) : DFun Tryd.prog 56 [S s, .v (.int .i64 i)] (S (lessN s i)) := by
  refine DFun.ofRun agree mixed Tryd.func56 rfl rfl ?_
  repeat (first | refine wa ?_ | refine wb ?_ | refine wc ?_ | ((refine wl rfl rfl ?_ ?_); try (first | exact trivial | ((repeat' apply And.intro) <;> first | exact trivial | exact rfl | omega | (simp; done) | (simp; omega)))))
  refine wn (wA rfl rfl rfl (by repeat' (first | exact trivial | exact rfl | assumption | apply And.intro)) (callable (by decide)) (c_refHas s i hs)) rfl ?_
  repeat (first | refine wb ?_ | ((refine wl rfl rfl ?_ ?_); try (first | ((repeat' apply And.intro) <;> first | exact trivial | exact rfl | omega | (simp; done) | (simp; omega)))))
  refine Run.condB rfl rfl (fun h1 => ?_) (fun h1 => ?_)
  · have h1' : hasN s i = false := by simpa using h1
    repeat (first | refine wa ?_ | refine wb ?_ | refine wc ?_ | ((refine wl rfl rfl ?_ ?_); try (first | ((repeat' apply And.intro) <;> first | exact trivial | exact rfl | omega | (simp; done) | (simp; omega)))))
    refine wD (wE rfl rfl ?_)
    have : lessN s i = s := by
      apply Nat.eq_of_testBit_eq
      intro j
      rw [lessN_bit _ hs, bitN_bit]
      by_cases e : small i = true ∧ i.toNat = j
      · have : s.testBit j = false := by rw [hasN, e.1, Bool.true_and, e.2] at h1'; exact h1'
        rw [this]; rfl
      · have : (small i && decide (i.toNat = j)) = false := by
          rw [Bool.and_eq_false_iff, decide_eq_false_iff_not]
          by_cases h : small i = true
          · exact .inr fun h2 => e ⟨h, h2⟩
          · exact .inl (by simpa using h)
        rw [this]; simp
    rw [this]
  · have h1' : hasN s i = true := by simpa using h1
    have hsm : small i = true := by unfold hasN at h1'; rw [Bool.and_eq_true] at h1'; exact h1'.1
    have hsm2 : 0 ≤ i ∧ i ≤ 63 := by simpa [small] using hsm
    obtain ⟨n, rfl⟩ := Int.eq_ofNat_of_zero_le hsm2.1
    have hn : n < 64 := by omega
    repeat (first | refine wa ?_ | refine wc ?_ | refine wf ?_ | ((refine wl rfl rfl ?_ ?_); try (first | ((repeat' apply And.intro) <;> first | exact trivial | exact rfl | omega | (simp; done) | (simp; omega)))))
    refine wn (wA rfl rfl rfl (by repeat' (first | exact trivial | exact rfl | assumption | apply And.intro)) (callable (by decide)) (c_power n hn)) rfl ?_
    repeat (first | refine wb ?_ | ((first | refine wl rfl rfl ?_ ?_ | refine wn (wp rfl rfl rfl rfl rfl ?_) rfl ?_); try (first | ((repeat' apply And.intro) <;> first | exact trivial | exact rfl | omega | (simp; done) | (simp; omega)))))
    refine wD (wE rfl rfl ?_)
    have hb : s.testBit n = true := by rw [has_nat _ _ hn] at h1'; exact h1'
    have hl := less_sub hs hn hb
    have hlt := lessN_lt s (n : Int)
    show D.v (.int .u64 (IntKind.u64.wrap ((s : Int) - ((2 ^ n : Nat) : Int)))) = _
    rw [show (s : Int) - ((2 ^ n : Nat) : Int) = ((lessN s (n : Int) : Nat) : Int) by omega, u64_in hlt]
    rfl

/-! ### Rows of truths -/
def bools (l : List Bool) : List D := l.map fun b => .v (.bool b)
def bo (l : List Bool) : D := .arr 1 (bools l)
theorem bools_len (l : List Bool) : (bools l).length = l.length := by simp [bools]
theorem bools_v (l : List Bool) : ∀ x ∈ bools l, ∃ v, x = .v v := fun x hx => by
  obtain ⟨b, _, rfl⟩ := List.mem_map.1 hx
  exact ⟨_, rfl⟩
theorem bo_pl (l : List Bool) : (bo l).pl = true := noOwns_v _ (bools_v l)
theorem bo_fits {T : TypeId} {l : List Bool} {n : Nat} (h : l.length = n) (hT : ((Θ T).known && (Θ T).td.isAgg && ((Θ T).n == n)) = true) : (Θ T).fits (bo l) = true := by
  simp only [TI.fits]
  simp only [Bool.and_eq_true] at hT
  have hs : (bo l).size = n := by show 1 * (bools l).length = n; rw [bools_len, h, Nat.one_mul]
  rw [hs]
  simp only [beq_iff_eq] at hT
  simp [hT.1.1, hT.1.2, hT.2, bo, D.isAgg]
theorem bo_at {l : List Bool} {i : Nat} (hi : i < l.length) : (bo l).get [i] = .v (.bool (l.getD i false)) := by
  simp [bo, bools, D.get, hi]
theorem bo_set (l : List Bool) (i : Nat) (b : Bool) : (bo l).set [i] (.v (.bool b)) = bo (l.set i b) := by
  simp [bo, bools, D.set, List.map_set]
theorem bo_sto {T : TypeId} {l : List Bool} {i : Nat} {b : Bool} (hi : i < l.length) (hf : (Θ T).fits (.v (.bool b)) = true) :
    ((Θ T).fits (.v (.bool b)) && ((D.v (.bool b)).size == ((bo l).get [i]).size) && ((bo l).get [i]).noOwn) = true := by
  rw [hf, bo_at hi]
  rfl
theorem bo_stoAll {T : TypeId} {g z : List Bool} {n : Nat} (h : g.length = n) (hz : z.length = n) (hT : ((Θ T).known && (Θ T).td.isAgg && ((Θ T).n == n)) = true) :
    ((Θ T).fits (bo g) && ((bo g).size == ((bo z).get []).size) && ((bo z).get []).noOwn) = true := by
  rw [bo_fits h hT, show ((bo z).get []).noOwn = true from bo_pl z]
  simp [D.get, bo, D.size, bools_len, h, hz]

def bitsTo (s i : Nat) : List Bool := (List.range 64).map fun j => decide (j < i) && s.testBit j
def bitsL (s : Nat) : List Bool := bitsTo s 64
theorem bitsTo_len (s i : Nat) : (bitsTo s i).length = 64 := by simp [bitsTo]
theorem bitsTo_set (s i : Nat) : (bitsTo s i).set i (s.testBit i) = bitsTo s (i + 1) := by
  apply List.ext_getElem?
  intro j
  rw [List.getElem?_set]
  by_cases h1 : i = j
  · subst h1
    by_cases h2 : i < 64
    · simp [bitsTo, h2]
    · simp [bitsTo, h2]
  · by_cases h2 : j < 64
    · have h3 : j < i ↔ j < i + 1 := by omega
      simp [h1, bitsTo, h2, h3]
    · simp [h1, bitsTo, h2]
theorem bits_at {s i : Nat} (hi : i < 64) : (bitsL s).getD i false = s.testBit i := by simp [bitsL, bitsTo, hi]
end Go.Proofs.YtaflihoopnjcgaaDoor

namespace Go.Proofs.YtaflihoopnjcgaaDoor
open Go Go.Dat

theorem div2 {s i : Nat} : s / 2 ^ i / 2 = s / 2 ^ (i + 1) := by rw [Nat.div_div_eq_div_mul, Nat.pow_succ]
theorem mod2 {s i : Nat} : decide (s / 2 ^ i % 2 = 1) = s.testBit i := by rw [Nat.testBit_eq_decide_div_mod_eq]
theorem eq_one (k : Nat) : (((k : Nat) : Int) == 1) = decide (k = 1) := by
  by_cases h : k = 1
  · simp [h]
  · have h' : ¬ (k : Int) = 1 := by omega
    simp [h, h']

theorem c_rBits (s : Nat) (hs : s < M64) : DFun Tryd.prog 59 [S s] (bo (bitsL s)) := by
  refine DFun.ofRun agree mixed Tryd.func59 rfl rfl ?_
  repeat (first | refine wa ?_ | refine wb ?_ | refine wc ?_ | refine wd ?_ | ((refine wl rfl rfl ?_ ?_); try (first | exact trivial | ((repeat' apply And.intro) <;> first | exact trivial | exact rfl | omega | (simp; done) | (simp; omega)))))
  refine Run.keep [0, 2, 3, 4] rfl ?_
  have h0 : bitsTo s 0 = List.replicate 64 false := by
    apply List.ext_getElem?
    intro j
    rw [List.getElem?_replicate]
    by_cases h : j < 64
    · simp [bitsTo, h]
    · simp [bitsTo, h]
  refine Run.at (l' := [(0, .d (S (s / 2 ^ 0))), (2, .box (bo (List.replicate 64 false))), (3, .box (bo (bitsTo s 0))), (4, .d (.v (.int .i64 (0 : Nat))))]) (by rw [h0, Nat.pow_zero, Nat.div_one]; rfl) ?_
  refine Run.loopL (α := Nat) (fun i => i ≤ 64) (fun i => [(0, .d (S (s / 2 ^ i))), (2, .box (bo (List.replicate 64 false))), (3, .box (bo (bitsTo s i))), (4, .d (.v (.int .i64 i)))]) (fun i => 64 - i) 0 (by decide) ?_
  intro i hi ih
  repeat (first | refine wa ?_ | refine wb ?_ | refine wc ?_ | ((first | refine wl rfl rfl ?_ ?_ | refine wn (wp rfl rfl rfl rfl rfl ?_) rfl ?_); try (first | ((repeat' apply And.intro) <;> first | exact trivial | exact rfl | omega | (simp; done) | (simp; omega)))))
  refine Run.condB rfl rfl (fun hb => ?_) (fun hb => ?_)
  · have hi2 : i < 64 := by simp at hb; omega
    have hle : s / 2 ^ i < M64 := Nat.lt_of_le_of_lt (Nat.div_le_self _ _) hs
    repeat (first | refine wa ?_ | refine wc ?_ | refine wd ?_ | refine wf ?_ | ((first | refine wl rfl rfl ?_ ?_ | refine wn (wp rfl rfl rfl rfl rfl ?_) rfl ?_); try (first | ((repeat' apply And.intro) <;> first | exact trivial | exact rfl | omega | (simp; done) | (simp; omega)))))
    have hm : ((s / 2 ^ i : Nat) : Int).tmod 2 = ((s / 2 ^ i % 2 : Nat) : Int) := (Int.ofNat_tmod _ _).symm
    first | refine OpsAt.say (d := 12) rfl (y := .v (.bool (s.testBit i))) (by rw [hm, eq_one, mod2]) ?_ | refine Run.say (d := 12) rfl (y := .v (.bool (s.testBit i))) (by rw [hm, eq_one, mod2]) ?_ | refine OpsR.say (q := 12) rfl (y := .v (.bool (s.testBit i))) (by rw [hm, eq_one, mod2]) ?_ | refine OpsB.say (d := 12) rfl (y := .v (.bool (s.testBit i))) (by rw [hm, eq_one, mod2]) ?_
    skip
    refine wv rfl rfl rfl (bo_sto (by rw [bitsTo_len]; exact hi2) rfl) rfl ?_
    first | refine OpsAt.sayB (d := 3) rfl (y := bo (bitsTo s (i + 1))) ((bo_set (bitsTo s i) i (s.testBit i)).trans (by rw [bitsTo_set])) ?_ | refine Run.sayB (d := 3) rfl (y := bo (bitsTo s (i + 1))) ((bo_set (bitsTo s i) i (s.testBit i)).trans (by rw [bitsTo_set])) ?_
    repeat (first | refine wb ?_ | refine wc ?_ | refine we ?_ | ((first | refine wl rfl rfl ?_ ?_ | refine wn (wp rfl rfl rfl rfl rfl ?_) rfl ?_); try (first | ((repeat' apply And.intro) <;> first | exact trivial | exact rfl | omega | (simp; done) | (simp; omega)))))
    have hd : ((s / 2 ^ i : Nat) : Int).tdiv 2 = ((s / 2 ^ (i + 1) : Nat) : Int) := by rw [← div2]; exact (Int.ofNat_tdiv _ _).symm
    first | refine OpsAt.say (d := 0) rfl (y := S (s / 2 ^ (i + 1))) (by rw [hd]; exact congrArg (fun z => D.v (.int .u64 z)) (u64_in (Nat.lt_of_le_of_lt (Nat.div_le_self _ _) hs))) ?_ | refine Run.say (d := 0) rfl (y := S (s / 2 ^ (i + 1))) (by rw [hd]; exact congrArg (fun z => D.v (.int .u64 z)) (u64_in (Nat.lt_of_le_of_lt (Nat.div_le_self _ _) hs))) ?_ | refine OpsR.say (q := 0) rfl (y := S (s / 2 ^ (i + 1))) (by rw [hd]; exact congrArg (fun z => D.v (.int .u64 z)) (u64_in (Nat.lt_of_le_of_lt (Nat.div_le_self _ _) hs))) ?_ | refine OpsB.say (d := 0) rfl (y := S (s / 2 ^ (i + 1))) (by rw [hd]; exact congrArg (fun z => D.v (.int .u64 z)) (u64_in (Nat.lt_of_le_of_lt (Nat.div_le_self _ _) hs))) ?_
    first | refine OpsAt.say (d := 4) rfl (y := .v (.int .i64 (i + 1 : Nat))) (by rw [wrap64_in ((i : Int) + 1) (by omega)]; simp) ?_ | refine Run.say (d := 4) rfl (y := .v (.int .i64 (i + 1 : Nat))) (by rw [wrap64_in ((i : Int) + 1) (by omega)]; simp) ?_ | refine OpsR.say (q := 4) rfl (y := .v (.int .i64 (i + 1 : Nat))) (by rw [wrap64_in ((i : Int) + 1) (by omega)]; simp) ?_ | refine OpsB.say (d := 4) rfl (y := .v (.int .i64 (i + 1 : Nat))) (by rw [wrap64_in ((i : Int) + 1) (by omega)]; simp) ?_
    refine Run.keep [0, 2, 3, 4] rfl ?_
    exact ih (i + 1) (by omega) (by omega)
  · have hi2 : i = 64 := by simp at hb; omega
    subst hi2
    repeat (first | refine wa ?_ | refine wb ?_ | refine wc ?_ | ((first | refine wl rfl rfl ?_ ?_ | refine wv rfl rfl ?_ rfl rfl ?_); try (first | ((repeat' apply And.intro) <;> first | exact trivial | exact rfl | omega | (simp; done) | (simp; omega)))) | refine wj rfl ?_)
    exact wD (Ends.cellE agree rfl rfl (by rw [Bool.and_eq_true]; exact ⟨bo_fits (bitsTo_len _ _) rfl, bo_pl _⟩) rfl)

/-- The number of the first k truths from behind. -/
def accN (l : List Bool) : Nat → Nat
  | 0 => 0
  | k + 1 => 2 * accN l k + (if l.getD (63 - k) false then 1 else 0)
theorem accN_lt (l : List Bool) : ∀ k, accN l k < 2 ^ k
  | 0 => by simp [accN]
  | k + 1 => by
    have := accN_lt l k
    rw [Nat.pow_succ]
    simp only [accN]
    split <;> omega
theorem accN_bit (l : List Bool) : ∀ k, k ≤ 64 → ∀ j, j < k → (accN l k).testBit j = l.getD (64 - k + j) false
  | 0, _, _, h => absurd h (by omega)
  | k + 1, hk, 0, _ => by
    simp only [accN]
    rw [Nat.testBit_zero, show 64 - (k + 1) + 0 = 63 - k by omega]
    cases l.getD (63 - k) false <;> simp <;> omega
  | k + 1, hk, j + 1, hj => by
    have ih := accN_bit l k (by omega) j (by omega)
    simp only [accN]
    rw [Nat.testBit_succ]
    have : (2 * accN l k + (if l.getD (63 - k) false then 1 else 0)) / 2 = accN l k := by split <;> omega
    rw [this, ih]
    congr 1
    omega
def sumL (l : List Bool) : Nat := accN l 64
theorem sumL_lt (l : List Bool) : sumL l < M64 := accN_lt l 64
theorem sumL_bit (l : List Bool) {j : Nat} (hj : j < 64) : (sumL l).testBit j = l.getD j false := by
  have := accN_bit l 64 (Nat.le_refl _) j hj
  simpa [sumL] using this

theorem c_rSum (l : List Bool) (hl : l.length = 64) : DFun Tryd.prog 80 [bo l] (S (sumL l)) := by
  refine DFun.ofRun agree mixed Tryd.func80 rfl rfl ?_
  repeat (first | refine wa ?_ | refine wc ?_ | ((refine wl rfl rfl ?_ ?_)))
  · exact bo_pl l
  repeat (first | refine wa ?_ | refine wb ?_ | refine wc ?_ | refine wd ?_ | ((refine wl rfl rfl ?_ ?_); try (first | exact trivial)))
  refine Run.keep [1, 3, 4] rfl ?_
  refine Run.at (l' := [(1, .box (bo l)), (3, .d (S (accN l 0))), (4, .d (.v (.int .i64 (63 - (0 : Nat)))))]) rfl ?_
  refine Run.loopL (α := Nat) (fun k => k ≤ 64) (fun k => [(1, .box (bo l)), (3, .d (S (accN l k))), (4, .d (.v (.int .i64 (63 - (k : Nat)))))]) (fun k => 64 - k) 0 (by decide) ?_
  intro k hk ih
  repeat (first | refine wa ?_ | refine wb ?_ | refine wc ?_ | ((first | refine wl rfl rfl ?_ ?_ | refine wn (wp rfl rfl rfl rfl rfl ?_) rfl ?_); try (first | ((repeat' apply And.intro) <;> first | exact trivial | exact rfl | omega | (simp; done) | (simp; omega)))))
  refine Run.condB rfl rfl (fun hb => ?_) (fun hb => ?_)
  · have hk2 : k < 64 := by simp at hb; omega
    have ha : accN l k < 2 ^ 63 := Nat.lt_of_lt_of_le (accN_lt l k) (Nat.pow_le_pow_right (by decide) (by omega))
    have hx : (63 : Int) - (k : Nat) = ((63 - k : Nat) : Int) := by omega
    have gx : (bo l).get ([] ++ [((63 : Int) - (k : Nat)).toNat]) = .v (.bool (l.getD (63 - k) false)) := by
      rw [hx, Int.toNat_natCast]
      exact bo_at (by omega)
    repeat (first | refine wa ?_ | refine wb ?_ | refine wc ?_ | refine wd ?_ | refine wf ?_ | ((first | refine wl rfl rfl ?_ ?_ | refine wn (wp rfl rfl rfl rfl rfl ?_) rfl ?_); try (first | ((repeat' apply And.intro) <;> first | exact trivial | exact rfl | omega | (simp; done) | (simp; omega)))))
    · exact ⟨rfl, rfl, by rw [bools_len, hl], by omega, by omega⟩
    first | refine OpsAt.say (d := 3) rfl (y := S (2 * accN l k)) (by rw [show ((accN l k : Nat) : Int) * 2 = ((2 * accN l k : Nat) : Int) by omega]; exact congrArg (fun z => D.v (.int .u64 z)) (u64_in (by show 2 * accN l k < 18446744073709551616; omega))) ?_ | refine Run.say (d := 3) rfl (y := S (2 * accN l k)) (by rw [show ((accN l k : Nat) : Int) * 2 = ((2 * accN l k : Nat) : Int) by omega]; exact congrArg (fun z => D.v (.int .u64 z)) (u64_in (by show 2 * accN l k < 18446744073709551616; omega))) ?_ | refine OpsR.say (q := 3) rfl (y := S (2 * accN l k)) (by rw [show ((accN l k : Nat) : Int) * 2 = ((2 * accN l k : Nat) : Int) by omega]; exact congrArg (fun z => D.v (.int .u64 z)) (u64_in (by show 2 * accN l k < 18446744073709551616; omega))) ?_ | refine OpsB.say (d := 3) rfl (y := S (2 * accN l k)) (by rw [show ((accN l k : Nat) : Int) * 2 = ((2 * accN l k : Nat) : Int) by omega]; exact congrArg (fun z => D.v (.int .u64 z)) (u64_in (by show 2 * accN l k < 18446744073709551616; omega))) ?_
    refine wn (Ev.ldBox rfl (adrOf_sound rfl) (ld_ok (T := 4) gx rfl).1 (ld_ok (T := 4) gx rfl).2) rfl ?_
    first | refine OpsAt.say (d := 13) rfl (y := .v (.bool (l.getD (63 - k) false))) (gx) ?_ | refine Run.say (d := 13) rfl (y := .v (.bool (l.getD (63 - k) false))) (gx) ?_ | refine OpsR.say (q := 13) rfl (y := .v (.bool (l.getD (63 - k) false))) (gx) ?_ | refine OpsB.say (d := 13) rfl (y := .v (.bool (l.getD (63 - k) false))) (gx) ?_
    repeat (first | refine wb ?_)
    refine Run.condB rfl rfl (fun h1 => ?_) (fun h1 => ?_)
    · have hacc : accN l (k + 1) = 2 * accN l k + 1 := by simp only [accN]; rw [h1]; rfl
      have hlt : accN l (k + 1) < M64 := Nat.lt_of_lt_of_le (accN_lt l (k + 1)) (Nat.pow_le_pow_right (n := 2) (j := 64) (by decide) (by omega))
      repeat (first | refine wb ?_ | refine wc ?_ | refine we ?_ | ((first | refine wl rfl rfl ?_ ?_ | refine wn (wp rfl rfl rfl rfl rfl ?_) rfl ?_); try (first | ((repeat' apply And.intro) <;> first | exact trivial | exact rfl | omega | (simp; done) | (simp; omega)))))
      first | refine OpsAt.say (d := 3) rfl (y := S (accN l (k + 1))) (by rw [show ((2 * accN l k : Nat) : Int) + 1 = ((accN l (k + 1) : Nat) : Int) by omega]; exact congrArg (fun z => D.v (.int .u64 z)) (u64_in hlt)) ?_ | refine Run.say (d := 3) rfl (y := S (accN l (k + 1))) (by rw [show ((2 * accN l k : Nat) : Int) + 1 = ((accN l (k + 1) : Nat) : Int) by omega]; exact congrArg (fun z => D.v (.int .u64 z)) (u64_in hlt)) ?_ | refine OpsR.say (q := 3) rfl (y := S (accN l (k + 1))) (by rw [show ((2 * accN l k : Nat) : Int) + 1 = ((accN l (k + 1) : Nat) : Int) by omega]; exact congrArg (fun z => D.v (.int .u64 z)) (u64_in hlt)) ?_ | refine OpsB.say (d := 3) rfl (y := S (accN l (k + 1))) (by rw [show ((2 * accN l k : Nat) : Int) + 1 = ((accN l (k + 1) : Nat) : Int) by omega]; exact congrArg (fun z => D.v (.int .u64 z)) (u64_in hlt)) ?_
      first | refine OpsAt.say (d := 4) rfl (y := .v (.int .i64 (63 - (k + 1 : Nat)))) (by rw [wrap64_in ((63 : Int) - (k : Nat) - 1) (by omega)]; congr 2; omega) ?_ | refine Run.say (d := 4) rfl (y := .v (.int .i64 (63 - (k + 1 : Nat)))) (by rw [wrap64_in ((63 : Int) - (k : Nat) - 1) (by omega)]; congr 2; omega) ?_ | refine OpsR.say (q := 4) rfl (y := .v (.int .i64 (63 - (k + 1 : Nat)))) (by rw [wrap64_in ((63 : Int) - (k : Nat) - 1) (by omega)]; congr 2; omega) ?_ | refine OpsB.say (d := 4) rfl (y := .v (.int .i64 (63 - (k + 1 : Nat)))) (by rw [wrap64_in ((63 : Int) - (k : Nat) - 1) (by omega)]; congr 2; omega) ?_
      refine Run.keep [1, 3, 4] rfl ?_
      exact ih (k + 1) (by omega) (by omega)
    · have hacc : accN l (k + 1) = 2 * accN l k := by simp only [accN]; rw [h1]; rfl
      repeat (first | refine wb ?_ | refine wc ?_ | refine we ?_ | refine wf ?_ | ((first | refine wl rfl rfl ?_ ?_ | refine wn (wp rfl rfl rfl rfl rfl ?_) rfl ?_); try (first | ((repeat' apply And.intro) <;> first | exact trivial | exact rfl | omega | (simp; done) | (simp; omega)))))
      first | refine OpsAt.say (d := 3) rfl (y := S (accN l (k + 1))) (by rw [hacc]) ?_ | refine Run.say (d := 3) rfl (y := S (accN l (k + 1))) (by rw [hacc]) ?_ | refine OpsR.say (q := 3) rfl (y := S (accN l (k + 1))) (by rw [hacc]) ?_ | refine OpsB.say (d := 3) rfl (y := S (accN l (k + 1))) (by rw [hacc]) ?_
      first | refine OpsAt.say (d := 4) rfl (y := .v (.int .i64 (63 - (k + 1 : Nat)))) (by rw [wrap64_in ((63 : Int) - (k : Nat) - 1) (by omega)]; congr 2; omega) ?_ | refine Run.say (d := 4) rfl (y := .v (.int .i64 (63 - (k + 1 : Nat)))) (by rw [wrap64_in ((63 : Int) - (k : Nat) - 1) (by omega)]; congr 2; omega) ?_ | refine OpsR.say (q := 4) rfl (y := .v (.int .i64 (63 - (k + 1 : Nat)))) (by rw [wrap64_in ((63 : Int) - (k : Nat) - 1) (by omega)]; congr 2; omega) ?_ | refine OpsB.say (d := 4) rfl (y := .v (.int .i64 (63 - (k + 1 : Nat)))) (by rw [wrap64_in ((63 : Int) - (k : Nat) - 1) (by omega)]; congr 2; omega) ?_
      refine Run.keep [1, 3, 4] rfl ?_
      exact ih (k + 1) (by omega) (by omega)
  · have hk2 : k = 64 := by simp at hb; omega
    subst hk2
    repeat (first | refine wa ?_ | refine wb ?_ | refine wc ?_ | ((refine wl rfl rfl ?_ ?_); try (first | ((repeat' apply And.intro) <;> first | exact trivial | exact rfl | omega | (simp; done) | (simp; omega)))) | refine wj rfl ?_)
    exact wD (wE rfl rfl rfl)
end Go.Proofs.YtaflihoopnjcgaaDoor

namespace Go.Proofs.YtaflihoopnjcgaaDoor
open Go Go.Dat

theorem full_mod (s : Nat) : s &&& full32 = s % 4294967296 := by
  have := Nat.and_two_pow_sub_one_eq_mod s 32
  simpa [full32] using this

theorem c_rOuts (g : List Nat) (i : Int) (hg : gok g) : DFun Tryd.prog 60 [gr g, .v (.int .i64 i)] (S (outsN g i)) := by
  refine DFun.ofRun agree mixed Tryd.func60 rfl rfl ?_
  repeat (first | refine wa ?_ | refine wc ?_ | ((refine wl rfl rfl ?_ ?_)))
  · exact gr_pl g
  repeat (first | refine wa ?_ | refine wb ?_ | refine wc ?_ | ((refine wl rfl rfl ?_ ?_); try (first | exact trivial | ((repeat' apply And.intro) <;> first | exact trivial | exact rfl | omega | (simp; done) | (simp; omega)))))
  refine wn (wA rfl rfl rfl (by repeat' (first | exact trivial | exact rfl | assumption | apply And.intro)) (callable (by decide)) (c_refNode i)) rfl ?_
  repeat (first | refine wb ?_ | ((refine wl rfl rfl ?_ ?_); try (first | ((repeat' apply And.intro) <;> first | exact trivial | exact rfl | omega | (simp; done) | (simp; omega)))))
  refine Run.condB rfl rfl (fun h0 => ?_) (fun h0 => ?_)
  · have : nodeN i = false := by simpa using h0
    repeat (first | refine wa ?_ | refine wb ?_ | refine wc ?_ | ((refine wl rfl rfl ?_ ?_); try (first | exact trivial)))
    refine wD (wE rfl rfl ?_)
    simp [outsN, this, S]
  have hn : nodeN i = true := by simpa using h0
  obtain ⟨n, rfl, hlt⟩ := node_nat hn
  have hgd : (gr g).get ([] ++ [((n : Int)).toNat]) = S (g.getD n 0) := gr_at (by rw [hg.1]; exact hlt)
  repeat (first | refine wa ?_ | refine wc ?_ | refine wf ?_ | ((refine wl rfl rfl ?_ ?_); try (first | ((repeat' apply And.intro) <;> first | exact trivial | exact rfl | omega | (simp; done) | (simp; omega)))))
  · exact ⟨rfl, rfl, by rw [sets_len, hg.1], by omega, by omega⟩
  refine wn (Ev.ldBox rfl (adrOf_sound rfl) (ld_ok (T := 24) hgd rfl).1 (ld_ok (T := 24) hgd rfl).2) rfl ?_
  first | refine OpsAt.say (d := 10) rfl (y := S (g.getD n 0)) (hgd) ?_ | refine Run.say (d := 10) rfl (y := S (g.getD n 0)) (hgd) ?_ | refine OpsR.say (q := 10) rfl (y := S (g.getD n 0)) (hgd) ?_ | refine OpsB.say (d := 10) rfl (y := S (g.getD n 0)) (hgd) ?_
  repeat (first | refine wb ?_ | ((first | refine wl rfl rfl ?_ ?_ | refine wn (wp rfl rfl rfl rfl rfl ?_) rfl ?_); try (first | ((repeat' apply And.intro) <;> first | exact trivial | exact rfl | omega | (simp; done) | (simp; omega)))))
  refine wD (wE rfl rfl ?_)
  have hm : ((g.getD n 0 : Nat) : Int).tmod 4294967296 = ((g.getD n 0 % 4294967296 : Nat) : Int) := (Int.ofNat_tmod _ _).symm
  have : outsN g (n : Int) = g.getD n 0 % 4294967296 := by rw [outsN, hn, if_pos rfl, Int.toNat_natCast, full_mod]
  rw [this]
  exact congrArg (fun z => D.v (.int .u64 z)) hm

theorem c_rPut (g : List Nat) (i j : Int) (hg : gok g) : DFun Tryd.prog 66 [gr g, .v (.int .i64 i), .v (.int .i64 j)] (.tup [gr (putG g i j).1, .v (.bool (putG g i j).2)]) := by
  refine DFun.ofRun agree mixed Tryd.func66 rfl rfl ?_
  repeat (first | refine wa ?_ | refine wc ?_ | ((refine wl rfl rfl ?_ ?_)))
  · exact gr_pl g
  repeat (first | refine wa ?_ | refine wb ?_ | refine wc ?_ | ((refine wl rfl rfl ?_ ?_); try (first | exact trivial | ((repeat' apply And.intro) <;> first | exact trivial | exact rfl | omega | (simp; done) | (simp; omega)))))
  refine wn (wA rfl rfl rfl (by repeat' (first | exact trivial | exact rfl | assumption | apply And.intro)) (callable (by decide)) (c_refNode i)) rfl ?_
  repeat (first | ((refine wl rfl rfl ?_ ?_); try (first | ((repeat' apply And.intro) <;> first | exact trivial | exact rfl | omega | (simp; done) | (simp; omega)))))
  first | refine OpsAt.say (d := 11) rfl (y := .v (.bool (!nodeN i))) (rfl) ?_ | refine Run.say (d := 11) rfl (y := .v (.bool (!nodeN i))) (rfl) ?_ | refine OpsR.say (q := 11) rfl (y := .v (.bool (!nodeN i))) (rfl) ?_ | refine OpsB.say (d := 11) rfl (y := .v (.bool (!nodeN i))) (rfl) ?_
  refine OpsAt.br rfl rfl rfl (fun hi => ?_) (fun hi => ?_)
  · have h0 : nodeN i = false := by simpa using hi
    have hp : putG g i j = (g, false) := by simp [putG, h0]
    repeat (first | refine wa ?_ | refine wb ?_ | refine wc ?_ | ((first | refine wl rfl rfl ?_ ?_ | refine wt rfl ?_ ?_); try (first | ((repeat' apply And.intro) <;> first | exact trivial | exact rfl | omega | (simp; done) | (simp; omega)))) | refine ws rfl rfl ?_)
    · exact ⟨gr_fits hg.1 rfl, gr_pl g⟩
    refine wv rfl rfl (gr_pl g) (gr_stoAll (z := List.replicate 32 0) hg.1 rfl rfl) rfl ?_
    repeat (first | refine wb ?_ | ((refine wl rfl rfl ?_ ?_); try (first | exact trivial)))
    refine wD (Ends.tupE agree rfl ⟨⟨gr_fits hg.1 rfl, gr_pl g⟩, rfl, trivial⟩ rfl ?_)
    rw [hp]
    rfl
  have hi' : nodeN i = true := by simpa using hi
  repeat (first | ((refine wm rfl rfl rfl ?_ ?_); try (first | ((repeat' apply And.intro) <;> first | exact trivial | exact rfl | omega | (simp; done) | (simp; omega)))))
  refine wo rfl (wA rfl rfl rfl (by repeat' (first | exact trivial | exact rfl | assumption | apply And.intro)) (callable (by decide)) (c_refNode j)) rfl ?_
  repeat (first | ((first | refine wl rfl rfl ?_ ?_ | refine wm rfl rfl rfl ?_ ?_); try (first | ((repeat' apply And.intro) <;> first | exact trivial | exact rfl | omega | (simp; done) | (simp; omega)))))
  first | refine OpsAt.say (d := 16) rfl (y := .v (.bool (!nodeN j))) (rfl) ?_ | refine Run.say (d := 16) rfl (y := .v (.bool (!nodeN j))) (rfl) ?_ | refine OpsR.say (q := 16) rfl (y := .v (.bool (!nodeN j))) (rfl) ?_ | refine OpsB.say (d := 16) rfl (y := .v (.bool (!nodeN j))) (rfl) ?_
  refine OpsAt.br rfl rfl rfl (fun hj => ?_) (fun hj => ?_)
  · have h0 : nodeN j = false := by simpa using hj
    have hp : putG g i j = (g, false) := by simp [putG, h0]
    repeat (first | refine wa ?_ | refine wb ?_ | refine wc ?_ | ((first | refine wl rfl rfl ?_ ?_ | refine wt rfl ?_ ?_); try (first | ((repeat' apply And.intro) <;> first | exact trivial | exact rfl | omega | (simp; done) | (simp; omega)))) | refine ws rfl rfl ?_)
    · exact ⟨gr_fits hg.1 rfl, gr_pl g⟩
    refine wv rfl rfl (gr_pl g) (gr_stoAll (z := List.replicate 32 0) hg.1 rfl rfl) rfl ?_
    repeat (first | refine wb ?_ | ((refine wl rfl rfl ?_ ?_); try (first | exact trivial)))
    refine wD (Ends.tupE agree rfl ⟨⟨gr_fits hg.1 rfl, gr_pl g⟩, rfl, trivial⟩ rfl ?_)
    rw [hp]
    rfl
  have hj' : nodeN j = true := by simpa using hj
  repeat (first | refine wb ?_ | ((first | refine wl rfl rfl ?_ ?_ | refine wm rfl rfl rfl ?_ ?_ | refine wo rfl (wp rfl rfl rfl rfl rfl ?_) rfl ?_); try (first | ((repeat' apply And.intro) <;> first | exact trivial | exact rfl | omega | (simp; done) | (simp; omega)))))
  refine Run.condB rfl rfl (fun he => ?_) (fun he => ?_)
  · have he' : i = j := by simpa using he
    have hp : putG g i j = (g, false) := by simp [putG, he']
    repeat (first | refine wa ?_ | refine wc ?_ | ((refine wl rfl rfl ?_ ?_)))
    · exact ⟨gr_fits hg.1 rfl, gr_pl g⟩
    refine wv rfl rfl (gr_pl g) (gr_stoAll (z := List.replicate 32 0) hg.1 rfl rfl) rfl ?_
    repeat (first | refine wb ?_ | ((refine wl rfl rfl ?_ ?_); try (first | exact trivial)))
    refine wD (Ends.tupE agree rfl ⟨⟨gr_fits hg.1 rfl, gr_pl g⟩, rfl, trivial⟩ rfl ?_)
    rw [hp]
    rfl
  have he' : i ≠ j := by simpa using he
  have hc : (nodeN i && nodeN j && i != j) = true := by rw [hi', hj']; simpa using he'
  have hp : putG g i j = (g.set i.toNat (withN (g.getD i.toNat 0) j), true) := by unfold putG; rw [if_pos hc]
  obtain ⟨n, rfl, hlt⟩ := node_nat hi'
  rw [Int.toNat_natCast] at hp
  have hgd : (gr g).get ([] ++ [((n : Int)).toNat]) = S (g.getD n 0) := gr_at (by rw [hg.1]; exact hlt)
  repeat (first | refine wa ?_ | refine wc ?_ | refine wf ?_ | ((refine wl rfl rfl ?_ ?_); try (first | ((repeat' apply And.intro) <;> first | exact trivial | exact rfl | omega | (simp; done) | (simp; omega)))))
  · exact ⟨rfl, rfl, by rw [sets_len, hg.1], by omega, by omega⟩
  refine wn (Ev.ldBox rfl (adrOf_sound rfl) (ld_ok (T := 24) hgd rfl).1 (ld_ok (T := 24) hgd rfl).2) rfl ?_
  first | refine OpsAt.say (d := 25) rfl (y := S (g.getD n 0)) (hgd) ?_ | refine Run.say (d := 25) rfl (y := S (g.getD n 0)) (hgd) ?_ | refine OpsR.say (q := 25) rfl (y := S (g.getD n 0)) (hgd) ?_ | refine OpsB.say (d := 25) rfl (y := S (g.getD n 0)) (hgd) ?_
  repeat (first | ((refine wl rfl rfl ?_ ?_); try (first | ((repeat' apply And.intro) <;> first | exact trivial | exact rfl | omega | (simp; done) | (simp; omega)))))
  refine wn (wA rfl rfl rfl (by repeat' (first | exact trivial | exact rfl | assumption | apply And.intro)) (callable (by decide)) (c_rWith (g.getD n 0) j (hg.at n))) rfl ?_
  repeat (first | ((refine wl rfl rfl ?_ ?_)))
  · exact ⟨rfl, rfl, by rw [sets_len, hg.1], by omega, by omega⟩
  have hg2 : gok (g.set n (withN (g.getD n 0) j)) := hg.set n (withN_lt j (hg.at n))
  refine wv rfl rfl rfl (gr_sto (by rw [hg.1]; exact hlt) rfl) rfl ?_
  first | refine OpsAt.sayB (d := 3) rfl (y := gr (g.set n (withN (g.getD n 0) j))) (gr_set g n _) ?_ | refine Run.sayB (d := 3) rfl (y := gr (g.set n (withN (g.getD n 0) j))) (gr_set g n _) ?_
  repeat (first | refine wa ?_ | refine wb ?_ | refine wc ?_ | ((refine wl rfl rfl ?_ ?_)))
  · exact ⟨gr_fits hg2.1 rfl, gr_pl _⟩
  refine wv rfl rfl (gr_pl _) (gr_stoAll (z := List.replicate 32 0) hg2.1 rfl rfl) rfl ?_
  repeat (first | refine wb ?_ | ((refine wl rfl rfl ?_ ?_); try (first | exact trivial)))
  refine wD (Ends.tupE agree rfl ⟨⟨gr_fits hg2.1 rfl, gr_pl _⟩, rfl, trivial⟩ rfl ?_)
  rw [hp]
  rfl
end Go.Proofs.YtaflihoopnjcgaaDoor

namespace Go.Proofs.YtaflihoopnjcgaaDoor
open Go Go.Dat

/-- The first node from i on, of n, whose place is p; -1: there is none. -/
def atFrom (l : List Int) (p : Int) : Nat → Nat → Int
  | 0, _ => -1
  | n + 1, i => if l.getD i 0 = p then (i : Int) else atFrom l p n (i + 1)
def atR (l : List Int) (p : Int) : Int := atFrom l p 32 0
theorem atFrom_spec (l : List Int) (p : Int) : ∀ n i, (∃ k : Nat, i ≤ k ∧ k < i + n ∧ atFrom l p n i = k ∧ l.getD k 0 = p) ∨ (atFrom l p n i = -1 ∧ ∀ k, i ≤ k → k < i + n → l.getD k 0 ≠ p)
  | 0, i => .inr ⟨rfl, fun k h1 h2 => absurd h2 (by omega)⟩
  | n + 1, i => by
    by_cases h : l.getD i 0 = p
    · exact .inl ⟨i, Nat.le_refl _, by omega, by simp only [atFrom, h, if_true], h⟩
    · simp only [atFrom, h, if_false]
      rcases atFrom_spec l p n (i + 1) with ⟨k, h1, h2, h3, h4⟩ | ⟨h1, h2⟩
      · exact .inl ⟨k, by omega, by omega, h3, h4⟩
      · refine .inr ⟨h1, fun k h3 h4 => ?_⟩
        by_cases e : k = i
        · rw [e]; exact h
        · exact h2 k (by omega) (by omega)
theorem atR_perm {l : List Int} (hp : Perm32 l) {p : Nat} (hpp : p < 32) : atR l (p : Int) = (at' l p : Int) := by
  have hat := hp.pl_at hpp
  have hl := (hp.pl_eq hat.2).1
  rw [hat.1] at hl
  rcases atFrom_spec l (p : Int) 32 0 with ⟨k, _, h2, h3, h4⟩ | ⟨_, h2⟩
  · have : k = at' l p := hp.inj (by omega) hat.2 (by unfold pl; rw [h4, hl])
    rw [atR, h3, this]
  · exact absurd hl (h2 _ (by omega) (by omega))
theorem atR_right {l : List Int} (hl : l.length = 32) : rightO l = true ↔ ∀ p : Nat, p < 32 → ¬ atR l (p : Int) < 0 := by
  constructor
  · intro h p hp
    rw [atR_perm (rightO_p hl h) hp]
    omega
  · intro h
    rw [rightO_iff hl]
    refine perm_of_all 32 l (by omega) fun p hp => ?_
    rcases atFrom_spec l (p : Int) 32 0 with ⟨k, _, h2, h3, h4⟩ | ⟨h1, _⟩
    · rw [← h4]; exact getD_mem (by omega)
    · exact absurd (by rw [atR, h1]; decide) (h p hp)

theorem c_rAt (l : List Int) (p : Int) (hl : l.length = 32) : DFun Tryd.prog 71 [ord l, .v (.int .i64 p)] (.v (.int .i64 (atR l p))) := by
  refine DFun.ofRun agree mixed Tryd.func71 rfl rfl ?_
  repeat (first | refine wa ?_ | refine wc ?_ | ((refine wl rfl rfl ?_ ?_)))
  · exact ord_pl l
  repeat (first | refine wa ?_ | refine wb ?_ | refine wc ?_ | refine wd ?_ | ((refine wl rfl rfl ?_ ?_); try (first | exact trivial)))
  refine Run.keep [1, 2, 4, 5] rfl ?_
  refine Run.at (l' := [(1, .d (.v (.int .i64 p))), (2, .box (ord l)), (4, .d (.v (.int .i64 0))), (5, .d (.v (.int .i64 (0 : Nat))))]) rfl ?_
  refine Run.loopL (α := Nat) (fun i => i ≤ 32 ∧ atR l p = atFrom l p (32 - i) i) (fun i => [(1, .d (.v (.int .i64 p))), (2, .box (ord l)), (4, .d (.v (.int .i64 0))), (5, .d (.v (.int .i64 i)))]) (fun i => 32 - i) 0 ⟨by decide, rfl⟩ ?_
  rintro i ⟨hi, hr⟩ ih
  repeat (first | refine wa ?_ | refine wb ?_ | refine wc ?_ | ((first | refine wl rfl rfl ?_ ?_ | refine wn (wp rfl rfl rfl rfl rfl ?_) rfl ?_); try (first | ((repeat' apply And.intro) <;> first | exact trivial | exact rfl | omega | (simp; done) | (simp; omega)))))
  refine Run.condB rfl rfl (fun hb => ?_) (fun hb => ?_)
  · have hi2 : i < 32 := by simp at hb; omega
    have gi : (ord l).get ([] ++ [((i : Int)).toNat]) = .v (.int .i64 (l.getD i 0)) := ord_at (by omega)
    have hst : atFrom l p (32 - i) i = if l.getD i 0 = p then (i : Int) else atFrom l p (32 - (i + 1)) (i + 1) := by
      rw [show 32 - i = (32 - (i + 1)) + 1 by omega]; rfl
    repeat (first | refine wa ?_ | refine wc ?_ | refine wd ?_ | refine wf ?_ | ((refine wl rfl rfl ?_ ?_); try (first | ((repeat' apply And.intro) <;> first | exact trivial | exact rfl | omega | (simp; done) | (simp; omega)))))
    · exact ⟨rfl, rfl, by rw [ints_len, hl], by omega, by omega⟩
    refine wn (Ev.ldBox rfl (adrOf_sound rfl) (ld_ok (T := 3) gi rfl).1 (ld_ok (T := 3) gi rfl).2) rfl ?_
    first | refine OpsAt.say (d := 12) rfl (y := .v (.int .i64 (l.getD i 0))) (gi) ?_ | refine Run.say (d := 12) rfl (y := .v (.int .i64 (l.getD i 0))) (gi) ?_ | refine OpsR.say (q := 12) rfl (y := .v (.int .i64 (l.getD i 0))) (gi) ?_ | refine OpsB.say (d := 12) rfl (y := .v (.int .i64 (l.getD i 0))) (gi) ?_
    repeat (first | refine wb ?_ | ((first | refine wl rfl rfl ?_ ?_ | refine wn (wp rfl rfl rfl rfl rfl ?_) rfl ?_); try (first | ((repeat' apply And.intro) <;> first | exact trivial | exact rfl | omega | (simp; done) | (simp; omega)))))
    refine Run.condB rfl rfl (fun h1 => ?_) (fun h1 => ?_)
    · have h1' : l.getD i 0 = p := by simpa using h1
      repeat (first | refine wa ?_ | refine wb ?_ | refine wc ?_ | ((refine wl rfl rfl ?_ ?_); try (first | ((repeat' apply And.intro) <;> first | exact trivial | exact rfl | omega | (simp; done) | (simp; omega)))))
      refine wD (wE rfl rfl ?_)
      rw [hr, hst, if_pos h1']
    · have h1' : ¬ l.getD i 0 = p := by simpa using h1
      repeat (first | refine wb ?_ | refine wc ?_ | refine we ?_ | refine wf ?_ | ((first | refine wl rfl rfl ?_ ?_ | refine wn (wp rfl rfl rfl rfl rfl ?_) rfl ?_); try (first | ((repeat' apply And.intro) <;> first | exact trivial | exact rfl | omega | (simp; done) | (simp; omega)))))
      first | refine OpsAt.say (d := 5) rfl (y := .v (.int .i64 (i + 1 : Nat))) (by rw [wrap64_in ((i : Int) + 1) (by omega)]; simp) ?_ | refine Run.say (d := 5) rfl (y := .v (.int .i64 (i + 1 : Nat))) (by rw [wrap64_in ((i : Int) + 1) (by omega)]; simp) ?_ | refine OpsR.say (q := 5) rfl (y := .v (.int .i64 (i + 1 : Nat))) (by rw [wrap64_in ((i : Int) + 1) (by omega)]; simp) ?_ | refine OpsB.say (d := 5) rfl (y := .v (.int .i64 (i + 1 : Nat))) (by rw [wrap64_in ((i : Int) + 1) (by omega)]; simp) ?_
      refine Run.keep [1, 2, 4, 5] rfl ?_
      exact ih (i + 1) ⟨by omega, by rw [hr, hst, if_neg h1']⟩ (by omega)
  · have hi2 : i = 32 := by simp at hb; omega
    subst hi2
    repeat (first | refine wa ?_ | refine wb ?_ | refine wc ?_ | ((refine wl rfl rfl ?_ ?_); try (first | exact trivial)) | refine wj rfl ?_)
    refine wD (wE rfl rfl ?_)
    rw [hr]
    rfl

theorem c_rRight (l : List Int) (hl : l.length = 32) : DFun Tryd.prog 61 [ord l] (.v (.bool (rightO l))) := by
  refine DFun.ofRun agree mixed Tryd.func61 rfl rfl ?_
  repeat (first | refine wa ?_ | refine wc ?_ | ((refine wl rfl rfl ?_ ?_)))
  · exact ord_pl l
  repeat (first | refine wa ?_ | refine wb ?_ | refine wc ?_ | refine wd ?_ | ((refine wl rfl rfl ?_ ?_); try (first | exact trivial)))
  refine Run.keep [1, 2, 3] rfl ?_
  refine Run.at (l' := [(1, .box (ord l)), (2, .d (.v (.bool false))), (3, .d (.v (.int .i64 (0 : Nat))))]) rfl ?_
  refine Run.loopL (α := Nat) (fun i => i ≤ 32 ∧ ∀ j : Nat, j < i → ¬ atR l (j : Int) < 0) (fun i => [(1, .box (ord l)), (2, .d (.v (.bool false))), (3, .d (.v (.int .i64 i)))]) (fun i => 32 - i) 0 ⟨by decide, fun j hj => absurd hj (by omega)⟩ ?_
  rintro i ⟨hi, hall⟩ ih
  repeat (first | refine wa ?_ | refine wb ?_ | refine wc ?_ | ((first | refine wl rfl rfl ?_ ?_ | refine wn (wp rfl rfl rfl rfl rfl ?_) rfl ?_); try (first | ((repeat' apply And.intro) <;> first | exact trivial | exact rfl | omega | (simp; done) | (simp; omega)))))
  refine Run.condB rfl rfl (fun hb => ?_) (fun hb => ?_)
  · have hi2 : i < 32 := by simp at hb; omega
    repeat (first | refine wa ?_ | refine wc ?_ | refine wd ?_ | refine wf ?_ | ((refine wl rfl rfl ?_ ?_)))
    · exact ⟨ord_fits hl rfl, ord_pl l⟩
    repeat (first | ((refine wl rfl rfl ?_ ?_); try (first | ((repeat' apply And.intro) <;> first | exact trivial | exact rfl | omega | (simp; done) | (simp; omega)))))
    have hpl : ((ord l).get []).pl = true := ord_pl l
    refine wn (wA rfl rfl rfl (by repeat' (first | exact trivial | exact rfl | assumption | apply And.intro)) (callable (by decide)) (c_rAt l i hl)) rfl ?_
    repeat (first | refine wb ?_ | ((refine wn (wp rfl rfl rfl rfl rfl ?_) rfl ?_); try (first | ((repeat' apply And.intro) <;> first | exact trivial | exact rfl | omega | (simp; done) | (simp; omega)))))
    refine Run.condB rfl rfl (fun h1 => ?_) (fun h1 => ?_)
    · have h1' := of_decide_eq_true h1
      repeat (first | refine wa ?_ | refine wb ?_ | refine wc ?_ | ((refine wl rfl rfl ?_ ?_); try (first | exact trivial)))
      refine wD (wE rfl rfl ?_)
      have : rightO l = false := Bool.eq_false_iff.2 fun h => (atR_right hl).1 h i hi2 h1'
      rw [this]
    · have h1' := of_decide_eq_false h1
      repeat (first | refine wb ?_ | refine wc ?_ | refine we ?_ | refine wf ?_ | ((first | refine wl rfl rfl ?_ ?_ | refine wn (wp rfl rfl rfl rfl rfl ?_) rfl ?_); try (first | ((repeat' apply And.intro) <;> first | exact trivial | exact rfl | omega | (simp; done) | (simp; omega)))))
      first | refine OpsAt.say (d := 3) rfl (y := .v (.int .i64 (i + 1 : Nat))) (by rw [wrap64_in ((i : Int) + 1) (by omega)]; simp) ?_ | refine Run.say (d := 3) rfl (y := .v (.int .i64 (i + 1 : Nat))) (by rw [wrap64_in ((i : Int) + 1) (by omega)]; simp) ?_ | refine OpsR.say (q := 3) rfl (y := .v (.int .i64 (i + 1 : Nat))) (by rw [wrap64_in ((i : Int) + 1) (by omega)]; simp) ?_ | refine OpsB.say (d := 3) rfl (y := .v (.int .i64 (i + 1 : Nat))) (by rw [wrap64_in ((i : Int) + 1) (by omega)]; simp) ?_
      refine Run.keep [1, 2, 3] rfl ?_
      refine ih (i + 1) ⟨by omega, fun j hj => ?_⟩ (by omega)
      by_cases e : j = i
      · rw [e]; exact h1'
      · exact hall j (by omega)
  · have hi2 : i = 32 := by simp at hb; omega
    subst hi2
    repeat (first | refine wa ?_ | refine wb ?_ | refine wc ?_ | ((refine wl rfl rfl ?_ ?_); try (first | exact trivial)) | refine wj rfl ?_)
    refine wD (wE rfl rfl ?_)
    have : rightO l = true := (atR_right hl).2 hall
    rw [this]

theorem c_rRow (l : List Int) (hl : l.length = 32) : DFun Tryd.prog 70 [ord l] (.lst .any 1 (ints (if rightO l then rowOf l 32 else []))) := by
  refine DFun.ofRun agree mixed Tryd.func70 rfl rfl ?_
  repeat (first | refine wa ?_ | refine wc ?_ | ((refine wl rfl rfl ?_ ?_)))
  · exact ord_pl l
  repeat (first | refine wa ?_ | refine wb ?_ | refine wc ?_ | ((refine wl rfl rfl ?_ ?_); try (first | exact trivial)))
  · exact ⟨ord_fits hl rfl, ord_pl l⟩
  skip
  have hpl : ((ord l).get []).pl = true := ord_pl l
  refine wn (wA rfl rfl rfl (by repeat' (first | exact trivial | exact rfl | assumption | apply And.intro)) (callable (by decide)) (c_rRight l hl)) rfl ?_
  repeat (first | refine wb ?_ | ((refine wl rfl rfl ?_ ?_); try (first | ((repeat' apply And.intro) <;> first | exact trivial | exact rfl | omega | (simp; done) | (simp; omega)))))
  refine Run.condB rfl rfl (fun h0 => ?_) (fun h0 => ?_)
  · have : rightO l = false := by simpa using h0
    repeat (first | refine wa ?_ | refine wb ?_ | refine wc ?_ | ((refine wl rfl rfl ?_ ?_); try (first | exact trivial)))
    refine Run.ownNil 2 3 1 rfl ?_
    refine Run.freeze 2 .any rfl (okK_any _) ?_
    refine wD (wE rfl rfl ?_)
    rw [this]
    rfl
  have hr : rightO l = true := by simpa using h0
  have hp := rightO_p hl hr
  obtain ⟨r, hr0⟩ : ∃ r, r = rowOf l 32 := ⟨_, rfl⟩
  have hrl : r.length = 32 := by rw [hr0, rowOf_len]
  rw [if_pos hr, ← hr0]
  repeat (first | refine wa ?_ | refine wb ?_ | refine wc ?_ | refine wd ?_ | refine wf ?_ | ((refine wl rfl rfl ?_ ?_); try (first | exact trivial)))
  refine Run.ownNil 3 3 1 rfl ?_
  refine Run.keep [1, 3, 4] rfl ?_
  refine Run.at (l' := [(1, .box (ord l)), (3, .d (.own (decide (0 = 0)) 3 1 (ints (r.take 0)))), (4, .d (.v (.int .i64 (0 : Nat))))]) rfl ?_
  refine Run.loopL (α := Nat) (fun i => i ≤ 32) (fun i => [(1, .box (ord l)), (3, .d (.own (decide (i = 0)) 3 1 (ints (r.take i)))), (4, .d (.v (.int .i64 i)))]) (fun i => 32 - i) 0 (by decide) ?_
  intro i hi ih
  have htl : (r.take i).length = i := by simp; omega
  repeat (first | refine wa ?_ | refine wb ?_ | refine wc ?_ | ((first | refine wl rfl rfl ?_ ?_ | refine wn (wp rfl rfl rfl rfl rfl ?_) rfl ?_); try (first | ((repeat' apply And.intro) <;> first | exact trivial | exact rfl | omega | (simp; done) | (simp; omega)))))
  refine Run.condB rfl rfl (fun hb => ?_) (fun hb => ?_)
  · have hi2 : i < 32 := by simp at hb; omega
    repeat (first | refine wa ?_ | refine wc ?_ | refine wd ?_ | refine wf ?_ | ((refine wl rfl rfl ?_ ?_); try (first | exact trivial)))
    · exact ⟨ord_fits hl rfl, ord_pl l⟩
    repeat (first | ((refine wl rfl rfl ?_ ?_); try (first | ((repeat' apply And.intro) <;> first | exact trivial | exact rfl | omega | (simp; done) | (simp; omega)))))
    refine wn (wA rfl rfl rfl (by repeat' (first | exact trivial | exact rfl | assumption | apply And.intro)) (callable (by decide)) (c_rAt l i hl)) rfl ?_
    first | refine OpsAt.say (d := 15) rfl (y := .v (.int .i64 (r.getD i 0))) (by rw [atR_perm hp hi2, hr0, hp.row hi2]) ?_ | refine Run.say (d := 15) rfl (y := .v (.int .i64 (r.getD i 0))) (by rw [atR_perm hp hi2, hr0, hp.row hi2]) ?_ | refine OpsR.say (q := 15) rfl (y := .v (.int .i64 (r.getD i 0))) (by rw [atR_perm hp hi2, hr0, hp.row hi2]) ?_ | refine OpsB.say (d := 15) rfl (y := .v (.int .i64 (r.getD i 0))) (by rw [atR_perm hp hi2, hr0, hp.row hi2]) ?_
    repeat (first | ((refine wl rfl rfl ?_ ?_); try (first | ((repeat' apply And.intro) <;> first | exact trivial | exact rfl | omega | (simp; done) | (simp; omega)))) | (refine wx rfl rfl (.vw (vwOf_sound rfl)) rfl rfl ?_ ?_ rfl ?_; (try (simp <;> omega)); (try (first | (simp <;> omega) | (simp [maxLen] <;> omega)))))
    · simp only [ints_len, htl, List.length_singleton]; omega
    · simp only [ints_len, htl, List.length_singleton, maxLen]; omega
    repeat (first | refine wb ?_ | refine wc ?_ | refine we ?_ | ((first | refine wl rfl rfl ?_ ?_ | refine wn (wp rfl rfl rfl rfl rfl ?_) rfl ?_); try (first | ((repeat' apply And.intro) <;> first | exact trivial | exact rfl | omega | (simp; done) | (simp; omega)))) | refine ww rfl rfl rfl ?_)
    have htk : r.take (i + 1) = r.take i ++ [r.getD i 0] := by rw [List.take_add_one, getD_eq (by omega : i < r.length), List.getElem?_eq_getElem (by omega)]; rfl
    first | refine OpsAt.say (d := 3) rfl (y := .own (decide (i + 1 = 0)) 3 1 (ints (r.take (i + 1)))) (by rw [htk]; simp [ints]) ?_ | refine Run.say (d := 3) rfl (y := .own (decide (i + 1 = 0)) 3 1 (ints (r.take (i + 1)))) (by rw [htk]; simp [ints]) ?_ | refine OpsR.say (q := 3) rfl (y := .own (decide (i + 1 = 0)) 3 1 (ints (r.take (i + 1)))) (by rw [htk]; simp [ints]) ?_ | refine OpsB.say (d := 3) rfl (y := .own (decide (i + 1 = 0)) 3 1 (ints (r.take (i + 1)))) (by rw [htk]; simp [ints]) ?_
    first | refine OpsAt.say (d := 4) rfl (y := .v (.int .i64 (i + 1 : Nat))) (by rw [wrap64_in ((i : Int) + 1) (by omega)]; simp) ?_ | refine Run.say (d := 4) rfl (y := .v (.int .i64 (i + 1 : Nat))) (by rw [wrap64_in ((i : Int) + 1) (by omega)]; simp) ?_ | refine OpsR.say (q := 4) rfl (y := .v (.int .i64 (i + 1 : Nat))) (by rw [wrap64_in ((i : Int) + 1) (by omega)]; simp) ?_ | refine OpsB.say (d := 4) rfl (y := .v (.int .i64 (i + 1 : Nat))) (by rw [wrap64_in ((i : Int) + 1) (by omega)]; simp) ?_
    refine Run.keep [1, 3, 4] rfl ?_
    exact ih (i + 1) (by omega) (by omega)
  · have hi2 : i = 32 := by simp at hb; omega
    subst hi2
    refine Run.freeze 3 .any rfl (okK_any _) ?_
    repeat (first | refine wa ?_ | refine wb ?_ | refine wc ?_ | ((refine wl rfl rfl ?_ ?_); try (first | ((repeat' apply And.intro) <;> first | exact trivial | exact rfl | omega | (simp; done) | (simp; omega)))) | refine wj rfl ?_)
    refine wD (wE rfl rfl ?_)
    rw [List.take_of_length_le (by omega)]
end Go.Proofs.YtaflihoopnjcgaaDoor

namespace Go.Proofs.YtaflihoopnjcgaaDoor
open Go Go.Dat

theorem goes_edge (g : List Nat) (l : List Int) (i : Nat) : (itemsN (outsN g (i : Int))).all (goes l i) = true ↔ ∀ k, k < 32 → edge g i k = true → l.getD i 0 < l.getD k 0 := by
  rw [List.all_eq_true, itemsN_eq]
  constructor
  · intro h k hk he
    have := h (k : Int) (List.mem_map.2 ⟨k, itemsL_mem.2 ⟨by omega, by rw [outs_bit]; exact he⟩, rfl⟩)
    exact of_decide_eq_true this
  · intro h x hx
    obtain ⟨k, hk, rfl⟩ := List.mem_map.1 hx
    rw [itemsL_mem, outs_bit] at hk
    have hk32 : k < 32 := by have := hk.2; simp only [edge, Bool.and_eq_true, decide_eq_true_eq] at this; exact this.1.2
    exact decide_eq_true (h k hk32 hk.2)

theorem c_rSorted (g : List Nat) (l : List Int) (hg : gok g) (hl : l.length = 32) : DFun Tryd.prog 37 [gr g, ord l] (.v (.bool (sortedN g l))) := by
  refine DFun.ofRun agree mixed Tryd.func37 rfl rfl ?_
  repeat (first | refine wa ?_ | refine wc ?_ | ((refine wl rfl rfl ?_ ?_)))
  · exact gr_pl g
  repeat (first | ((refine wl rfl rfl ?_ ?_)))
  · exact ord_pl l
  repeat (first | refine wa ?_ | refine wb ?_ | refine wc ?_ | refine wd ?_ | ((refine wl rfl rfl ?_ ?_); try (first | exact trivial)))
  refine Run.keep [2, 3, 4, 5] rfl ?_
  refine Run.at (l' := [(2, .box (gr g)), (3, .box (ord l)), (4, .d (.v (.bool false))), (5, .d (.v (.int .i64 (0 : Nat))))]) rfl ?_
  refine Run.loopL (α := Nat) (fun i => i ≤ 32 ∧ ∀ j, j < i → (itemsN (outsN g (j : Int))).all (goes l j) = true) (fun i => [(2, .box (gr g)), (3, .box (ord l)), (4, .d (.v (.bool false))), (5, .d (.v (.int .i64 i)))]) (fun i => 32 - i) 0 ⟨by decide, fun j hj => absurd hj (by omega)⟩ ?_
  rintro i ⟨hi, hall⟩ ih
  repeat (first | refine wa ?_ | refine wb ?_ | refine wc ?_ | ((first | refine wl rfl rfl ?_ ?_ | refine wn (wp rfl rfl rfl rfl rfl ?_) rfl ?_); try (first | ((repeat' apply And.intro) <;> first | exact trivial | exact rfl | omega | (simp; done) | (simp; omega)))))
  refine Run.condB rfl rfl (fun hb => ?_) (fun hb => ?_)
  · have hi2 : i < 32 := by simp at hb; omega
    repeat (first | refine wa ?_ | refine wc ?_ | refine wd ?_ | refine wf ?_ | ((refine wl rfl rfl ?_ ?_)))
    · exact ⟨gr_fits hg.1 rfl, gr_pl g⟩
    repeat (first | ((refine wl rfl rfl ?_ ?_); try (first | ((repeat' apply And.intro) <;> first | exact trivial | exact rfl | omega | (simp; done) | (simp; omega)))))
    have hpl : ((gr g).get []).pl = true := gr_pl g
    refine wn (wA rfl rfl rfl (by repeat' (first | exact trivial | exact rfl | assumption | apply And.intro)) (callable (by decide)) (c_rOuts g i hg)) rfl ?_
    skip
    refine wn (wA rfl rfl rfl (by repeat' (first | exact trivial | exact rfl | assumption | apply And.intro)) (callable (by decide)) (c_rBits (outsN g (i : Int)) (outs_lt g i))) rfl ?_
    obtain ⟨bs, hbs⟩ : ∃ bs, bs = bitsL (outsN g (i : Int)) := ⟨_, rfl⟩
    have hbl : bs.length = 64 := by rw [hbs]; exact bitsTo_len _ _
    have hba : ∀ k, k < 64 → bs.getD k false = edge g i k := fun k hk => by rw [hbs, bits_at hk, outs_bit]
    rw [← hbs]
    repeat (first | ((refine wl rfl rfl ?_ ?_); try (first | ((repeat' apply And.intro) <;> first | exact trivial | exact rfl | omega | (simp; done) | (simp; omega)))))
    refine wv rfl rfl (bo_pl _) (bo_stoAll (z := List.replicate 64 false) (n := 64) hbl rfl rfl) rfl ?_
    first | refine OpsAt.sayB (d := 6) rfl (y := bo bs) (rfl) ?_ | refine Run.sayB (d := 6) rfl (y := bo bs) (rfl) ?_
    repeat (first | refine wa ?_ | refine wb ?_ | refine wc ?_ | refine wd ?_ | ((refine wl rfl rfl ?_ ?_); try (first | exact trivial)))
    refine Run.keep [2, 3, 4, 5, 6, 7] rfl ?_
    refine Run.at (l' := [(2, .box (gr g)), (3, .box (ord l)), (4, .d (.v (.bool false))), (5, .d (.v (.int .i64 i))), (6, .box (bo bs)), (7, .d (.v (.int .i64 (0 : Nat))))]) rfl ?_
    refine Run.loopL (α := Nat) (fun j => j ≤ 32 ∧ ∀ k, k < j → edge g i k = true → l.getD i 0 < l.getD k 0) (fun j => [(2, .box (gr g)), (3, .box (ord l)), (4, .d (.v (.bool false))), (5, .d (.v (.int .i64 i))), (6, .box (bo bs)), (7, .d (.v (.int .i64 j)))]) (fun j => 32 - j) 0 ⟨by decide, fun j hj => absurd hj (by omega)⟩ ?_
    rintro j ⟨hj, hall2⟩ ih2
    repeat (first | refine wa ?_ | refine wb ?_ | refine wc ?_ | ((first | refine wl rfl rfl ?_ ?_ | refine wn (wp rfl rfl rfl rfl rfl ?_) rfl ?_); try (first | ((repeat' apply And.intro) <;> first | exact trivial | exact rfl | omega | (simp; done) | (simp; omega)))))
    refine Run.condB rfl rfl (fun hb2 => ?_) (fun hb2 => ?_)
    · have hj2 : j < 32 := by simp at hb2; omega
      have gb : (bo bs).get ([] ++ [((j : Int)).toNat]) = .v (.bool (edge g i j)) := by rw [← hba j (by omega)]; exact bo_at (by omega)
      have gi : (ord l).get ([] ++ [((i : Int)).toNat]) = .v (.int .i64 (l.getD i 0)) := ord_at (by omega)
      have gj : (ord l).get ([] ++ [((j : Int)).toNat]) = .v (.int .i64 (l.getD j 0)) := ord_at (by omega)
      repeat (first | refine wa ?_ | refine wd ?_ | refine wf ?_)
      refine Run.ops1 (ld := []) rfl ?_
      repeat (first | ((refine wl rfl rfl ?_ ?_); try (first | ((repeat' apply And.intro) <;> first | exact trivial | exact rfl | omega | (simp; done) | (simp; omega)))))
      · exact ⟨rfl, rfl, by rw [bools_len, hbl], by omega, by omega⟩
      refine wn (Ev.ldBox rfl (adrOf_sound rfl) (ld_ok (T := 4) gb rfl).1 (ld_ok (T := 4) gb rfl).2) rfl ?_
      first | refine OpsAt.say (d := 22) rfl (y := .v (.bool (edge g i j))) (gb) ?_ | refine Run.say (d := 22) rfl (y := .v (.bool (edge g i j))) (gb) ?_ | refine OpsR.say (q := 22) rfl (y := .v (.bool (edge g i j))) (gb) ?_ | refine OpsB.say (d := 22) rfl (y := .v (.bool (edge g i j))) (gb) ?_
      repeat (first | ((refine wl rfl rfl ?_ ?_); try (first | ((repeat' apply And.intro) <;> first | exact trivial | exact rfl | omega | (simp; done) | (simp; omega)))))
      refine OpsAt.br rfl rfl rfl (fun he => ?_) (fun he => ?_)
      · repeat (first | ((refine wm rfl rfl rfl ?_ ?_); try (first | ((repeat' apply And.intro) <;> first | exact trivial | exact rfl | omega | (simp; done) | (simp; omega)))))
        · exact ⟨rfl, rfl, by rw [ints_len, hl], by omega, by omega⟩
        refine wo rfl (Ev.ldBox rfl (adrOf_sound rfl) (ld_ok (T := 3) gi rfl).1 (ld_ok (T := 3) gi rfl).2) rfl ?_
        first | refine OpsAt.say (d := 26) rfl (y := .v (.int .i64 (l.getD i 0))) (gi) ?_ | refine Run.say (d := 26) rfl (y := .v (.int .i64 (l.getD i 0))) (gi) ?_ | refine OpsR.say (q := 26) rfl (y := .v (.int .i64 (l.getD i 0))) (gi) ?_ | refine OpsB.say (d := 26) rfl (y := .v (.int .i64 (l.getD i 0))) (gi) ?_
        repeat (first | ((refine wm rfl rfl rfl ?_ ?_); try (first | ((repeat' apply And.intro) <;> first | exact trivial | exact rfl | omega | (simp; done) | (simp; omega)))))
        · exact ⟨rfl, rfl, by rw [ints_len, hl], by omega, by omega⟩
        refine wo rfl (Ev.ldBox rfl (adrOf_sound rfl) (ld_ok (T := 3) gj rfl).1 (ld_ok (T := 3) gj rfl).2) rfl ?_
        first | refine OpsAt.say (d := 29) rfl (y := .v (.int .i64 (l.getD j 0))) (gj) ?_ | refine Run.say (d := 29) rfl (y := .v (.int .i64 (l.getD j 0))) (gj) ?_ | refine OpsR.say (q := 29) rfl (y := .v (.int .i64 (l.getD j 0))) (gj) ?_ | refine OpsB.say (d := 29) rfl (y := .v (.int .i64 (l.getD j 0))) (gj) ?_
        repeat (first | refine wb ?_ | ((first | refine wl rfl rfl ?_ ?_ | refine wo rfl (wp rfl rfl rfl rfl rfl ?_) rfl ?_); try (first | ((repeat' apply And.intro) <;> first | exact trivial | exact rfl | omega | (simp; done) | (simp; omega)))))
        refine Run.condB rfl rfl (fun hd => ?_) (fun hd => ?_)
        · have hd' := of_decide_eq_true hd
          repeat (first | refine wa ?_ | refine wb ?_ | refine wc ?_ | ((refine wl rfl rfl ?_ ?_); try (first | exact trivial)))
          refine wD (wE rfl rfl ?_)
          have : sortedN g l = false := by
            refine Bool.eq_false_iff.2 fun hs => ?_
            unfold sortedN at hs
            rw [Bool.and_eq_true] at hs
            have := (goes_edge g l i).1 (List.all_eq_true.1 hs.1 i (List.mem_range.2 hi2)) j hj2 he
            omega
          rw [this]
        · have hd' := of_decide_eq_false hd
          repeat (first | refine wb ?_ | refine wc ?_ | refine we ?_ | refine wf ?_ | ((first | refine wl rfl rfl ?_ ?_ | refine wn (wp rfl rfl rfl rfl rfl ?_) rfl ?_); try (first | ((repeat' apply And.intro) <;> first | exact trivial | exact rfl | omega | (simp; done) | (simp; omega)))))
          first | refine OpsAt.say (d := 7) rfl (y := .v (.int .i64 (j + 1 : Nat))) (by rw [wrap64_in ((j : Int) + 1) (by omega)]; simp) ?_ | refine Run.say (d := 7) rfl (y := .v (.int .i64 (j + 1 : Nat))) (by rw [wrap64_in ((j : Int) + 1) (by omega)]; simp) ?_ | refine OpsR.say (q := 7) rfl (y := .v (.int .i64 (j + 1 : Nat))) (by rw [wrap64_in ((j : Int) + 1) (by omega)]; simp) ?_ | refine OpsB.say (d := 7) rfl (y := .v (.int .i64 (j + 1 : Nat))) (by rw [wrap64_in ((j : Int) + 1) (by omega)]; simp) ?_
          refine Run.keep [2, 3, 4, 5, 6, 7] rfl ?_
          refine ih2 (j + 1) ⟨by omega, fun k hk hke => ?_⟩ (by omega)
          by_cases e : k = j
          · rw [e]; omega
          · exact hall2 k (by omega) hke
      · repeat (first | refine wb ?_ | refine wc ?_ | refine we ?_ | refine wf ?_ | ((first | refine wl rfl rfl ?_ ?_ | refine wn (wp rfl rfl rfl rfl rfl ?_) rfl ?_ | refine wu rfl ?_ ?_); try (first | ((repeat' apply And.intro) <;> first | exact trivial | exact rfl | omega | (simp; done) | (simp; omega)))) | refine ws rfl rfl ?_)
        first | refine OpsAt.say (d := 7) rfl (y := .v (.int .i64 (j + 1 : Nat))) (by rw [wrap64_in ((j : Int) + 1) (by omega)]; simp) ?_ | refine Run.say (d := 7) rfl (y := .v (.int .i64 (j + 1 : Nat))) (by rw [wrap64_in ((j : Int) + 1) (by omega)]; simp) ?_ | refine OpsR.say (q := 7) rfl (y := .v (.int .i64 (j + 1 : Nat))) (by rw [wrap64_in ((j : Int) + 1) (by omega)]; simp) ?_ | refine OpsB.say (d := 7) rfl (y := .v (.int .i64 (j + 1 : Nat))) (by rw [wrap64_in ((j : Int) + 1) (by omega)]; simp) ?_
        refine Run.keep [2, 3, 4, 5, 6, 7] rfl ?_
        refine ih2 (j + 1) ⟨by omega, fun k hk hke => ?_⟩ (by omega)
        by_cases e : k = j
        · rw [e, he] at hke; cases hke
        · exact hall2 k (by omega) hke
    · have hj2 : j = 32 := by simp at hb2; omega
      subst hj2
      repeat (first | refine wb ?_ | refine wc ?_ | refine we ?_ | ((first | refine wl rfl rfl ?_ ?_ | refine wn (wp rfl rfl rfl rfl rfl ?_) rfl ?_); try (first | ((repeat' apply And.intro) <;> first | exact trivial | exact rfl | omega | (simp; done) | (simp; omega)))) | refine wj rfl ?_)
      first | refine OpsAt.say (d := 5) rfl (y := .v (.int .i64 (i + 1 : Nat))) (by rw [wrap64_in ((i : Int) + 1) (by omega)]; simp) ?_ | refine Run.say (d := 5) rfl (y := .v (.int .i64 (i + 1 : Nat))) (by rw [wrap64_in ((i : Int) + 1) (by omega)]; simp) ?_ | refine OpsR.say (q := 5) rfl (y := .v (.int .i64 (i + 1 : Nat))) (by rw [wrap64_in ((i : Int) + 1) (by omega)]; simp) ?_ | refine OpsB.say (d := 5) rfl (y := .v (.int .i64 (i + 1 : Nat))) (by rw [wrap64_in ((i : Int) + 1) (by omega)]; simp) ?_
      refine Run.keep [2, 3, 4, 5] rfl ?_
      refine ih (i + 1) ⟨by omega, fun j hj => ?_⟩ (by omega)
      by_cases e : j = i
      · rw [e]; exact (goes_edge g l i).2 hall2
      · exact hall j (by omega)
  · have hi2 : i = 32 := by simp at hb; omega
    subst hi2
    repeat (first | refine wa ?_ | refine wc ?_ | ((refine wl rfl rfl ?_ ?_)) | refine wj rfl ?_)
    · exact ⟨ord_fits hl rfl, ord_pl l⟩
    skip
    have hpl : ((ord l).get []).pl = true := ord_pl l
    refine wn (wA rfl rfl rfl (by repeat' (first | exact trivial | exact rfl | assumption | apply And.intro)) (callable (by decide)) (c_rRight l hl)) rfl ?_
    repeat (first | refine wb ?_ | ((refine wl rfl rfl ?_ ?_); try (first | ((repeat' apply And.intro) <;> first | exact trivial | exact rfl | omega | (simp; done) | (simp; omega)))))
    refine wD (wE rfl rfl ?_)
    have : (List.range 32).all (fun i => (itemsN (outsN g (i : Int))).all (goes l i)) = true := List.all_eq_true.2 fun j hj => hall j (List.mem_range.1 hj)
    rw [sortedN, this, Bool.true_and]

theorem c_rCut (g : List Nat) (a : Nat) (ha : a < 32) (hg : gok g) : DFun Tryd.prog 40 [gr g, .v (.int .i64 a)] (gr (cutG g a)) := by
  refine DFun.ofRun agree mixed Tryd.func40 rfl rfl ?_
  repeat (first | refine wa ?_ | refine wc ?_ | ((refine wl rfl rfl ?_ ?_)))
  · exact gr_pl g
  repeat (first | refine wa ?_ | refine wb ?_ | refine wc ?_ | ((refine wl rfl rfl ?_ ?_); try (first | ((repeat' apply And.intro) <;> first | exact trivial | exact rfl | omega | (simp; done) | (simp; omega)))))
  refine wn (wA rfl rfl rfl (by repeat' (first | exact trivial | exact rfl | assumption | apply And.intro)) (callable (by decide)) (c_refNode a)) rfl ?_
  first | refine OpsAt.say (d := 7) rfl (y := .v (.bool true)) (by rw [node_cast]; simp [ha]) ?_ | refine Run.say (d := 7) rfl (y := .v (.bool true)) (by rw [node_cast]; simp [ha]) ?_ | refine OpsR.say (q := 7) rfl (y := .v (.bool true)) (by rw [node_cast]; simp [ha]) ?_ | refine OpsB.say (d := 7) rfl (y := .v (.bool true)) (by rw [node_cast]; simp [ha]) ?_
  repeat (first | refine wa ?_ | refine wb ?_ | refine wf ?_ | ((first | refine wl rfl rfl ?_ ?_ | refine wu rfl ?_ ?_); try (first | ((repeat' apply And.intro) <;> first | exact trivial | exact rfl | omega | (simp; done) | (simp; omega)))))
  have hgd : (gr g).get ([] ++ [((a : Int)).toNat]) = S (g.getD a 0) := gr_at (by rw [hg.1]; exact ha)
  obtain ⟨s, hs0⟩ : ∃ s, s = g.getD a 0 := ⟨_, rfl⟩
  have hs : s < M64 := by rw [hs0]; exact hg.at a
  have h0 : gok (g.set a (g.getD a 0 - g.getD a 0 % 4294967296)) := hg.set _ (low0_lt (hg.at a))
  refine Run.ops1 (ld := [10]) rfl ?_
  repeat (first | ((refine wl rfl rfl ?_ ?_); try (first | ((repeat' apply And.intro) <;> first | exact trivial | exact rfl | omega | (simp; done) | (simp; omega)))))
  · exact ⟨rfl, rfl, by rw [sets_len, hg.1], by omega, by omega⟩
  refine wn (Ev.ldBox rfl (adrOf_sound rfl) (ld_ok (T := 24) hgd rfl).1 (ld_ok (T := 24) hgd rfl).2) rfl ?_
  first | refine OpsAt.say (d := 13) rfl (y := S s) (by rw [hs0]; exact hgd) ?_ | refine Run.say (d := 13) rfl (y := S s) (by rw [hs0]; exact hgd) ?_ | refine OpsR.say (q := 13) rfl (y := S s) (by rw [hs0]; exact hgd) ?_ | refine OpsB.say (d := 13) rfl (y := S s) (by rw [hs0]; exact hgd) ?_
  repeat (first | ((refine wl rfl rfl ?_ ?_); try (first | ((repeat' apply And.intro) <;> first | exact trivial | exact rfl | omega | (simp; done) | (simp; omega)))))
  · exact ⟨rfl, rfl, by rw [sets_len, hg.1], by omega, by omega⟩
  refine wn (Ev.ldBox rfl (adrOf_sound rfl) (ld_ok (T := 24) hgd rfl).1 (ld_ok (T := 24) hgd rfl).2) rfl ?_
  first | refine OpsAt.say (d := 16) rfl (y := S s) (by rw [hs0]; exact hgd) ?_ | refine Run.say (d := 16) rfl (y := S s) (by rw [hs0]; exact hgd) ?_ | refine OpsR.say (q := 16) rfl (y := S s) (by rw [hs0]; exact hgd) ?_ | refine OpsB.say (d := 16) rfl (y := S s) (by rw [hs0]; exact hgd) ?_
  repeat (first | ((first | refine wl rfl rfl ?_ ?_ | refine wn (wp rfl rfl rfl rfl rfl ?_) rfl ?_); try (first | ((repeat' apply And.intro) <;> first | exact trivial | exact rfl | omega | (simp; done) | (simp; omega)))))
  · exact ⟨rfl, rfl, by rw [sets_len, hg.1], by omega, by omega⟩
  first | refine OpsAt.say (d := 18) rfl (y := S (s - s % 4294967296)) (by rw [show ((s : Nat) : Int).tmod 4294967296 = ((s % 4294967296 : Nat) : Int) from (Int.ofNat_tmod _ _).symm, show ((s : Nat) : Int) - ((s % 4294967296 : Nat) : Int) = ((s - s % 4294967296 : Nat) : Int) by omega]; exact congrArg (fun z => D.v (.int .u64 z)) (u64_in (low0_lt hs))) ?_ | refine Run.say (d := 18) rfl (y := S (s - s % 4294967296)) (by rw [show ((s : Nat) : Int).tmod 4294967296 = ((s % 4294967296 : Nat) : Int) from (Int.ofNat_tmod _ _).symm, show ((s : Nat) : Int) - ((s % 4294967296 : Nat) : Int) = ((s - s % 4294967296 : Nat) : Int) by omega]; exact congrArg (fun z => D.v (.int .u64 z)) (u64_in (low0_lt hs))) ?_ | refine OpsR.say (q := 18) rfl (y := S (s - s % 4294967296)) (by rw [show ((s : Nat) : Int).tmod 4294967296 = ((s % 4294967296 : Nat) : Int) from (Int.ofNat_tmod _ _).symm, show ((s : Nat) : Int) - ((s % 4294967296 : Nat) : Int) = ((s - s % 4294967296 : Nat) : Int) by omega]; exact congrArg (fun z => D.v (.int .u64 z)) (u64_in (low0_lt hs))) ?_ | refine OpsB.say (d := 18) rfl (y := S (s - s % 4294967296)) (by rw [show ((s : Nat) : Int).tmod 4294967296 = ((s % 4294967296 : Nat) : Int) from (Int.ofNat_tmod _ _).symm, show ((s : Nat) : Int) - ((s % 4294967296 : Nat) : Int) = ((s - s % 4294967296 : Nat) : Int) by omega]; exact congrArg (fun z => D.v (.int .u64 z)) (u64_in (low0_lt hs))) ?_
  refine wv rfl rfl rfl (gr_sto (by rw [hg.1]; exact ha) rfl) rfl ?_
  first | refine OpsAt.sayB (d := 2) rfl (y := gr (g.set a (s - s % 4294967296))) (gr_set g a _) ?_ | refine Run.sayB (d := 2) rfl (y := gr (g.set a (s - s % 4294967296))) (gr_set g a _) ?_
  repeat (first | refine wa ?_ | refine wb ?_ | refine wc ?_ | refine wd ?_ | ((refine wl rfl rfl ?_ ?_); try (first | exact trivial)))
  refine Run.keep [1, 2, 4, 5] rfl ?_
  have hc0 : cutTo g a 0 = g.set a (s - s % 4294967296) := by
    apply List.ext_getElem?
    intro j
    by_cases hj : j < 32
    · have : j < (g.set a (s - s % 4294967296)).length := by rw [List.length_set, hg.1]; exact hj
      have e : (g.set a (s - s % 4294967296))[j]? = some ((g.set a (s - s % 4294967296)).getD j 0) := by rw [getD_eq this]; exact List.getElem?_eq_getElem this
      rw [e, hs0]
      simp [cutTo, hj]
    · rw [List.getElem?_eq_none (by rw [cutTo_len]; omega), List.getElem?_eq_none (by rw [List.length_set, hg.1]; omega)]
  have hset : ∀ i, i < 32 → (cutTo g a i).set i (lessN ((cutTo g a i).getD i 0) (a : Int)) = cutTo g a (i + 1) := by
    intro i hi
    have hgi : (cutTo g a i).getD i 0 = (g.set a (g.getD a 0 - g.getD a 0 % 4294967296)).getD i 0 := by simp [cutTo, hi]
    rw [hgi]
    apply List.ext_getElem?
    intro j
    rw [List.getElem?_set]
    by_cases h1 : i = j
    · subst h1
      simp [cutTo, hi]
    · by_cases h2 : j < 32
      · have h3 : j < i ↔ j < i + 1 := by omega
        simp [h1, cutTo, h2, h3]
      · simp [h1, cutTo, h2]
  refine Run.at (l' := [(1, .d (.v (.int .i64 (a : Nat)))), (2, .box (gr (cutTo g a 0))), (4, .box (gr (List.replicate 32 0))), (5, .d (.v (.int .i64 (0 : Nat))))]) (by rw [hc0]; rfl) ?_
  refine Run.loopL (α := Nat) (fun i => i ≤ 32) (fun i => [(1, .d (.v (.int .i64 (a : Nat)))), (2, .box (gr (cutTo g a i))), (4, .box (gr (List.replicate 32 0))), (5, .d (.v (.int .i64 i)))]) (fun i => 32 - i) 0 (by decide) ?_
  intro i hi ih
  have hcg := cutTo_gok hg a i
  obtain ⟨c, hc⟩ : ∃ c, c = cutTo g a i := ⟨_, rfl⟩
  rw [← hc] at hcg
  refine Run.at (l' := [(1, .d (.v (.int .i64 (a : Nat)))), (2, .box (gr c)), (4, .box (gr (List.replicate 32 0))), (5, .d (.v (.int .i64 i)))]) (by rw [hc]) ?_
  repeat (first | refine wa ?_ | refine wb ?_ | refine wc ?_ | ((first | refine wl rfl rfl ?_ ?_ | refine wn (wp rfl rfl rfl rfl rfl ?_) rfl ?_); try (first | ((repeat' apply And.intro) <;> first | exact trivial | exact rfl | omega | (simp; done) | (simp; omega)))))
  refine Run.condB rfl rfl (fun hb => ?_) (fun hb => ?_)
  · have hi2 : i < 32 := by simp at hb; omega
    have gi : (gr c).get ([] ++ [((i : Int)).toNat]) = S (c.getD i 0) := gr_at (by rw [hcg.1]; exact hi2)
    repeat (first | refine wa ?_ | refine wc ?_ | refine wd ?_ | refine wf ?_ | ((refine wl rfl rfl ?_ ?_); try (first | ((repeat' apply And.intro) <;> first | exact trivial | exact rfl | omega | (simp; done) | (simp; omega)))))
    · exact ⟨rfl, rfl, by rw [sets_len, hcg.1], by omega, by omega⟩
    refine wn (Ev.ldBox rfl (adrOf_sound rfl) (ld_ok (T := 24) gi rfl).1 (ld_ok (T := 24) gi rfl).2) rfl ?_
    first | refine OpsAt.say (d := 27) rfl (y := S (c.getD i 0)) (gi) ?_ | refine Run.say (d := 27) rfl (y := S (c.getD i 0)) (gi) ?_ | refine OpsR.say (q := 27) rfl (y := S (c.getD i 0)) (gi) ?_ | refine OpsB.say (d := 27) rfl (y := S (c.getD i 0)) (gi) ?_
    repeat (first | ((refine wl rfl rfl ?_ ?_); try (first | ((repeat' apply And.intro) <;> first | exact trivial | exact rfl | omega | (simp; done) | (simp; omega)))))
    refine wn (wA rfl rfl rfl (by repeat' (first | exact trivial | exact rfl | assumption | apply And.intro)) (callable (by decide)) (c_rLess (c.getD i 0) a (hcg.at i))) rfl ?_
    repeat (first | ((refine wl rfl rfl ?_ ?_)))
    · exact ⟨rfl, rfl, by rw [sets_len, hcg.1], by omega, by omega⟩
    refine wv rfl rfl rfl (gr_sto (by rw [hcg.1]; exact hi2) rfl) rfl ?_
    first | refine OpsAt.sayB (d := 2) rfl (y := gr (cutTo g a (i + 1))) ((gr_set c i _).trans (by rw [hc, hset i hi2])) ?_ | refine Run.sayB (d := 2) rfl (y := gr (cutTo g a (i + 1))) ((gr_set c i _).trans (by rw [hc, hset i hi2])) ?_
    repeat (first | refine wb ?_ | refine wc ?_ | refine we ?_ | ((first | refine wl rfl rfl ?_ ?_ | refine wn (wp rfl rfl rfl rfl rfl ?_) rfl ?_); try (first | ((repeat' apply And.intro) <;> first | exact trivial | exact rfl | omega | (simp; done) | (simp; omega)))))
    first | refine OpsAt.say (d := 5) rfl (y := .v (.int .i64 (i + 1 : Nat))) (by rw [wrap64_in ((i : Int) + 1) (by omega)]; simp) ?_ | refine Run.say (d := 5) rfl (y := .v (.int .i64 (i + 1 : Nat))) (by rw [wrap64_in ((i : Int) + 1) (by omega)]; simp) ?_ | refine OpsR.say (q := 5) rfl (y := .v (.int .i64 (i + 1 : Nat))) (by rw [wrap64_in ((i : Int) + 1) (by omega)]; simp) ?_ | refine OpsB.say (d := 5) rfl (y := .v (.int .i64 (i + 1 : Nat))) (by rw [wrap64_in ((i : Int) + 1) (by omega)]; simp) ?_
    refine Run.keep [1, 2, 4, 5] rfl ?_
    exact ih (i + 1) (by omega) (by omega)
  · have hi2 : i = 32 := by simp at hb; omega
    subst hi2
    repeat (first | refine wa ?_ | refine wc ?_ | ((refine wl rfl rfl ?_ ?_)) | refine wj rfl ?_)
    · exact ⟨gr_fits hcg.1 rfl, gr_pl _⟩
    refine wv rfl rfl (gr_pl _) (gr_stoAll (z := List.replicate 32 0) hcg.1 rfl rfl) rfl ?_
    repeat (first | refine wb ?_)
    exact wD (Ends.cellE agree rfl rfl (by rw [Bool.and_eq_true]; exact ⟨gr_fits hcg.1 rfl, gr_pl _⟩) (by rw [hc]; rfl))
end Go.Proofs.YtaflihoopnjcgaaDoor

namespace Go.Proofs.YtaflihoopnjcgaaDoor
open Go Go.Dat

def outB (l : List Int) (lo hi : Int) (i : Nat) : Bool := decide (l.getD i 0 < lo) || decide (hi < l.getD i 0)
def wTo (g : List Nat) (l : List Int) (lo hi : Int) (n : Nat) : List Nat := (List.range n).foldl (fun m i => if outB l lo hi i then cutG m i else m) g
theorem wTo_succ (g : List Nat) (l : List Int) (lo hi : Int) (n : Nat) : wTo g l lo hi (n + 1) = if outB l lo hi n then cutG (wTo g l lo hi n) n else wTo g l lo hi n := by
  unfold wTo
  rw [List.range_succ, List.foldl_append]
  rfl
theorem wTo_gok {g : List Nat} (hg : gok g) (l : List Int) (lo hi : Int) : ∀ n, gok (wTo g l lo hi n)
  | 0 => hg
  | n + 1 => by
    rw [wTo_succ]
    split
    · exact cutTo_gok (wTo_gok hg l lo hi n) n 32
    · exact wTo_gok hg l lo hi n
theorem wTo_edge {g : List Nat} (hg : gok g) (l : List Int) (lo hi : Int) (i k : Nat) : ∀ n, n ≤ 32 → (edge (wTo g l lo hi n) i k = true ↔ edge g i k = true ∧ ∀ j, j < n → outB l lo hi j = true → i ≠ j ∧ k ≠ j)
  | 0, _ => ⟨fun h => ⟨h, fun j hj => absurd hj (by omega)⟩, fun h => h.1⟩
  | n + 1, hn => by
    have ih := wTo_edge hg l lo hi i k n (by omega)
    rw [wTo_succ]
    split
    · next ho =>
      rw [cut_edge (wTo_gok hg l lo hi n) (by omega), ih]
      constructor
      · rintro ⟨⟨h1, h2⟩, h3⟩
        refine ⟨h1, fun j hj hoj => ?_⟩
        by_cases e : j = n
        · rw [e]; exact h3
        · exact h2 j (by omega) hoj
      · rintro ⟨h1, h2⟩
        exact ⟨⟨h1, fun j hj => h2 j (by omega)⟩, h2 n (by omega) ho⟩
    · next ho =>
      rw [ih]
      constructor
      · rintro ⟨h1, h2⟩
        refine ⟨h1, fun j hj hoj => ?_⟩
        by_cases e : j = n
        · rw [e] at hoj; exact absurd hoj ho
        · exact h2 j (by omega) hoj
      · rintro ⟨h1, h2⟩
        exact ⟨h1, fun j hj => h2 j (by omega)⟩
theorem within_edge {g : List Nat} (hg : gok g) (l : List Int) (lo hi : Int) (i k : Nat) : edge (wTo g l lo hi 32) i k = true ↔ edge g i k = true ∧ outB l lo hi i = false ∧ outB l lo hi k = false := by
  rw [wTo_edge hg l lo hi i k 32 (Nat.le_refl _)]
  constructor
  · rintro ⟨h1, h2⟩
    have hik : i < 32 ∧ k < 32 := by simp only [edge, Bool.and_eq_true, decide_eq_true_eq] at h1; exact h1.1
    exact ⟨h1, Bool.eq_false_iff.2 fun h => (h2 i hik.1 h).1 rfl, Bool.eq_false_iff.2 fun h => (h2 k hik.2 h).2 rfl⟩
  · rintro ⟨h1, h2, h3⟩
    refine ⟨h1, fun j _ hoj => ⟨?_, ?_⟩⟩
    · rintro rfl; rw [h2] at hoj; cases hoj
    · rintro rfl; rw [h3] at hoj; cases hoj

theorem c_within (g : List Nat) (l : List Int) (lo hi : Int) (hg : gok g) (hl : l.length = 32) : DFun Tryd.prog 67 [gr g, ord l, .v (.int .i64 lo), .v (.int .i64 hi)] (gr (wTo g l lo hi 32)) := by
  refine DFun.ofRun agree mixed Tryd.func67 rfl rfl ?_
  repeat (first | refine wa ?_ | refine wc ?_ | ((refine wl rfl rfl ?_ ?_)))
  · exact gr_pl g
  repeat (first | ((refine wl rfl rfl ?_ ?_)))
  · exact ord_pl l
  repeat (first | refine wa ?_ | refine wb ?_ | refine wc ?_ | refine wd ?_ | ((refine wl rfl rfl ?_ ?_); try (first | exact trivial | ((repeat' apply And.intro) <;> first | exact trivial | exact rfl | omega | (simp; done) | (simp; omega)))))
  refine Run.keep [2, 3, 4, 5, 8, 9] rfl ?_
  refine Run.at (l' := [(2, .d (.v (.int .i64 lo))), (3, .d (.v (.int .i64 hi))), (4, .box (gr (wTo g l lo hi 0))), (5, .box (ord l)), (8, .box (gr (List.replicate 32 0))), (9, .d (.v (.int .i64 (0 : Nat))))]) rfl ?_
  refine Run.loopL (α := Nat) (fun i => i ≤ 32) (fun i => [(2, .d (.v (.int .i64 lo))), (3, .d (.v (.int .i64 hi))), (4, .box (gr (wTo g l lo hi i))), (5, .box (ord l)), (8, .box (gr (List.replicate 32 0))), (9, .d (.v (.int .i64 i)))]) (fun i => 32 - i) 0 (by decide) ?_
  intro i hi1 ih
  have hcg := wTo_gok hg l lo hi i
  obtain ⟨c, hc⟩ : ∃ c, c = wTo g l lo hi i := ⟨_, rfl⟩
  rw [← hc] at hcg
  refine Run.at (l' := [(2, .d (.v (.int .i64 lo))), (3, .d (.v (.int .i64 hi))), (4, .box (gr c)), (5, .box (ord l)), (8, .box (gr (List.replicate 32 0))), (9, .d (.v (.int .i64 i)))]) (by rw [hc]) ?_
  repeat (first | refine wa ?_ | refine wb ?_ | refine wc ?_ | ((first | refine wl rfl rfl ?_ ?_ | refine wn (wp rfl rfl rfl rfl rfl ?_) rfl ?_); try (first | ((repeat' apply And.intro) <;> first | exact trivial | exact rfl | omega | (simp; done) | (simp; omega)))))
  refine Run.condB rfl rfl (fun hb => ?_) (fun hb => ?_)
  · have hi2 : i < 32 := by simp at hb; omega
    have gi : (ord l).get ([] ++ [((i : Int)).toNat]) = .v (.int .i64 (l.getD i 0)) := ord_at (by omega)
    have hsucc := wTo_succ g l lo hi i
    rw [← hc] at hsucc
    repeat (first | refine wa ?_ | refine wc ?_ | refine wd ?_ | refine wf ?_ | ((refine wl rfl rfl ?_ ?_); try (first | ((repeat' apply And.intro) <;> first | exact trivial | exact rfl | omega | (simp; done) | (simp; omega)))))
    · exact ⟨rfl, rfl, by rw [ints_len, hl], by omega, by omega⟩
    refine wn (Ev.ldBox rfl (adrOf_sound rfl) (ld_ok (T := 3) gi rfl).1 (ld_ok (T := 3) gi rfl).2) rfl ?_
    first | refine OpsAt.say (d := 16) rfl (y := .v (.int .i64 (l.getD i 0))) (gi) ?_ | refine Run.say (d := 16) rfl (y := .v (.int .i64 (l.getD i 0))) (gi) ?_ | refine OpsR.say (q := 16) rfl (y := .v (.int .i64 (l.getD i 0))) (gi) ?_ | refine OpsB.say (d := 16) rfl (y := .v (.int .i64 (l.getD i 0))) (gi) ?_
    repeat (first | ((first | refine wl rfl rfl ?_ ?_ | refine wn (wp rfl rfl rfl rfl rfl ?_) rfl ?_); try (first | ((repeat' apply And.intro) <;> first | exact trivial | exact rfl | omega | (simp; done) | (simp; omega)))))
    refine OpsAt.br rfl rfl rfl (fun h1 => ?_) (fun h1 => ?_)
    · have hout : outB l lo hi i = true := by rw [outB, h1, Bool.true_or]
      rw [if_pos hout] at hsucc
      have hc2 := cutTo_gok hcg i 32
      repeat (first | refine wb ?_ | refine wc ?_ | ((first | refine wl rfl rfl ?_ ?_ | refine wt rfl ?_ ?_); try (first | ((repeat' apply And.intro) <;> first | exact trivial | exact rfl | omega | (simp; done) | (simp; omega)))) | refine ws rfl rfl ?_)
      · exact ⟨gr_fits hcg.1 rfl, gr_pl _⟩
      repeat (first | ((refine wl rfl rfl ?_ ?_); try (first | ((repeat' apply And.intro) <;> first | exact trivial | exact rfl | omega | (simp; done) | (simp; omega)))))
      have hpl : ((gr c).get []).pl = true := gr_pl _
      refine wn (wA rfl rfl rfl (by repeat' (first | exact trivial | exact rfl | assumption | apply And.intro)) (callable (by decide)) (c_rCut c i hi2 hcg)) rfl ?_
      refine wv rfl rfl (gr_pl _) (gr_stoAll (z := c) hc2.1 hcg.1 rfl) rfl ?_
      first | refine OpsAt.sayB (d := 4) rfl (y := gr (wTo g l lo hi (i + 1))) (by rw [hsucc]; rfl) ?_ | refine Run.sayB (d := 4) rfl (y := gr (wTo g l lo hi (i + 1))) (by rw [hsucc]; rfl) ?_
      repeat (first | refine wb ?_ | refine wc ?_ | refine we ?_ | ((first | refine wl rfl rfl ?_ ?_ | refine wn (wp rfl rfl rfl rfl rfl ?_) rfl ?_); try (first | ((repeat' apply And.intro) <;> first | exact trivial | exact rfl | omega | (simp; done) | (simp; omega)))))
      first | refine OpsAt.say (d := 9) rfl (y := .v (.int .i64 (i + 1 : Nat))) (by rw [wrap64_in ((i : Int) + 1) (by omega)]; simp) ?_ | refine Run.say (d := 9) rfl (y := .v (.int .i64 (i + 1 : Nat))) (by rw [wrap64_in ((i : Int) + 1) (by omega)]; simp) ?_ | refine OpsR.say (q := 9) rfl (y := .v (.int .i64 (i + 1 : Nat))) (by rw [wrap64_in ((i : Int) + 1) (by omega)]; simp) ?_ | refine OpsB.say (d := 9) rfl (y := .v (.int .i64 (i + 1 : Nat))) (by rw [wrap64_in ((i : Int) + 1) (by omega)]; simp) ?_
      refine Run.keep [2, 3, 4, 5, 8, 9] rfl ?_
      exact ih (i + 1) (by omega) (by omega)
    · repeat (first | ((refine wm rfl rfl rfl ?_ ?_); try (first | ((repeat' apply And.intro) <;> first | exact trivial | exact rfl | omega | (simp; done) | (simp; omega)))))
      · exact ⟨rfl, rfl, by rw [ints_len, hl], by omega, by omega⟩
      refine wo rfl (Ev.ldBox rfl (adrOf_sound rfl) (ld_ok (T := 3) gi rfl).1 (ld_ok (T := 3) gi rfl).2) rfl ?_
      first | refine OpsAt.say (d := 22) rfl (y := .v (.int .i64 (l.getD i 0))) (gi) ?_ | refine Run.say (d := 22) rfl (y := .v (.int .i64 (l.getD i 0))) (gi) ?_ | refine OpsR.say (q := 22) rfl (y := .v (.int .i64 (l.getD i 0))) (gi) ?_ | refine OpsB.say (d := 22) rfl (y := .v (.int .i64 (l.getD i 0))) (gi) ?_
      repeat (first | refine wb ?_ | ((first | refine wl rfl rfl ?_ ?_ | refine wm rfl rfl rfl ?_ ?_ | refine wo rfl (wp rfl rfl rfl rfl rfl ?_) rfl ?_); try (first | ((repeat' apply And.intro) <;> first | exact trivial | exact rfl | omega | (simp; done) | (simp; omega)))))
      refine Run.condB rfl rfl (fun h2 => ?_) (fun h2 => ?_)
      · have hout : outB l lo hi i = true := by rw [outB, h2, Bool.or_true]
        rw [if_pos hout] at hsucc
        have hc2 := cutTo_gok hcg i 32
        repeat (first | refine wc ?_ | ((refine wl rfl rfl ?_ ?_)))
        · exact ⟨gr_fits hcg.1 rfl, gr_pl _⟩
        repeat (first | ((refine wl rfl rfl ?_ ?_); try (first | ((repeat' apply And.intro) <;> first | exact trivial | exact rfl | omega | (simp; done) | (simp; omega)))))
        have hpl : ((gr c).get []).pl = true := gr_pl _
        refine wn (wA rfl rfl rfl (by repeat' (first | exact trivial | exact rfl | assumption | apply And.intro)) (callable (by decide)) (c_rCut c i hi2 hcg)) rfl ?_
        refine wv rfl rfl (gr_pl _) (gr_stoAll (z := c) hc2.1 hcg.1 rfl) rfl ?_
        first | refine OpsAt.sayB (d := 4) rfl (y := gr (wTo g l lo hi (i + 1))) (by rw [hsucc]; rfl) ?_ | refine Run.sayB (d := 4) rfl (y := gr (wTo g l lo hi (i + 1))) (by rw [hsucc]; rfl) ?_
        repeat (first | refine wb ?_ | refine wc ?_ | refine we ?_ | ((first | refine wl rfl rfl ?_ ?_ | refine wn (wp rfl rfl rfl rfl rfl ?_) rfl ?_); try (first | ((repeat' apply And.intro) <;> first | exact trivial | exact rfl | omega | (simp; done) | (simp; omega)))))
        first | refine OpsAt.say (d := 9) rfl (y := .v (.int .i64 (i + 1 : Nat))) (by rw [wrap64_in ((i : Int) + 1) (by omega)]; simp) ?_ | refine Run.say (d := 9) rfl (y := .v (.int .i64 (i + 1 : Nat))) (by rw [wrap64_in ((i : Int) + 1) (by omega)]; simp) ?_ | refine OpsR.say (q := 9) rfl (y := .v (.int .i64 (i + 1 : Nat))) (by rw [wrap64_in ((i : Int) + 1) (by omega)]; simp) ?_ | refine OpsB.say (d := 9) rfl (y := .v (.int .i64 (i + 1 : Nat))) (by rw [wrap64_in ((i : Int) + 1) (by omega)]; simp) ?_
        refine Run.keep [2, 3, 4, 5, 8, 9] rfl ?_
        exact ih (i + 1) (by omega) (by omega)
      · have hout : outB l lo hi i = false := by rw [outB, h1, h2]; rfl
        rw [hout] at hsucc
        repeat (first | refine wb ?_ | refine wc ?_ | refine we ?_ | refine wf ?_ | ((first | refine wl rfl rfl ?_ ?_ | refine wn (wp rfl rfl rfl rfl rfl ?_) rfl ?_); try (first | ((repeat' apply And.intro) <;> first | exact trivial | exact rfl | omega | (simp; done) | (simp; omega)))))
        first | refine OpsAt.sayB (d := 4) rfl (y := gr (wTo g l lo hi (i + 1))) (by rw [hsucc]; rfl) ?_ | refine Run.sayB (d := 4) rfl (y := gr (wTo g l lo hi (i + 1))) (by rw [hsucc]; rfl) ?_
        first | refine OpsAt.say (d := 9) rfl (y := .v (.int .i64 (i + 1 : Nat))) (by rw [wrap64_in ((i : Int) + 1) (by omega)]; simp) ?_ | refine Run.say (d := 9) rfl (y := .v (.int .i64 (i + 1 : Nat))) (by rw [wrap64_in ((i : Int) + 1) (by omega)]; simp) ?_ | refine OpsR.say (q := 9) rfl (y := .v (.int .i64 (i + 1 : Nat))) (by rw [wrap64_in ((i : Int) + 1) (by omega)]; simp) ?_ | refine OpsB.say (d := 9) rfl (y := .v (.int .i64 (i + 1 : Nat))) (by rw [wrap64_in ((i : Int) + 1) (by omega)]; simp) ?_
        refine Run.keep [2, 3, 4, 5, 8, 9] rfl ?_
        exact ih (i + 1) (by omega) (by omega)
  · have hi2 : i = 32 := by simp at hb; omega
    subst hi2
    repeat (first | refine wa ?_ | refine wc ?_ | ((refine wl rfl rfl ?_ ?_)) | refine wj rfl ?_)
    · exact ⟨gr_fits hcg.1 rfl, gr_pl _⟩
    refine wv rfl rfl (gr_pl _) (gr_stoAll (z := List.replicate 32 0) hcg.1 rfl rfl) rfl ?_
    repeat (first | refine wb ?_)
    exact wD (Ends.cellE agree rfl rfl (by rw [Bool.and_eq_true]; exact ⟨gr_fits hcg.1 rfl, gr_pl _⟩) (by rw [hc]; rfl))
end Go.Proofs.YtaflihoopnjcgaaDoor

namespace Go.Proofs.YtaflihoopnjcgaaDoor
open Go Go.Dat

/-- All edges the other way, of the first a nodes and of b in the next one. -/
def turnTo (g : List Nat) (a b : Nat) : List Nat := (List.range 32).map fun j : Nat => insTo g (j : Int) (if j < b then a + 1 else a)
def turnG (g : List Nat) : List Nat := (List.range 32).map fun j : Nat => insTo g (j : Int) 32
theorem turnTo_len (g : List Nat) (a b : Nat) : (turnTo g a b).length = 32 := by simp [turnTo]
theorem turnTo_gok (g : List Nat) (a b : Nat) : gok (turnTo g a b) := ⟨turnTo_len _ _ _, fun s hs => by
  obtain ⟨j, _, rfl⟩ := List.mem_map.1 hs
  exact insTo_lt _ _ _⟩
theorem turnG_gok (g : List Nat) : gok (turnG g) := ⟨by simp [turnG], fun s hs => by
  obtain ⟨j, _, rfl⟩ := List.mem_map.1 hs
  exact insTo_lt _ _ _⟩
theorem turn_next (g : List Nat) (a : Nat) : turnTo g a 32 = turnTo g (a + 1) 0 := by
  unfold turnTo
  refine List.map_congr_left fun j hj => ?_
  have : j < 32 := List.mem_range.1 hj
  simp [this]
theorem turn_edge (g : List Nat) (i k : Nat) : edge (turnG g) i k = edge g k i := by
  unfold edge
  by_cases hi : i < 32
  · have : (turnG g).getD i 0 = insTo g (i : Int) 32 := by simp [turnG, hi]
    rw [this, insTo_bit g i hi k 32 (Nat.le_refl _)]
    by_cases hk : k < 32 <;> simp [hi, hk]
  · simp [hi]
theorem turn_set (g : List Nat) (a b : Nat) (hb : b < 32) : (turnTo g a b).set b (insTo g (b : Int) (a + 1)) = turnTo g a (b + 1) := by
  apply List.ext_getElem?
  intro j
  rw [List.getElem?_set]
  by_cases h1 : b = j
  · subst h1
    simp [turnTo, hb]
  · by_cases h2 : j < 32
    · have h3 : j < b ↔ j < b + 1 := by omega
      simp [h1, turnTo, h2, h3]
    · simp [h1, turnTo, h2]
theorem turn_same (g : List Nat) (a b : Nat) (h : insTo g (b : Int) (a + 1) = insTo g (b : Int) a) : turnTo g a (b + 1) = turnTo g a b := by
  unfold turnTo
  refine List.map_congr_left fun j hj => ?_
  by_cases e : j = b
  · subst e; simp [h]
  · have h3 : j < b + 1 ↔ j < b := by omega
    simp [h3]

theorem c_rTurn (g : List Nat) (hg : gok g) : DFun Tryd.prog 69 [gr g] (gr (turnG g)) := by
  refine DFun.ofRun agree mixed Tryd.func69 rfl rfl ?_
  repeat (first | refine wa ?_ | refine wc ?_ | ((refine wl rfl rfl ?_ ?_)))
  · exact gr_pl g
  repeat (first | refine wa ?_ | refine wb ?_ | refine wc ?_ | refine wd ?_ | ((refine wl rfl rfl ?_ ?_); try (first | exact trivial | ((repeat' apply And.intro) <;> first | exact trivial | exact rfl | omega | (simp; done) | (simp; omega)))))
  refine Run.keep [1, 2, 3, 4, 5] rfl ?_
  refine Run.at (l' := [(1, .box (gr g)), (2, .box (gr (List.replicate 32 0))), (3, .box (gr (turnTo g 0 0))), (4, .d (S (2 ^ 0))), (5, .d (.v (.int .i64 (0 : Nat))))]) (by
    have : turnTo g 0 0 = List.replicate 32 0 := by
      apply List.ext_getElem?
      intro j
      rw [List.getElem?_replicate]
      by_cases h : j < 32
      · simp [turnTo, h, insTo]
      · simp [turnTo, h]
    rw [this]
    rfl) ?_
  refine Run.loopL (α := Nat) (fun a => a ≤ 32) (fun a => [(1, .box (gr g)), (2, .box (gr (List.replicate 32 0))), (3, .box (gr (turnTo g a 0))), (4, .d (S (2 ^ a))), (5, .d (.v (.int .i64 a)))]) (fun a => 32 - a) 0 (by decide) ?_
  intro a ha ih
  have htg := turnTo_gok g a 0
  obtain ⟨t, ht⟩ : ∃ t, t = turnTo g a 0 := ⟨_, rfl⟩
  rw [← ht] at htg
  refine Run.at (l' := [(1, .box (gr g)), (2, .box (gr (List.replicate 32 0))), (3, .box (gr t)), (4, .d (S (2 ^ a))), (5, .d (.v (.int .i64 a)))]) (by rw [ht]) ?_
  repeat (first | refine wa ?_ | refine wb ?_ | refine wc ?_ | ((first | refine wl rfl rfl ?_ ?_ | refine wn (wp rfl rfl rfl rfl rfl ?_) rfl ?_); try (first | ((repeat' apply And.intro) <;> first | exact trivial | exact rfl | omega | (simp; done) | (simp; omega)))))
  refine Run.condB rfl rfl (fun hb => ?_) (fun hb => ?_)
  · have ha2 : a < 32 := by simp at hb; omega
    have hgd : (gr g).get ([] ++ [((a : Int)).toNat]) = S (g.getD a 0) := gr_at (by rw [hg.1]; exact ha2)
    repeat (first | refine wa ?_ | refine wc ?_ | refine wd ?_ | refine wf ?_ | ((refine wl rfl rfl ?_ ?_); try (first | ((repeat' apply And.intro) <;> first | exact trivial | exact rfl | omega | (simp; done) | (simp; omega)))))
    · exact ⟨rfl, rfl, by rw [sets_len, hg.1], by omega, by omega⟩
    refine wn (Ev.ldBox rfl (adrOf_sound rfl) (ld_ok (T := 24) hgd rfl).1 (ld_ok (T := 24) hgd rfl).2) rfl ?_
    first | refine OpsAt.say (d := 14) rfl (y := S (g.getD a 0)) (hgd) ?_ | refine Run.say (d := 14) rfl (y := S (g.getD a 0)) (hgd) ?_ | refine OpsR.say (q := 14) rfl (y := S (g.getD a 0)) (hgd) ?_ | refine OpsB.say (d := 14) rfl (y := S (g.getD a 0)) (hgd) ?_
    skip
    refine wn (wA rfl rfl rfl (by repeat' (first | exact trivial | exact rfl | assumption | apply And.intro)) (callable (by decide)) (c_rBits (g.getD a 0) (hg.at a))) rfl ?_
    obtain ⟨bs, hbs⟩ : ∃ bs, bs = bitsL (g.getD a 0) := ⟨_, rfl⟩
    have hbl : bs.length = 64 := by rw [hbs]; exact bitsTo_len _ _
    have hba : ∀ k, k < 64 → bs.getD k false = (g.getD a 0).testBit k := fun k hk => by rw [hbs, bits_at hk]
    rw [← hbs]
    repeat (first | ((refine wl rfl rfl ?_ ?_); try (first | ((repeat' apply And.intro) <;> first | exact trivial | exact rfl | omega | (simp; done) | (simp; omega)))))
    refine wv rfl rfl (bo_pl _) (bo_stoAll (z := List.replicate 64 false) (n := 64) hbl rfl rfl) rfl ?_
    first | refine OpsAt.sayB (d := 6) rfl (y := bo bs) (rfl) ?_ | refine Run.sayB (d := 6) rfl (y := bo bs) (rfl) ?_
    repeat (first | refine wa ?_ | refine wb ?_ | refine wc ?_ | refine wd ?_ | ((refine wl rfl rfl ?_ ?_); try (first | exact trivial)))
    refine Run.keep [1, 2, 3, 4, 5, 6, 7] rfl ?_
    refine Run.at (l' := [(1, .box (gr g)), (2, .box (gr (List.replicate 32 0))), (3, .box (gr (turnTo g a 0))), (4, .d (S (2 ^ a))), (5, .d (.v (.int .i64 a))), (6, .box (bo bs)), (7, .d (.v (.int .i64 (0 : Nat))))]) (by rw [← ht]; rfl) ?_
    refine Run.loopL (α := Nat) (fun b => b ≤ 32) (fun b => [(1, .box (gr g)), (2, .box (gr (List.replicate 32 0))), (3, .box (gr (turnTo g a b))), (4, .d (S (2 ^ a))), (5, .d (.v (.int .i64 a))), (6, .box (bo bs)), (7, .d (.v (.int .i64 b)))]) (fun b => 32 - b) 0 (by decide) ?_
    intro b hb0 ih2
    have hug := turnTo_gok g a b
    obtain ⟨u, hu⟩ : ∃ u, u = turnTo g a b := ⟨_, rfl⟩
    have hub : b < 32 → u.getD b 0 = insTo g (b : Int) a := fun h => by rw [hu]; simp [turnTo, h]
    rw [← hu] at hug
    refine Run.at (l' := [(1, .box (gr g)), (2, .box (gr (List.replicate 32 0))), (3, .box (gr u)), (4, .d (S (2 ^ a))), (5, .d (.v (.int .i64 a))), (6, .box (bo bs)), (7, .d (.v (.int .i64 b)))]) (by rw [hu]) ?_
    repeat (first | refine wa ?_ | refine wb ?_ | refine wc ?_ | ((first | refine wl rfl rfl ?_ ?_ | refine wn (wp rfl rfl rfl rfl rfl ?_) rfl ?_); try (first | ((repeat' apply And.intro) <;> first | exact trivial | exact rfl | omega | (simp; done) | (simp; omega)))))
    refine Run.condB rfl rfl (fun hb2 => ?_) (fun hb2 => ?_)
    · have hb3 : b < 32 := by simp at hb2; omega
      have gb : (bo bs).get ([] ++ [((b : Int)).toNat]) = .v (.bool ((g.getD a 0).testBit b)) := by rw [← hba b (by omega)]; exact bo_at (by omega)
      have hsucc := insTo_succ g (b : Int) a
      rw [has_nat _ _ (by omega : b < 64)] at hsucc
      repeat (first | refine wa ?_ | refine wc ?_ | refine wd ?_ | refine wf ?_ | ((refine wl rfl rfl ?_ ?_); try (first | ((repeat' apply And.intro) <;> first | exact trivial | exact rfl | omega | (simp; done) | (simp; omega)))))
      · exact ⟨rfl, rfl, by rw [bools_len, hbl], by omega, by omega⟩
      refine wn (Ev.ldBox rfl (adrOf_sound rfl) (ld_ok (T := 4) gb rfl).1 (ld_ok (T := 4) gb rfl).2) rfl ?_
      first | refine OpsAt.say (d := 22) rfl (y := .v (.bool ((g.getD a 0).testBit b))) (gb) ?_ | refine Run.say (d := 22) rfl (y := .v (.bool ((g.getD a 0).testBit b))) (gb) ?_ | refine OpsR.say (q := 22) rfl (y := .v (.bool ((g.getD a 0).testBit b))) (gb) ?_ | refine OpsB.say (d := 22) rfl (y := .v (.bool ((g.getD a 0).testBit b))) (gb) ?_
      repeat (first | refine wb ?_)
      refine Run.condB rfl rfl (fun h1 => ?_) (fun h1 => ?_)
      · rw [if_pos h1] at hsucc
        have hfresh : (insTo g (b : Int) a).testBit a = false := by rw [insTo_bit g b hb3 a a (by omega)]; simp
        have hadd := with_add (insTo_lt g (b : Int) a) (by omega : a < 64) hfresh
        rw [hadd] at hsucc
        have hlt : insTo g (b : Int) a + 2 ^ a < M64 := by rw [← hsucc]; exact insTo_lt _ _ _
        have gu : (gr u).get ([] ++ [((b : Int)).toNat]) = S (insTo g (b : Int) a) := by rw [← hub hb3]; exact gr_at (by rw [hug.1]; exact hb3)
        repeat (first | refine wc ?_ | ((refine wl rfl rfl ?_ ?_); try (first | ((repeat' apply And.intro) <;> first | exact trivial | exact rfl | omega | (simp; done) | (simp; omega)))))
        · exact ⟨rfl, rfl, by rw [sets_len, hug.1], by omega, by omega⟩
        refine wn (Ev.ldBox rfl (adrOf_sound rfl) (ld_ok (T := 24) gu rfl).1 (ld_ok (T := 24) gu rfl).2) rfl ?_
        first | refine OpsAt.say (d := 26) rfl (y := S (insTo g (b : Int) a)) (gu) ?_ | refine Run.say (d := 26) rfl (y := S (insTo g (b : Int) a)) (gu) ?_ | refine OpsR.say (q := 26) rfl (y := S (insTo g (b : Int) a)) (gu) ?_ | refine OpsB.say (d := 26) rfl (y := S (insTo g (b : Int) a)) (gu) ?_
        repeat (first | ((first | refine wl rfl rfl ?_ ?_ | refine wn (wp rfl rfl rfl rfl rfl ?_) rfl ?_); try (first | ((repeat' apply And.intro) <;> first | exact trivial | exact rfl | omega | (simp; done) | (simp; omega)))))
        · exact ⟨rfl, rfl, by rw [sets_len, hug.1], by omega, by omega⟩
        first | refine OpsAt.say (d := 28) rfl (y := S (insTo g (b : Int) (a + 1))) (by rw [hsucc, show ((insTo g (b : Int) a : Nat) : Int) + ((2 ^ a : Nat) : Int) = ((insTo g (b : Int) a + 2 ^ a : Nat) : Int) by omega]; exact congrArg (fun z => D.v (.int .u64 z)) (u64_in hlt)) ?_ | refine Run.say (d := 28) rfl (y := S (insTo g (b : Int) (a + 1))) (by rw [hsucc, show ((insTo g (b : Int) a : Nat) : Int) + ((2 ^ a : Nat) : Int) = ((insTo g (b : Int) a + 2 ^ a : Nat) : Int) by omega]; exact congrArg (fun z => D.v (.int .u64 z)) (u64_in hlt)) ?_ | refine OpsR.say (q := 28) rfl (y := S (insTo g (b : Int) (a + 1))) (by rw [hsucc, show ((insTo g (b : Int) a : Nat) : Int) + ((2 ^ a : Nat) : Int) = ((insTo g (b : Int) a + 2 ^ a : Nat) : Int) by omega]; exact congrArg (fun z => D.v (.int .u64 z)) (u64_in hlt)) ?_ | refine OpsB.say (d := 28) rfl (y := S (insTo g (b : Int) (a + 1))) (by rw [hsucc, show ((insTo g (b : Int) a : Nat) : Int) + ((2 ^ a : Nat) : Int) = ((insTo g (b : Int) a + 2 ^ a : Nat) : Int) by omega]; exact congrArg (fun z => D.v (.int .u64 z)) (u64_in hlt)) ?_
        refine wv rfl rfl rfl (gr_sto (by rw [hug.1]; exact hb3) rfl) rfl ?_
        first | refine OpsAt.sayB (d := 3) rfl (y := gr (turnTo g a (b + 1))) ((gr_set u b _).trans (by rw [hu, turn_set g a b hb3])) ?_ | refine Run.sayB (d := 3) rfl (y := gr (turnTo g a (b + 1))) ((gr_set u b _).trans (by rw [hu, turn_set g a b hb3])) ?_
        repeat (first | refine wb ?_ | refine wc ?_ | refine we ?_ | ((first | refine wl rfl rfl ?_ ?_ | refine wn (wp rfl rfl rfl rfl rfl ?_) rfl ?_); try (first | ((repeat' apply And.intro) <;> first | exact trivial | exact rfl | omega | (simp; done) | (simp; omega)))))
        first | refine OpsAt.say (d := 7) rfl (y := .v (.int .i64 (b + 1 : Nat))) (by rw [wrap64_in ((b : Int) + 1) (by omega)]; simp) ?_ | refine Run.say (d := 7) rfl (y := .v (.int .i64 (b + 1 : Nat))) (by rw [wrap64_in ((b : Int) + 1) (by omega)]; simp) ?_ | refine OpsR.say (q := 7) rfl (y := .v (.int .i64 (b + 1 : Nat))) (by rw [wrap64_in ((b : Int) + 1) (by omega)]; simp) ?_ | refine OpsB.say (d := 7) rfl (y := .v (.int .i64 (b + 1 : Nat))) (by rw [wrap64_in ((b : Int) + 1) (by omega)]; simp) ?_
        refine Run.keep [1, 2, 3, 4, 5, 6, 7] rfl ?_
        exact ih2 (b + 1) (by omega) (by omega)
      · rw [h1] at hsucc
        repeat (first | refine wb ?_ | refine wc ?_ | refine we ?_ | refine wf ?_ | ((first | refine wl rfl rfl ?_ ?_ | refine wn (wp rfl rfl rfl rfl rfl ?_) rfl ?_); try (first | ((repeat' apply And.intro) <;> first | exact trivial | exact rfl | omega | (simp; done) | (simp; omega)))))
        first | refine OpsAt.sayB (d := 3) rfl (y := gr (turnTo g a (b + 1))) (by rw [hu, turn_same g a b hsucc]) ?_ | refine Run.sayB (d := 3) rfl (y := gr (turnTo g a (b + 1))) (by rw [hu, turn_same g a b hsucc]) ?_
        first | refine OpsAt.say (d := 7) rfl (y := .v (.int .i64 (b + 1 : Nat))) (by rw [wrap64_in ((b : Int) + 1) (by omega)]; simp) ?_ | refine Run.say (d := 7) rfl (y := .v (.int .i64 (b + 1 : Nat))) (by rw [wrap64_in ((b : Int) + 1) (by omega)]; simp) ?_ | refine OpsR.say (q := 7) rfl (y := .v (.int .i64 (b + 1 : Nat))) (by rw [wrap64_in ((b : Int) + 1) (by omega)]; simp) ?_ | refine OpsB.say (d := 7) rfl (y := .v (.int .i64 (b + 1 : Nat))) (by rw [wrap64_in ((b : Int) + 1) (by omega)]; simp) ?_
        refine Run.keep [1, 2, 3, 4, 5, 6, 7] rfl ?_
        exact ih2 (b + 1) (by omega) (by omega)
    · have hb3 : b = 32 := by simp at hb2; omega
      subst hb3
      have hlt : 2 ^ (a + 1) < M64 := Nat.pow_lt_pow_right (a := 2) (by decide) (show a + 1 < 64 by omega)
      repeat (first | refine wb ?_ | refine wc ?_ | refine we ?_ | ((first | refine wl rfl rfl ?_ ?_ | refine wn (wp rfl rfl rfl rfl rfl ?_) rfl ?_); try (first | ((repeat' apply And.intro) <;> first | exact trivial | exact rfl | omega | (simp; done) | (simp; omega)))) | refine wj rfl ?_)
      first | refine OpsAt.sayB (d := 3) rfl (y := gr (turnTo g (a + 1) 0)) (by rw [hu, turn_next]) ?_ | refine Run.sayB (d := 3) rfl (y := gr (turnTo g (a + 1) 0)) (by rw [hu, turn_next]) ?_
      first | refine OpsAt.say (d := 4) rfl (y := S (2 ^ (a + 1))) (by rw [show ((2 ^ a : Nat) : Int) * 2 = ((2 ^ (a + 1) : Nat) : Int) by rw [Nat.pow_succ]; simp]; exact congrArg (fun z => D.v (.int .u64 z)) (u64_in hlt)) ?_ | refine Run.say (d := 4) rfl (y := S (2 ^ (a + 1))) (by rw [show ((2 ^ a : Nat) : Int) * 2 = ((2 ^ (a + 1) : Nat) : Int) by rw [Nat.pow_succ]; simp]; exact congrArg (fun z => D.v (.int .u64 z)) (u64_in hlt)) ?_ | refine OpsR.say (q := 4) rfl (y := S (2 ^ (a + 1))) (by rw [show ((2 ^ a : Nat) : Int) * 2 = ((2 ^ (a + 1) : Nat) : Int) by rw [Nat.pow_succ]; simp]; exact congrArg (fun z => D.v (.int .u64 z)) (u64_in hlt)) ?_ | refine OpsB.say (d := 4) rfl (y := S (2 ^ (a + 1))) (by rw [show ((2 ^ a : Nat) : Int) * 2 = ((2 ^ (a + 1) : Nat) : Int) by rw [Nat.pow_succ]; simp]; exact congrArg (fun z => D.v (.int .u64 z)) (u64_in hlt)) ?_
      first | refine OpsAt.say (d := 5) rfl (y := .v (.int .i64 (a + 1 : Nat))) (by rw [wrap64_in ((a : Int) + 1) (by omega)]; simp) ?_ | refine Run.say (d := 5) rfl (y := .v (.int .i64 (a + 1 : Nat))) (by rw [wrap64_in ((a : Int) + 1) (by omega)]; simp) ?_ | refine OpsR.say (q := 5) rfl (y := .v (.int .i64 (a + 1 : Nat))) (by rw [wrap64_in ((a : Int) + 1) (by omega)]; simp) ?_ | refine OpsB.say (d := 5) rfl (y := .v (.int .i64 (a + 1 : Nat))) (by rw [wrap64_in ((a : Int) + 1) (by omega)]; simp) ?_
      refine Run.keep [1, 2, 3, 4, 5] rfl ?_
      exact ih (a + 1) (by omega) (by omega)
  · have ha2 : a = 32 := by simp at hb; omega
    subst ha2
    have hT : t = turnG g := by rw [ht]; unfold turnTo turnG; refine List.map_congr_left fun j _ => by simp
    repeat (first | refine wa ?_ | refine wc ?_ | ((refine wl rfl rfl ?_ ?_)) | refine wj rfl ?_)
    · exact ⟨gr_fits htg.1 rfl, gr_pl _⟩
    refine wv rfl rfl (gr_pl _) (gr_stoAll (z := List.replicate 32 0) htg.1 rfl rfl) rfl ?_
    repeat (first | refine wb ?_)
    exact wD (Ends.cellE agree rfl rfl (by rw [Bool.and_eq_true]; exact ⟨gr_fits htg.1 rfl, gr_pl _⟩) (by rw [← hT]; rfl))
end Go.Proofs.YtaflihoopnjcgaaDoor

namespace Go.Proofs.YtaflihoopnjcgaaDoor
open Go Go.Dat

def cntB (l : List Bool) : Nat → Nat
  | 0 => 0
  | n + 1 => cntB l n + (if l.getD n false then 0 else 1)
theorem cntB_set {l : List Bool} {b : Nat} (hb : b < l.length) (h : l.getD b false = false) : ∀ n, (n ≤ b → cntB (l.set b true) n = cntB l n) ∧ (b < n → cntB (l.set b true) n + 1 = cntB l n)
  | 0 => ⟨fun _ => rfl, fun h => absurd h (by omega)⟩
  | n + 1 => by
    obtain ⟨h1, h2⟩ := cntB_set hb h n
    refine ⟨fun hn => ?_, fun hn => ?_⟩
    · have e : (l.set b true).getD n false = l.getD n false := by
        rw [List.getD_eq_getElem?_getD, List.getElem?_set_ne (by omega), ← List.getD_eq_getElem?_getD]
      simp only [cntB, e, h1 (by omega)]
    · by_cases e0 : b = n
      · subst e0
        have e : (l.set b true).getD b false = true := by rw [List.getD_eq_getElem?_getD]; simp [hb]
        simp only [cntB, e, h, h1 (Nat.le_refl _)]
        simp
      · have e : (l.set b true).getD n false = l.getD n false := by
          rw [List.getD_eq_getElem?_getD, List.getElem?_set_ne e0, ← List.getD_eq_getElem?_getD]
        have := h2 (by omega)
        simp only [cntB, e]
        omega
theorem getD_setB {l : List Bool} {b k : Nat} (hb : b < l.length) : (l.set b true).getD k false = (decide (b = k) || l.getD k false) := by
  rw [List.getD_eq_getElem?_getD, List.getElem?_set]
  by_cases e : b = k
  · subst e; simp [hb]
  · simp [e]

/-- What is in, of the first c what is in the other one, too. -/
def orTo (l m : List Bool) (c : Nat) : List Bool := (List.range 64).map fun j => l.getD j false || (decide (j < c) && m.getD j false)
theorem orTo_len (l m : List Bool) (c : Nat) : (orTo l m c).length = 64 := by simp [orTo]
theorem orTo_at (l m : List Bool) {c j : Nat} (hj : j < 64) : (orTo l m c).getD j false = (l.getD j false || (decide (j < c) && m.getD j false)) := by simp [orTo, hj]
theorem orTo_zero {l m : List Bool} (hl : l.length = 64) : orTo l m 0 = l := by
  apply List.ext_getElem?
  intro j
  by_cases h : j < 64
  · simp [orTo, h, hl]
  · rw [List.getElem?_eq_none (by rw [orTo_len]; omega), List.getElem?_eq_none (by omega)]
theorem orTo_set (l m : List Bool) {c : Nat} (hc : c < 64) : (orTo l m c).set c (l.getD c false || m.getD c false) = orTo l m (c + 1) := by
  apply List.ext_getElem?
  intro j
  rw [List.getElem?_set]
  by_cases h1 : c = j
  · subst h1
    simp [orTo, hc]
  · by_cases h2 : j < 64
    · have h3 : j < c ↔ j < c + 1 := by omega
      simp [h1, orTo, h2, h3]
    · simp [h1, orTo, h2]

structure RI (g : List Nat) (a : Nat) (l h : List Bool) : Prop where
  ll : l.length = 64
  lh : h.length = 64
  sound : ∀ j, j < 64 → l.getD j false = true → j < 32 ∧ Comes1 (nxf (fun i => outsN g (i : Int)) fun _ => true) a j
  sub : ∀ j, j < 64 → h.getD j false = true → l.getD j false = true
  first : ∀ k, edge g a k = true → l.getD k false = true
  clo : ∀ j, j < 64 → h.getD j false = true → ∀ k, edge g j k = true → l.getD k false = true

theorem RI.next {g : List Nat} {a : Nat} {l h : List Bool} (hI : RI g a l h) {b : Nat} (hb : b < 32) (hin : l.getD b false = true) {o : List Bool} (ho : ∀ k, k < 64 → o.getD k false = edge g b k) : RI g a (orTo l o 32) (h.set b true) := by
  have hor : ∀ k, k < 64 → ((orTo l o 32).getD k false = true ↔ l.getD k false = true ∨ edge g b k = true) := fun k hk => by
    rw [orTo_at _ _ hk, ho k hk, Bool.or_eq_true, Bool.and_eq_true, decide_eq_true_eq]
    constructor
    · rintro (h1 | h1)
      · exact .inl h1
      · exact .inr h1.2
    · rintro (h1 | h1)
      · exact .inl h1
      · exact .inr ⟨by simp only [edge, Bool.and_eq_true, decide_eq_true_eq] at h1; exact h1.1.2, h1⟩
  have h32 : ∀ i k, edge g i k = true → k < 64 := fun i k h => by simp only [edge, Bool.and_eq_true, decide_eq_true_eq] at h; omega
  refine ⟨orTo_len _ _ _, by rw [List.length_set, hI.lh], fun j hj hjl => ?_, fun j hj hjh => ?_, fun k hk => (hor k (h32 _ _ hk)).2 (.inl (hI.first k hk)), fun j hj hjh k hk => ?_⟩
  · rcases (hor j hj).1 hjl with h1 | h1
    · exact hI.sound j hj h1
    · exact ⟨by simp only [edge, Bool.and_eq_true, decide_eq_true_eq] at h1; exact h1.1.2, b, comes_one (hI.sound b (by omega) hin).2, by rw [nx_edge]; exact h1⟩
  · rw [getD_setB (by rw [hI.lh]; omega), Bool.or_eq_true, decide_eq_true_eq] at hjh
    rcases hjh with rfl | h1
    · exact (hor b hj).2 (.inl hin)
    · exact (hor j hj).2 (.inl (hI.sub j hj h1))
  · rw [getD_setB (by rw [hI.lh]; omega), Bool.or_eq_true, decide_eq_true_eq] at hjh
    rcases hjh with rfl | h1
    · exact (hor k (h32 _ _ hk)).2 (.inr hk)
    · exact (hor k (h32 _ _ hk)).2 (.inl (hI.clo j hj h1 k hk))
theorem RI.done {g : List Nat} {a : Nat} {l h : List Bool} (hI : RI g a l h) (hall : ∀ j, j < 32 → l.getD j false = true → h.getD j false = true) : sumL l = reachN g a := by
  refine setOf_eq (sumL_lt l) fun j hj => ?_
  rw [sumL_bit l hj]
  refine ⟨fun h1 => (hI.sound j hj h1).2, ?_⟩
  rintro ⟨i, h1, h2⟩
  have hc : ∀ j, Comes (nxf (fun i => outsN g (i : Int)) fun _ => true) a j → j = a ∨ (j < 32 ∧ l.getD j false = true) := fun j hj => by
    induction hj with
    | base => exact .inl rfl
    | @step i k h hn ih =>
      rw [nx_edge] at hn
      have hk : k < 32 := by simp only [edge, Bool.and_eq_true, decide_eq_true_eq] at hn; exact hn.1.2
      rcases ih with rfl | ⟨h3, h4⟩
      · exact .inr ⟨hk, hI.first _ hn⟩
      · exact .inr ⟨hk, hI.clo i (by omega) (hall i h3 h4) k hn⟩
  rw [nx_edge] at h2
  rcases hc i h1 with rfl | ⟨h3, h4⟩
  · exact hI.first _ h2
  · exact hI.clo i (by omega) (hall i h3 h4) j h2
theorem RI.start {g : List Nat} {a : Nat} : RI g a (bitsL (outsN g (a : Int))) (List.replicate 64 false) := by
  refine ⟨bitsTo_len _ _, rfl, fun j hj h => ?_, fun j hj h => ?_, fun k hk => ?_, fun j hj h => ?_⟩
  · rw [bits_at hj, outs_bit] at h
    exact ⟨by simp only [edge, Bool.and_eq_true, decide_eq_true_eq] at h; exact h.1.2, a, .base, by rw [nx_edge]; exact h⟩
  · rw [List.getD_eq_getElem?_getD, List.getElem?_replicate] at h; simp [hj] at h
  · have : k < 64 := by simp only [edge, Bool.and_eq_true, decide_eq_true_eq] at hk; omega
    rw [bits_at this, outs_bit]
    exact hk
  · rw [List.getD_eq_getElem?_getD, List.getElem?_replicate] at h; simp [hj] at h

set_option maxHeartbeats 2000000 in
theorem c_rReach (g : List Nat) (a : Nat) (hg : gok g) : DFun Tryd.prog 68 [gr g, .v (.int .i64 a)] (S (reachN g a)) := by
  refine DFun.ofRun agree mixed Tryd.func68 rfl rfl ?_
  repeat (first | refine wa ?_ | refine wc ?_ | ((refine wl rfl rfl ?_ ?_)))
  · exact gr_pl g
  repeat (first | refine wa ?_ | refine wb ?_ | refine wc ?_ | ((refine wl rfl rfl ?_ ?_); try (first | exact trivial)))
  · exact ⟨gr_fits hg.1 rfl, gr_pl g⟩
  repeat (first | ((refine wl rfl rfl ?_ ?_); try (first | ((repeat' apply And.intro) <;> first | exact trivial | exact rfl | omega | (simp; done) | (simp; omega)))))
  have hpl : ((gr g).get []).pl = true := gr_pl g
  refine wn (wA rfl rfl rfl (by repeat' (first | exact trivial | exact rfl | assumption | apply And.intro)) (callable (by decide)) (c_rOuts g a hg)) rfl ?_
  skip
  refine wn (wA rfl rfl rfl (by repeat' (first | exact trivial | exact rfl | assumption | apply And.intro)) (callable (by decide)) (c_rBits (outsN g (a : Int)) (outs_lt g a))) rfl ?_
  have hI0 := RI.start (g := g) (a := a)
  obtain ⟨l0, hl0⟩ : ∃ l0, l0 = bitsL (outsN g (a : Int)) := ⟨_, rfl⟩
  rw [← hl0] at hI0
  rw [← hl0]
  repeat (first | ((refine wl rfl rfl ?_ ?_); try (first | ((repeat' apply And.intro) <;> first | exact trivial | exact rfl | omega | (simp; done) | (simp; omega)))))
  refine wv rfl rfl (bo_pl _) (bo_stoAll (z := List.replicate 64 false) (n := 64) hI0.ll rfl rfl) rfl ?_
  first | refine OpsAt.sayB (d := 5) rfl (y := bo l0) (rfl) ?_ | refine Run.sayB (d := 5) rfl (y := bo l0) (rfl) ?_
  repeat (first | refine wa ?_ | refine wb ?_ | refine wc ?_ | refine wd ?_ | ((refine wl rfl rfl ?_ ?_); try (first | exact trivial | ((repeat' apply And.intro) <;> first | exact trivial | exact rfl | omega | (simp; done) | (simp; omega)))))
  refine Run.keep [2, 5, 6, 7] rfl ?_
  refine Run.at (l' := [(2, .box (gr g)), (5, .box (bo l0)), (6, .box (bo (List.replicate 64 false))), (7, .d (.v (.bool true)))]) rfl ?_
  refine Run.loopL (α := List Bool × List Bool × Bool) (fun q => RI g a q.1 q.2.1 ∧ (q.2.2 = false → ∀ j, j < 32 → q.1.getD j false = true → q.2.1.getD j false = true)) (fun q => [(2, .box (gr g)), (5, .box (bo q.1)), (6, .box (bo q.2.1)), (7, .d (.v (.bool q.2.2)))]) (fun q => 2 * cntB q.2.1 32 + (if q.2.2 then 1 else 0)) (l0, List.replicate 64 false, true) ⟨hI0, fun h => by cases h⟩ ?_
  rintro ⟨l, h, m⟩ ⟨hI, hm⟩ ih
  simp only at hI hm
  refine Run.at (l' := [(2, .box (gr g)), (5, .box (bo l)), (6, .box (bo h)), (7, .d (.v (.bool m)))]) rfl ?_
  repeat (first | refine wa ?_ | refine wb ?_ | refine wc ?_ | ((refine wl rfl rfl ?_ ?_); try (first | ((repeat' apply And.intro) <;> first | exact trivial | exact rfl | omega | (simp; done) | (simp; omega)))))
  refine Run.condB rfl rfl (fun hmore => ?_) (fun hmore => ?_)
  · subst hmore
    repeat (first | refine wa ?_ | refine wb ?_ | refine wc ?_ | refine wd ?_ | refine wf ?_ | ((refine wl rfl rfl ?_ ?_); try (first | exact trivial)))
    refine Run.keep [2, 5, 6, 7, 8] rfl ?_
    refine Run.at (l' := [(2, .box (gr g)), (5, .box (bo l)), (6, .box (bo h)), (7, .d (.v (.bool false))), (8, .d (.v (.int .i64 (0 : Nat))))]) rfl ?_
    refine Run.loopL (α := Nat × List Bool × List Bool × Bool) (fun q => q.1 ≤ 32 ∧ RI g a q.2.1 q.2.2.1 ∧ cntB q.2.2.1 32 + (if q.2.2.2 then 1 else 0) ≤ cntB h 32 ∧ (q.2.2.2 = false → ∀ j, j < q.1 → q.2.1.getD j false = true → q.2.2.1.getD j false = true)) (fun q => [(2, .box (gr g)), (5, .box (bo q.2.1)), (6, .box (bo q.2.2.1)), (7, .d (.v (.bool q.2.2.2))), (8, .d (.v (.int .i64 q.1)))]) (fun q => 32 - q.1) (0, l, h, false) ⟨Nat.zero_le _, hI, Nat.le_refl _, fun _ j hj => absurd hj (Nat.not_lt_zero j)⟩ ?_
    rintro ⟨b, l2, h2, m2⟩ ⟨hb0, hI2, hcnt, hm2⟩ ih2
    simp only at hb0 hI2 hcnt hm2
    refine Run.at (l' := [(2, .box (gr g)), (5, .box (bo l2)), (6, .box (bo h2)), (7, .d (.v (.bool m2))), (8, .d (.v (.int .i64 b)))]) rfl ?_
    repeat (first | refine wa ?_ | refine wb ?_ | refine wc ?_ | ((first | refine wl rfl rfl ?_ ?_ | refine wn (wp rfl rfl rfl rfl rfl ?_) rfl ?_); try (first | ((repeat' apply And.intro) <;> first | exact trivial | exact rfl | omega | (simp; done) | (simp; omega)))))
    refine Run.condB rfl rfl (fun hb => ?_) (fun hb => ?_)
    · have hb2 : b < 32 := by simp at hb; omega
      have gl : (bo l2).get ([] ++ [((b : Int)).toNat]) = .v (.bool (l2.getD b false)) := bo_at (by rw [hI2.ll]; omega)
      have gh : (bo h2).get ([] ++ [((b : Int)).toNat]) = .v (.bool (h2.getD b false)) := bo_at (by rw [hI2.lh]; omega)
      have hskip : (l2.getD b false = true → h2.getD b false = true) → (m2 = false → ∀ j, j < b + 1 → l2.getD j false = true → h2.getD j false = true) := fun hx h0 j hj hj2 => by
        by_cases e : j = b
        · rw [e] at hj2 ⊢; exact hx hj2
        · exact hm2 h0 j (by omega) hj2
      repeat (first | refine wa ?_ | refine wc ?_ | refine wd ?_ | refine wf ?_ | ((refine wl rfl rfl ?_ ?_); try (first | ((repeat' apply And.intro) <;> first | exact trivial | exact rfl | omega | (simp; done) | (simp; omega)))))
      · exact ⟨rfl, rfl, by rw [bools_len, hI2.ll], by omega, by omega⟩
      refine wn (Ev.ldBox rfl (adrOf_sound rfl) (ld_ok (T := 4) gl rfl).1 (ld_ok (T := 4) gl rfl).2) rfl ?_
      first | refine OpsAt.say (d := 22) rfl (y := .v (.bool (l2.getD b false))) (gl) ?_ | refine Run.say (d := 22) rfl (y := .v (.bool (l2.getD b false))) (gl) ?_ | refine OpsR.say (q := 22) rfl (y := .v (.bool (l2.getD b false))) (gl) ?_ | refine OpsB.say (d := 22) rfl (y := .v (.bool (l2.getD b false))) (gl) ?_
      repeat (first | ((refine wl rfl rfl ?_ ?_); try (first | ((repeat' apply And.intro) <;> first | exact trivial | exact rfl | omega | (simp; done) | (simp; omega)))))
      refine OpsAt.br rfl rfl rfl (fun h1 => ?_) (fun h1 => ?_)
      · have h1' : l2.getD b false = false := by simpa using h1
        repeat (first | refine wb ?_ | refine wc ?_ | ((first | refine wl rfl rfl ?_ ?_ | refine wn (wp rfl rfl rfl rfl rfl ?_) rfl ?_ | refine wt rfl ?_ ?_); try (first | ((repeat' apply And.intro) <;> first | exact trivial | exact rfl | omega | (simp; done) | (simp; omega)))) | refine ws rfl rfl ?_ | refine wj rfl ?_)
        first | refine OpsAt.say (d := 8) rfl (y := .v (.int .i64 (b + 1 : Nat))) (by rw [wrap64_in ((b : Int) + 1) (by omega)]; simp) ?_ | refine Run.say (d := 8) rfl (y := .v (.int .i64 (b + 1 : Nat))) (by rw [wrap64_in ((b : Int) + 1) (by omega)]; simp) ?_ | refine OpsR.say (q := 8) rfl (y := .v (.int .i64 (b + 1 : Nat))) (by rw [wrap64_in ((b : Int) + 1) (by omega)]; simp) ?_ | refine OpsB.say (d := 8) rfl (y := .v (.int .i64 (b + 1 : Nat))) (by rw [wrap64_in ((b : Int) + 1) (by omega)]; simp) ?_
        refine Run.keep [2, 5, 6, 7, 8] rfl ?_
        exact ih2 (b + 1, l2, h2, m2) ⟨by show b + 1 ≤ 32; omega, hI2, hcnt, hskip fun h => by rw [h1'] at h; cases h⟩ (by show 32 - (b + 1) < 32 - b; omega)
      have h1' : l2.getD b false = true := by simpa using h1
      repeat (first | ((refine wm rfl rfl rfl ?_ ?_); try (first | ((repeat' apply And.intro) <;> first | exact trivial | exact rfl | omega | (simp; done) | (simp; omega)))))
      · exact ⟨rfl, rfl, by rw [bools_len, hI2.lh], by omega, by omega⟩
      refine wo rfl (Ev.ldBox rfl (adrOf_sound rfl) (ld_ok (T := 4) gh rfl).1 (ld_ok (T := 4) gh rfl).2) rfl ?_
      first | refine OpsAt.say (d := 27) rfl (y := .v (.bool (h2.getD b false))) (gh) ?_ | refine Run.say (d := 27) rfl (y := .v (.bool (h2.getD b false))) (gh) ?_ | refine OpsR.say (q := 27) rfl (y := .v (.bool (h2.getD b false))) (gh) ?_ | refine OpsB.say (d := 27) rfl (y := .v (.bool (h2.getD b false))) (gh) ?_
      repeat (first | refine wb ?_ | ((refine wl rfl rfl ?_ ?_); try (first | ((repeat' apply And.intro) <;> first | exact trivial | exact rfl | omega | (simp; done) | (simp; omega)))))
      refine Run.condB rfl rfl (fun h3 => ?_) (fun h3 => ?_)
      · repeat (first | refine wb ?_ | refine wc ?_ | ((first | refine wl rfl rfl ?_ ?_ | refine wn (wp rfl rfl rfl rfl rfl ?_) rfl ?_); try (first | ((repeat' apply And.intro) <;> first | exact trivial | exact rfl | omega | (simp; done) | (simp; omega)))) | refine wj rfl ?_)
        first | refine OpsAt.say (d := 8) rfl (y := .v (.int .i64 (b + 1 : Nat))) (by rw [wrap64_in ((b : Int) + 1) (by omega)]; simp) ?_ | refine Run.say (d := 8) rfl (y := .v (.int .i64 (b + 1 : Nat))) (by rw [wrap64_in ((b : Int) + 1) (by omega)]; simp) ?_ | refine OpsR.say (q := 8) rfl (y := .v (.int .i64 (b + 1 : Nat))) (by rw [wrap64_in ((b : Int) + 1) (by omega)]; simp) ?_ | refine OpsB.say (d := 8) rfl (y := .v (.int .i64 (b + 1 : Nat))) (by rw [wrap64_in ((b : Int) + 1) (by omega)]; simp) ?_
        refine Run.keep [2, 5, 6, 7, 8] rfl ?_
        exact ih2 (b + 1, l2, h2, m2) ⟨by show b + 1 ≤ 32; omega, hI2, hcnt, hskip fun _ => h3⟩ (by show 32 - (b + 1) < 32 - b; omega)
      have hc1 := (cntB_set (l := h2) (b := b) (by rw [hI2.lh]; omega) h3 32).2 hb2
      repeat (first | refine wa ?_ | refine wc ?_ | refine wf ?_ | ((refine wl rfl rfl ?_ ?_); try (first | ((repeat' apply And.intro) <;> first | exact trivial | exact rfl | omega | (simp; done) | (simp; omega)))))
      · exact ⟨rfl, rfl, by rw [bools_len, hI2.lh], by omega, by omega⟩
      refine wv rfl rfl trivial (bo_sto (by rw [hI2.lh]; omega) rfl) rfl ?_
      first | refine OpsAt.sayB (d := 6) rfl (y := bo (h2.set b true)) (bo_set h2 b true) ?_ | refine Run.sayB (d := 6) rfl (y := bo (h2.set b true)) (bo_set h2 b true) ?_
      repeat (first | refine wa ?_ | refine wb ?_ | refine wc ?_ | ((refine wl rfl rfl ?_ ?_); try (first | exact trivial)))
      · exact ⟨gr_fits hg.1 rfl, gr_pl g⟩
      repeat (first | ((refine wl rfl rfl ?_ ?_); try (first | ((repeat' apply And.intro) <;> first | exact trivial | exact rfl | omega | (simp; done) | (simp; omega)))))
      have hpl2 : ((gr g).get []).pl = true := gr_pl g
      refine wn (wA rfl rfl rfl (by repeat' (first | exact trivial | exact rfl | assumption | apply And.intro)) (callable (by decide)) (c_rOuts g b hg)) rfl ?_
      skip
      refine wn (wA rfl rfl rfl (by repeat' (first | exact trivial | exact rfl | assumption | apply And.intro)) (callable (by decide)) (c_rBits (outsN g (b : Int)) (outs_lt g b))) rfl ?_
      obtain ⟨o, ho⟩ : ∃ o, o = bitsL (outsN g (b : Int)) := ⟨_, rfl⟩
      have hol : o.length = 64 := by rw [ho]; exact bitsTo_len _ _
      have hoa : ∀ k, k < 64 → o.getD k false = edge g b k := fun k hk => by rw [ho, bits_at hk, outs_bit]
      have hN := hI2.next hb2 h1' hoa
      rw [← ho]
      repeat (first | ((refine wl rfl rfl ?_ ?_); try (first | ((repeat' apply And.intro) <;> first | exact trivial | exact rfl | omega | (simp; done) | (simp; omega)))))
      refine wv rfl rfl (bo_pl _) (bo_stoAll (z := List.replicate 64 false) (n := 64) hol rfl rfl) rfl ?_
      first | refine OpsAt.sayB (d := 9) rfl (y := bo o) (rfl) ?_ | refine Run.sayB (d := 9) rfl (y := bo o) (rfl) ?_
      repeat (first | refine wa ?_ | refine wb ?_ | refine wc ?_ | refine wd ?_ | ((refine wl rfl rfl ?_ ?_); try (first | exact trivial)))
      refine Run.keep [2, 5, 6, 7, 8, 9, 10] rfl ?_
      refine Run.at (l' := [(2, .box (gr g)), (5, .box (bo (orTo l2 o 0))), (6, .box (bo (h2.set b true))), (7, .d (.v (.bool true))), (8, .d (.v (.int .i64 b))), (9, .box (bo o)), (10, .d (.v (.int .i64 (0 : Nat))))]) (by rw [orTo_zero hI2.ll]; rfl) ?_
      refine Run.loopL (α := Nat) (fun c => c ≤ 32) (fun c => [(2, .box (gr g)), (5, .box (bo (orTo l2 o c))), (6, .box (bo (h2.set b true))), (7, .d (.v (.bool true))), (8, .d (.v (.int .i64 b))), (9, .box (bo o)), (10, .d (.v (.int .i64 c)))]) (fun c => 32 - c) 0 (by decide) ?_
      intro c hc ih3
      obtain ⟨u, hu⟩ : ∃ u, u = orTo l2 o c := ⟨_, rfl⟩
      have hul : u.length = 64 := by rw [hu, orTo_len]
      refine Run.at (l' := [(2, .box (gr g)), (5, .box (bo u)), (6, .box (bo (h2.set b true))), (7, .d (.v (.bool true))), (8, .d (.v (.int .i64 b))), (9, .box (bo o)), (10, .d (.v (.int .i64 c)))]) (by rw [hu]) ?_
      repeat (first | refine wa ?_ | refine wb ?_ | refine wc ?_ | ((first | refine wl rfl rfl ?_ ?_ | refine wn (wp rfl rfl rfl rfl rfl ?_) rfl ?_); try (first | ((repeat' apply And.intro) <;> first | exact trivial | exact rfl | omega | (simp; done) | (simp; omega)))))
      refine Run.condB rfl rfl (fun hc2 => ?_) (fun hc2 => ?_)
      · have hc3 : c < 32 := by simp at hc2; omega
        have huc : u.getD c false = l2.getD c false := by rw [hu, orTo_at _ _ (by omega)]; simp
        have gu : (bo u).get ([] ++ [((c : Int)).toNat]) = .v (.bool (l2.getD c false)) := by rw [← huc]; exact bo_at (by omega)
        have go : (bo o).get ([] ++ [((c : Int)).toNat]) = .v (.bool (o.getD c false)) := bo_at (by omega)
        repeat (first | refine wa ?_ | refine wc ?_ | refine wd ?_ | refine wf ?_ | ((refine wl rfl rfl ?_ ?_); try (first | ((repeat' apply And.intro) <;> first | exact trivial | exact rfl | omega | (simp; done) | (simp; omega)))))
        · exact ⟨rfl, rfl, by rw [bools_len, hul], by omega, by omega⟩
        refine wn (Ev.ldBox rfl (adrOf_sound rfl) (ld_ok (T := 4) gu rfl).1 (ld_ok (T := 4) gu rfl).2) rfl ?_
        first | refine OpsAt.say (d := 42) rfl (y := .v (.bool (l2.getD c false))) (gu) ?_ | refine Run.say (d := 42) rfl (y := .v (.bool (l2.getD c false))) (gu) ?_ | refine OpsR.say (q := 42) rfl (y := .v (.bool (l2.getD c false))) (gu) ?_ | refine OpsB.say (d := 42) rfl (y := .v (.bool (l2.getD c false))) (gu) ?_
        repeat (first | ((refine wl rfl rfl ?_ ?_); try (first | ((repeat' apply And.intro) <;> first | exact trivial | exact rfl | omega | (simp; done) | (simp; omega)))))
        refine OpsAt.br rfl rfl rfl (fun h5 => ?_) (fun h5 => ?_)
        · repeat (first | ((refine wl rfl rfl ?_ ?_); try (first | ((repeat' apply And.intro) <;> first | exact trivial | exact rfl | omega | (simp; done) | (simp; omega)))) | refine ws rfl rfl ?_)
          · exact ⟨rfl, rfl, by rw [bools_len, hul], by omega, by omega⟩
          first | refine OpsAt.say (d := 47) rfl (y := .v (.bool (l2.getD c false || o.getD c false))) (by rw [h5]; rfl) ?_ | refine Run.say (d := 47) rfl (y := .v (.bool (l2.getD c false || o.getD c false))) (by rw [h5]; rfl) ?_ | refine OpsR.say (q := 47) rfl (y := .v (.bool (l2.getD c false || o.getD c false))) (by rw [h5]; rfl) ?_ | refine OpsB.say (d := 47) rfl (y := .v (.bool (l2.getD c false || o.getD c false))) (by rw [h5]; rfl) ?_
          refine wv rfl rfl rfl (bo_sto (by rw [hul]; omega) rfl) rfl ?_
          first | refine OpsAt.sayB (d := 5) rfl (y := bo (orTo l2 o (c + 1))) ((bo_set u c _).trans (by rw [hu, orTo_set l2 o (by omega)])) ?_ | refine Run.sayB (d := 5) rfl (y := bo (orTo l2 o (c + 1))) ((bo_set u c _).trans (by rw [hu, orTo_set l2 o (by omega)])) ?_
          repeat (first | refine wb ?_ | refine wc ?_ | refine we ?_ | ((first | refine wl rfl rfl ?_ ?_ | refine wn (wp rfl rfl rfl rfl rfl ?_) rfl ?_); try (first | ((repeat' apply And.intro) <;> first | exact trivial | exact rfl | omega | (simp; done) | (simp; omega)))))
          first | refine OpsAt.say (d := 10) rfl (y := .v (.int .i64 (c + 1 : Nat))) (by rw [wrap64_in ((c : Int) + 1) (by omega)]; simp) ?_ | refine Run.say (d := 10) rfl (y := .v (.int .i64 (c + 1 : Nat))) (by rw [wrap64_in ((c : Int) + 1) (by omega)]; simp) ?_ | refine OpsR.say (q := 10) rfl (y := .v (.int .i64 (c + 1 : Nat))) (by rw [wrap64_in ((c : Int) + 1) (by omega)]; simp) ?_ | refine OpsB.say (d := 10) rfl (y := .v (.int .i64 (c + 1 : Nat))) (by rw [wrap64_in ((c : Int) + 1) (by omega)]; simp) ?_
          refine Run.keep [2, 5, 6, 7, 8, 9, 10] rfl ?_
          exact ih3 (c + 1) (by omega) (by omega)
        · repeat (first | ((refine wm rfl rfl rfl ?_ ?_); try (first | ((repeat' apply And.intro) <;> first | exact trivial | exact rfl | omega | (simp; done) | (simp; omega)))))
          · exact ⟨rfl, rfl, by rw [bools_len, hol], by omega, by omega⟩
          refine wo rfl (Ev.ldBox rfl (adrOf_sound rfl) (ld_ok (T := 4) go rfl).1 (ld_ok (T := 4) go rfl).2) rfl ?_
          first | refine OpsAt.say (d := 46) rfl (y := .v (.bool (o.getD c false))) (go) ?_ | refine Run.say (d := 46) rfl (y := .v (.bool (o.getD c false))) (go) ?_ | refine OpsR.say (q := 46) rfl (y := .v (.bool (o.getD c false))) (go) ?_ | refine OpsB.say (d := 46) rfl (y := .v (.bool (o.getD c false))) (go) ?_
          repeat (first | ((refine wl rfl rfl ?_ ?_); try (first | ((repeat' apply And.intro) <;> first | exact trivial | exact rfl | omega | (simp; done) | (simp; omega)))))
          · exact ⟨rfl, rfl, by rw [bools_len, hul], by omega, by omega⟩
          first | refine OpsAt.say (d := 47) rfl (y := .v (.bool (l2.getD c false || o.getD c false))) (by rw [h5]; rfl) ?_ | refine Run.say (d := 47) rfl (y := .v (.bool (l2.getD c false || o.getD c false))) (by rw [h5]; rfl) ?_ | refine OpsR.say (q := 47) rfl (y := .v (.bool (l2.getD c false || o.getD c false))) (by rw [h5]; rfl) ?_ | refine OpsB.say (d := 47) rfl (y := .v (.bool (l2.getD c false || o.getD c false))) (by rw [h5]; rfl) ?_
          refine wv rfl rfl rfl (bo_sto (by rw [hul]; omega) rfl) rfl ?_
          first | refine OpsAt.sayB (d := 5) rfl (y := bo (orTo l2 o (c + 1))) ((bo_set u c _).trans (by rw [hu, orTo_set l2 o (by omega)])) ?_ | refine Run.sayB (d := 5) rfl (y := bo (orTo l2 o (c + 1))) ((bo_set u c _).trans (by rw [hu, orTo_set l2 o (by omega)])) ?_
          repeat (first | refine wb ?_ | refine wc ?_ | refine we ?_ | ((first | refine wl rfl rfl ?_ ?_ | refine wn (wp rfl rfl rfl rfl rfl ?_) rfl ?_); try (first | ((repeat' apply And.intro) <;> first | exact trivial | exact rfl | omega | (simp; done) | (simp; omega)))))
          first | refine OpsAt.say (d := 10) rfl (y := .v (.int .i64 (c + 1 : Nat))) (by rw [wrap64_in ((c : Int) + 1) (by omega)]; simp) ?_ | refine Run.say (d := 10) rfl (y := .v (.int .i64 (c + 1 : Nat))) (by rw [wrap64_in ((c : Int) + 1) (by omega)]; simp) ?_ | refine OpsR.say (q := 10) rfl (y := .v (.int .i64 (c + 1 : Nat))) (by rw [wrap64_in ((c : Int) + 1) (by omega)]; simp) ?_ | refine OpsB.say (d := 10) rfl (y := .v (.int .i64 (c + 1 : Nat))) (by rw [wrap64_in ((c : Int) + 1) (by omega)]; simp) ?_
          refine Run.keep [2, 5, 6, 7, 8, 9, 10] rfl ?_
          exact ih3 (c + 1) (by omega) (by omega)
      · have hc3 : c = 32 := by simp at hc2; omega
        subst hc3
        repeat (first | refine wb ?_ | refine wc ?_ | refine we ?_ | ((first | refine wl rfl rfl ?_ ?_ | refine wn (wp rfl rfl rfl rfl rfl ?_) rfl ?_); try (first | ((repeat' apply And.intro) <;> first | exact trivial | exact rfl | omega | (simp; done) | (simp; omega)))) | refine wj rfl ?_)
        first | refine OpsAt.sayB (d := 5) rfl (y := bo (orTo l2 o 32)) (by rw [hu]) ?_ | refine Run.sayB (d := 5) rfl (y := bo (orTo l2 o 32)) (by rw [hu]) ?_
        first | refine OpsAt.say (d := 8) rfl (y := .v (.int .i64 (b + 1 : Nat))) (by rw [wrap64_in ((b : Int) + 1) (by omega)]; simp) ?_ | refine Run.say (d := 8) rfl (y := .v (.int .i64 (b + 1 : Nat))) (by rw [wrap64_in ((b : Int) + 1) (by omega)]; simp) ?_ | refine OpsR.say (q := 8) rfl (y := .v (.int .i64 (b + 1 : Nat))) (by rw [wrap64_in ((b : Int) + 1) (by omega)]; simp) ?_ | refine OpsB.say (d := 8) rfl (y := .v (.int .i64 (b + 1 : Nat))) (by rw [wrap64_in ((b : Int) + 1) (by omega)]; simp) ?_
        refine Run.keep [2, 5, 6, 7, 8] rfl ?_
        refine ih2 (b + 1, orTo l2 o 32, h2.set b true, true) ⟨by show b + 1 ≤ 32; omega, hN, ?_, fun h => by cases h⟩ (by show 32 - (b + 1) < 32 - b; omega)
        show cntB (h2.set b true) 32 + 1 ≤ cntB h 32
        omega
    · have hb2 : b = 32 := by simp at hb; omega
      subst hb2
      repeat (first | refine we ?_ | refine wj rfl ?_)
      refine Run.keep [2, 5, 6, 7] rfl ?_
      refine ih (l2, h2, m2) ⟨hI2, hm2⟩ ?_
      show 2 * cntB h2 32 + (if m2 then 1 else 0) < 2 * cntB h 32 + 1
      cases m2 with
      | true => simp only [if_true] at hcnt ⊢; omega
      | false => simp only [Bool.false_eq_true, if_false] at hcnt ⊢; omega
  · subst hmore
    repeat (first | refine wa ?_ | refine wc ?_ | ((refine wl rfl rfl ?_ ?_)) | refine wj rfl ?_)
    · exact ⟨bo_fits hI.ll rfl, bo_pl _⟩
    skip
    have hplb : ((bo l).get []).pl = true := bo_pl l
    refine wn (wA rfl rfl rfl (by repeat' (first | exact trivial | exact rfl | assumption | apply And.intro)) (callable (by decide)) (c_rSum l hI.ll)) rfl ?_
    repeat (first | refine wb ?_ | ((refine wl rfl rfl ?_ ?_); try (first | ((repeat' apply And.intro) <;> first | exact trivial | exact rfl | omega | (simp; done) | (simp; omega)))))
    refine wD (wE rfl rfl ?_)
    rw [hI.done (hm rfl)]
end Go.Proofs.YtaflihoopnjcgaaDoor

namespace Go.Proofs.YtaflihoopnjcgaaDoor
open Go Go.Dat

theorem comes_or {nx : Nat → Nat → Bool} {a j : Nat} : (a = j ∨ Comes1 nx a j) ↔ Comes nx a j := by
  constructor
  · rintro (rfl | h)
    · exact .base
    · exact comes_one h
  · intro h
    cases h with
    | base => exact .inl rfl
    | step h1 h2 => exact .inr ⟨_, h1, h2⟩
theorem outB_iff {l : List Int} (hp : Perm32 l) {A B i : Nat} (hA : A < 32) (hB : B < 32) (hi : i < 32) : outB l (l.getD B 0) (l.getD A 0) i = false ↔ pl l B ≤ pl l i ∧ pl l i ≤ pl l A := by
  have e1 := (hp.pl_eq hA).1
  have e2 := (hp.pl_eq hB).1
  have e3 := (hp.pl_eq hi).1
  unfold outB
  rw [Bool.or_eq_false_iff, decide_eq_false_iff_not, decide_eq_false_iff_not]
  omega
section
variable {g : List Nat} {l : List Int} {A B : Nat}
theorem near_iff (hg : gok g) (hp : Perm32 l) (hA : A < 32) (hB : B < 32) {i k : Nat} : edge (wTo g l (l.getD B 0) (l.getD A 0) 32) i k = true ↔ edge g i k = true ∧ (pl l B ≤ pl l i ∧ pl l i ≤ pl l A) ∧ pl l B ≤ pl l k ∧ pl l k ≤ pl l A := by
  rw [within_edge hg]
  constructor
  · rintro ⟨h1, h2, h3⟩
    have hik : i < 32 ∧ k < 32 := by simp only [edge, Bool.and_eq_true, decide_eq_true_eq] at h1; exact h1.1
    exact ⟨h1, (outB_iff hp hA hB hik.1).1 h2, (outB_iff hp hA hB hik.2).1 h3⟩
  · rintro ⟨h1, h2, h3⟩
    have hik : i < 32 ∧ k < 32 := by simp only [edge, Bool.and_eq_true, decide_eq_true_eq] at h1; exact h1.1
    exact ⟨h1, (outB_iff hp hA hB hik.1).2 h2, (outB_iff hp hA hB hik.2).2 h3⟩
theorem fore_ref (hg : gok g) (hp : Perm32 l) (hs : ∀ i k, edge g i k = true → pl l i < pl l k) (hA : A < 32) (hB : B < 32) (hle : pl l B ≤ pl l A) : withN (reachN (wTo g l (l.getD B 0) (l.getD A 0) 32) B) (B : Int) = foreN g l A B := by
  refine bits_eq (withN_lt _ (setOf_lt _)) (setOf_lt _) fun j hj => ?_
  rw [with_bit (by omega), Bool.or_eq_true, decide_eq_true_eq, foreN, setOf_bit, reachN, setOf_bit]
  have key : Comes (nxf (fun i => outsN (wTo g l (l.getD B 0) (l.getD A 0) 32) (i : Int)) fun _ => true) B j ↔ Comes (nxF g l A) B j := by
    constructor
    · intro h
      induction h with
      | base => exact .base
      | step _ hn ih =>
        rw [nx_edge, near_iff hg hp hA hB] at hn
        exact (ih (by
          have := hn.1
          simp only [edge, Bool.and_eq_true, decide_eq_true_eq] at this
          omega)).step ((nxF_iff hp hA).2 ⟨hn.1, hn.2.2.2⟩)
    · intro h
      induction h with
      | base => exact .base
      | @step i k h0 hn ih =>
        have hlt := fore_lt hp hs hA hB hle h0
        rw [nxF_iff hp hA] at hn
        have := hs _ _ hn.1
        exact (ih (by omega)).step (by rw [nx_edge, near_iff hg hp hA hB]; exact ⟨hn.1, hlt.2, by omega, hn.2⟩)
  rw [← key, ← comes_or]
  constructor
  · rintro (⟨_, h⟩ | h)
    · exact ⟨hj, .inr h⟩
    · exact ⟨hj, .inl h⟩
  · rintro ⟨_, h | h⟩
    · exact .inr h
    · exact .inl ⟨hj, h⟩
theorem hind_ref (hg : gok g) (hp : Perm32 l) (hs : ∀ i k, edge g i k = true → pl l i < pl l k) (hA : A < 32) (hB : B < 32) (hle : pl l B ≤ pl l A) : withN (reachN (turnG (wTo g l (l.getD B 0) (l.getD A 0) 32)) A) (A : Int) = hindN g l A B := by
  refine bits_eq (withN_lt _ (setOf_lt _)) (setOf_lt _) fun j hj => ?_
  rw [with_bit (by omega), Bool.or_eq_true, decide_eq_true_eq, hindN, setOf_bit, reachN, setOf_bit]
  have key : Comes (nxf (fun i => outsN (turnG (wTo g l (l.getD B 0) (l.getD A 0) 32)) (i : Int)) fun _ => true) A j ↔ Comes (nxH g l B) A j := by
    constructor
    · intro h
      induction h with
      | base => exact .base
      | step _ hn ih =>
        rw [nx_edge, turn_edge, near_iff hg hp hA hB] at hn
        exact (ih (by
          have := hn.1
          simp only [edge, Bool.and_eq_true, decide_eq_true_eq] at this
          omega)).step ((nxH_iff hp hB).2 ⟨hn.1, hn.2.1.1⟩)
    · intro h
      induction h with
      | base => exact .base
      | @step i k h0 hn ih =>
        have hlt := hind_lt hp hs hA hB hle h0
        rw [nxH_iff hp hB] at hn
        have := hs _ _ hn.1
        exact (ih (by omega)).step (by rw [nx_edge, turn_edge, near_iff hg hp hA hB]; exact ⟨hn.1, ⟨hn.2, by omega⟩, hlt.2⟩)
  rw [← key, ← comes_or]
  constructor
  · rintro (⟨_, h⟩ | h)
    · exact ⟨hj, .inr h⟩
    · exact ⟨hj, .inl h⟩
  · rintro ⟨_, h | h⟩
    · exact .inr h
    · exact .inl ⟨hj, h⟩
end

/-- The nodes of a set by their places, of the first n places. -/
def ordTo (l : List Int) (s n : Nat) : List Nat := ((List.range n).map (at' l)).filter fun i => s.testBit i
theorem ordTo_succ (l : List Int) (s n : Nat) : ordTo l s (n + 1) = if s.testBit (at' l n) then ordTo l s n ++ [at' l n] else ordTo l s n := by
  unfold ordTo
  rw [List.range_succ, List.map_append, List.filter_append]
  cases h : s.testBit (at' l n) <;> simp [h]
theorem ordTo_le (l : List Int) (s n : Nat) : (ordTo l s n).length ≤ n := by
  unfold ordTo
  refine Nat.le_trans (List.length_filter_le _ _) ?_
  simp
def plTo (l : List Int) (s n : Nat) : List Nat := (List.range n).filter fun p => s.testBit (at' l p)
theorem plTo_succ (l : List Int) (s n : Nat) : plTo l s (n + 1) = if s.testBit (at' l n) then plTo l s n ++ [n] else plTo l s n := by
  unfold plTo
  rw [List.range_succ, List.filter_append]
  cases h : s.testBit (at' l n) <;> simp [h]
theorem plTo_le (l : List Int) (s n : Nat) : (plTo l s n).length ≤ n := by
  unfold plTo
  refine Nat.le_trans (List.length_filter_le _ _) ?_
  simp
theorem plTo_all {l : List Int} (hp : Perm32 l) (s : Nat) : plTo l s 32 = (byO l s).map (pl l) := by
  unfold plTo byO
  rw [List.filter_map, List.map_map]
  have : ∀ p ∈ (List.range 32).filter ((fun i => s.testBit i) ∘ at' l), (pl l ∘ at' l) p = p := fun p hpp => by
    have := List.mem_range.1 (List.mem_filter.1 hpp).1
    exact (hp.pl_at this).1
  rw [List.map_congr_left this]
  simp
  rfl

set_option maxHeartbeats 4000000 in
theorem c_rInsert (g : List Nat) (l : List Int) (a b : Int) (hg : gok g) (hl : l.length = 32) :
    DFun Tryd.prog 55 [gr g, ord l, .v (.int .i64 a), .v (.int .i64 b)] (.tup [gr (insG g l a b).1, ord (insG g l a b).2.1, .v (.bool (insG g l a b).2.2)]) := by
  refine DFun.ofRun agree mixed Tryd.func55 rfl rfl ?_
  repeat (first | refine wa ?_ | refine wc ?_ | ((refine wl rfl rfl ?_ ?_)))
  · exact gr_pl g
  repeat (first | ((refine wl rfl rfl ?_ ?_)))
  · exact ord_pl l
  repeat (first | refine wa ?_ | refine wb ?_ | refine wc ?_ | ((refine wl rfl rfl ?_ ?_); try (first | exact trivial | ((repeat' apply And.intro) <;> first | exact trivial | exact rfl | omega | (simp; done) | (simp; omega)))))
  · exact ⟨gr_fits hg.1 rfl, gr_pl g⟩
  repeat (first | ((refine wl rfl rfl ?_ ?_); try (first | ((repeat' apply And.intro) <;> first | exact trivial | exact rfl | omega | (simp; done) | (simp; omega)))))
  have hpl : ((gr g).get []).pl = true := gr_pl g
  refine wn (wA rfl rfl rfl (by repeat' (first | exact trivial | exact rfl | assumption | apply And.intro)) (callable (by decide)) (c_rPut g a b hg)) rfl ?_
  have hg2 := putG_ok hg a b
  obtain ⟨g2, is, hq⟩ : ∃ g2 is, putG g a b = (g2, is) := ⟨_, _, rfl⟩
  rw [hq] at hg2
  simp only [hq]
  repeat (first | ((refine wl rfl rfl ?_ ?_)))
  · exact noOwns_g _ _
  repeat (first | ((refine wl rfl rfl ?_ ?_)))
  · exact gr_pl g2
  first | refine OpsAt.say (d := 27) rfl (y := gr g2) (rfl) ?_ | refine Run.say (d := 27) rfl (y := gr g2) (rfl) ?_ | refine OpsR.say (q := 27) rfl (y := gr g2) (rfl) ?_ | refine OpsB.say (d := 27) rfl (y := gr g2) (rfl) ?_
  repeat (first | ((refine wl rfl rfl ?_ ?_); try (first | ((repeat' apply And.intro) <;> first | exact trivial | exact rfl | omega | (simp; done) | (simp; omega)))))
  refine wv rfl rfl (gr_pl g2) (gr_stoAll (z := List.replicate 32 0) hg2.1 rfl rfl) rfl ?_
  first | refine OpsAt.sayB (d := 11) rfl (y := gr g2) (rfl) ?_ | refine Run.sayB (d := 11) rfl (y := gr g2) (rfl) ?_
  first | refine OpsAt.say (d := 28) rfl (y := .v (.bool is)) (rfl) ?_ | refine Run.say (d := 28) rfl (y := .v (.bool is)) (rfl) ?_ | refine OpsR.say (q := 28) rfl (y := .v (.bool is)) (rfl) ?_ | refine OpsB.say (d := 28) rfl (y := .v (.bool is)) (rfl) ?_
  repeat (first | refine wa ?_ | refine wb ?_ | refine wc ?_ | ((refine wl rfl rfl ?_ ?_); try (first | ((repeat' apply And.intro) <;> first | exact trivial | exact rfl | omega | (simp; done) | (simp; omega)))))
  · exact ⟨gr_fits hg.1 rfl, gr_pl g⟩
  repeat (first | ((refine wl rfl rfl ?_ ?_)))
  · exact ⟨ord_fits hl rfl, ord_pl l⟩
  skip
  have hpl2 : ((ord l).get []).pl = true := ord_pl l
  refine wn (wA rfl rfl rfl (by repeat' (first | exact trivial | exact rfl | assumption | apply And.intro)) (callable (by decide)) (c_rSorted g l hg hl)) rfl ?_
  repeat (first | ((refine wl rfl rfl ?_ ?_); try (first | ((repeat' apply And.intro) <;> first | exact trivial | exact rfl | omega | (simp; done) | (simp; omega)))))
  first | refine OpsAt.say (d := 33) rfl (y := .v (.bool (!(sortedN g l)))) (rfl) ?_ | refine Run.say (d := 33) rfl (y := .v (.bool (!(sortedN g l)))) (rfl) ?_ | refine OpsR.say (q := 33) rfl (y := .v (.bool (!(sortedN g l)))) (rfl) ?_ | refine OpsB.say (d := 33) rfl (y := .v (.bool (!(sortedN g l)))) (rfl) ?_
  refine OpsAt.br rfl rfl rfl (fun h0 => ?_) (fun h0 => ?_)
  · have h1' : sortedN g l = false := by simpa using h0
    repeat (first | refine wa ?_ | refine wb ?_ | ((first | refine wl rfl rfl ?_ ?_ | refine wt rfl ?_ ?_); try (first | ((repeat' apply And.intro) <;> first | exact trivial | exact rfl | omega | (simp; done) | (simp; omega)))) | refine ws rfl rfl ?_)
    refine Run.keep [4, 5, 8, 9, 10] rfl ?_
    refine Run.at (l' := [(4, .box (gr g)), (5, .box (ord l)), (8, .box (gr (List.replicate 32 0))), (9, .box (ord (List.replicate 32 0))), (10, .d (.v (.bool false)))]) rfl ?_
    refine Run.opsB agree mixed rfl rfl ?_
    repeat (first | ((refine yb rfl rfl ?_ ?_)))
    · exact ⟨gr_fits hg.1 rfl, gr_pl g⟩
    repeat (first | ((refine yb rfl rfl ?_ ?_)))
    · exact ⟨ord_fits hl rfl, ord_pl l⟩
    skip
    refine yd rfl rfl (gr_pl g) (gr_stoAll (z := List.replicate 32 0) hg.1 rfl rfl) ?_
    refine yd rfl rfl (ord_pl l) (ord_stoAll (z := List.replicate 32 0) hl rfl rfl) ?_
    repeat (first | refine ya ?_ | ((refine yb rfl rfl ?_ ?_); try (first | exact trivial)))
    refine wD (Ends.tupE agree rfl ⟨⟨gr_fits hg.1 rfl, gr_pl g⟩, ⟨ord_fits hl rfl, ord_pl l⟩, rfl, trivial⟩ rfl ?_)
    simp only [insG, hq, h1', Bool.not_false, Bool.or_true, if_true]; rfl
  have h1' : sortedN g l = true := by simpa using h0
  repeat (first | refine wb ?_ | ((first | refine wl rfl rfl ?_ ?_ | refine wm rfl rfl rfl ?_ ?_); try (first | ((repeat' apply And.intro) <;> first | exact trivial | exact rfl | omega | (simp; done) | (simp; omega)))))
  refine Run.condB rfl rfl (fun h1 => ?_) (fun h1 => ?_)
  · have : is = false := by simpa using h1
    subst this
    repeat (first | refine wa ?_)
    refine Run.keep [4, 5, 8, 9, 10] rfl ?_
    refine Run.at (l' := [(4, .box (gr g)), (5, .box (ord l)), (8, .box (gr (List.replicate 32 0))), (9, .box (ord (List.replicate 32 0))), (10, .d (.v (.bool false)))]) rfl ?_
    refine Run.opsB agree mixed rfl rfl ?_
    repeat (first | ((refine yb rfl rfl ?_ ?_)))
    · exact ⟨gr_fits hg.1 rfl, gr_pl g⟩
    repeat (first | ((refine yb rfl rfl ?_ ?_)))
    · exact ⟨ord_fits hl rfl, ord_pl l⟩
    skip
    refine yd rfl rfl (gr_pl g) (gr_stoAll (z := List.replicate 32 0) hg.1 rfl rfl) ?_
    refine yd rfl rfl (ord_pl l) (ord_stoAll (z := List.replicate 32 0) hl rfl rfl) ?_
    repeat (first | refine ya ?_ | ((refine yb rfl rfl ?_ ?_); try (first | exact trivial)))
    refine wD (Ends.tupE agree rfl ⟨⟨gr_fits hg.1 rfl, gr_pl g⟩, ⟨ord_fits hl rfl, ord_pl l⟩, rfl, trivial⟩ rfl ?_)
    simp only [insG, hq, Bool.not_false, Bool.true_or, if_true]; rfl
  have : is = true := by simpa using h1
  subst this
  obtain ⟨hp, hs⟩ := (sorted_iff hl).1 h1'
  have hab : nodeN a = true ∧ nodeN b = true ∧ a ≠ b := by
    unfold putG at hq
    split at hq
    · next h => simpa [and_assoc] using h
    · cases hq
  obtain ⟨a, rfl, ha⟩ := node_nat hab.1
  obtain ⟨b, rfl, hb⟩ := node_nat hab.2.1
  have g1 : (ord l).get ([] ++ [((a : Int)).toNat]) = .v (.int .i64 (l.getD a 0)) := ord_at (by omega)
  have g2' : (ord l).get ([] ++ [((b : Int)).toNat]) = .v (.int .i64 (l.getD b 0)) := ord_at (by omega)
  repeat (first | refine wa ?_ | refine wf ?_)
  refine Run.keep [2, 3, 4, 5, 8, 9, 10, 11] rfl ?_
  refine Run.at (l' := [(2, .d (.v (.int .i64 (a : Nat)))), (3, .d (.v (.int .i64 (b : Nat)))), (4, .box (gr g)), (5, .box (ord l)), (8, .box (gr (List.replicate 32 0))), (9, .box (ord (List.replicate 32 0))), (10, .d (.v (.bool false))), (11, .box (gr g2))]) rfl ?_
  refine Run.ops1 (ld := []) rfl ?_
  repeat (first | ((refine wl rfl rfl ?_ ?_); try (first | ((repeat' apply And.intro) <;> first | exact trivial | exact rfl | omega | (simp; done) | (simp; omega)))))
  · exact ⟨rfl, rfl, by rw [ints_len, hl], by omega, by omega⟩
  refine wn (Ev.ldBox rfl (adrOf_sound rfl) (ld_ok (T := 3) g1 rfl).1 (ld_ok (T := 3) g1 rfl).2) rfl ?_
  first | refine OpsAt.say (d := 41) rfl (y := .v (.int .i64 (l.getD a 0))) (g1) ?_ | refine Run.say (d := 41) rfl (y := .v (.int .i64 (l.getD a 0))) (g1) ?_ | refine OpsR.say (q := 41) rfl (y := .v (.int .i64 (l.getD a 0))) (g1) ?_ | refine OpsB.say (d := 41) rfl (y := .v (.int .i64 (l.getD a 0))) (g1) ?_
  repeat (first | ((refine wl rfl rfl ?_ ?_); try (first | ((repeat' apply And.intro) <;> first | exact trivial | exact rfl | omega | (simp; done) | (simp; omega)))))
  · exact ⟨rfl, rfl, by rw [ints_len, hl], by omega, by omega⟩
  refine wn (Ev.ldBox rfl (adrOf_sound rfl) (ld_ok (T := 3) g2' rfl).1 (ld_ok (T := 3) g2' rfl).2) rfl ?_
  first | refine OpsAt.say (d := 44) rfl (y := .v (.int .i64 (l.getD b 0))) (g2') ?_ | refine Run.say (d := 44) rfl (y := .v (.int .i64 (l.getD b 0))) (g2') ?_ | refine OpsR.say (q := 44) rfl (y := .v (.int .i64 (l.getD b 0))) (g2') ?_ | refine OpsB.say (d := 44) rfl (y := .v (.int .i64 (l.getD b 0))) (g2') ?_
  repeat (first | refine wb ?_ | ((refine wn (wp rfl rfl rfl rfl rfl ?_) rfl ?_); try (first | ((repeat' apply And.intro) <;> first | exact trivial | exact rfl | omega | (simp; done) | (simp; omega)))))
  refine Run.condB rfl rfl (fun h2 => ?_) (fun h2 => ?_)
  · have h2' : l.getD a 0 < l.getD b 0 := of_decide_eq_true h2
    repeat (first | refine wa ?_)
    refine Run.keep [11, 5, 8, 9, 10] rfl ?_
    refine Run.at (l' := [(11, .box (gr g2)), (5, .box (ord l)), (8, .box (gr (List.replicate 32 0))), (9, .box (ord (List.replicate 32 0))), (10, .d (.v (.bool false)))]) rfl ?_
    refine Run.opsB agree mixed rfl rfl ?_
    repeat (first | ((refine yb rfl rfl ?_ ?_)))
    · exact ⟨gr_fits hg2.1 rfl, gr_pl g2⟩
    repeat (first | ((refine yb rfl rfl ?_ ?_)))
    · exact ⟨ord_fits hl rfl, ord_pl l⟩
    skip
    refine yd rfl rfl (gr_pl g2) (gr_stoAll (z := List.replicate 32 0) hg2.1 rfl rfl) ?_
    refine yd rfl rfl (ord_pl l) (ord_stoAll (z := List.replicate 32 0) hl rfl rfl) ?_
    repeat (first | refine ya ?_ | ((refine yb rfl rfl ?_ ?_); try (first | exact trivial)))
    refine wD (Ends.tupE agree rfl ⟨⟨gr_fits hg2.1 rfl, gr_pl g2⟩, ⟨ord_fits hl rfl, ord_pl l⟩, rfl, trivial⟩ rfl ?_)
    simp only [insG, hq, h1', Bool.not_true, Bool.or_false, Bool.false_eq_true, if_false, Int.toNat_natCast, if_pos h2']; rfl
  have h2' : ¬ l.getD a 0 < l.getD b 0 := of_decide_eq_false h2
  have hle : pl l b ≤ pl l a := by have e1 := (hp.pl_eq ha).1; have e2 := (hp.pl_eq hb).1; omega
  repeat (first | refine wa ?_ | refine wf ?_)
  refine Run.keep [2, 3, 4, 5, 8, 9, 10, 11] rfl ?_
  refine Run.at (l' := [(2, .d (.v (.int .i64 (a : Nat)))), (3, .d (.v (.int .i64 (b : Nat)))), (4, .box (gr g)), (5, .box (ord l)), (8, .box (gr (List.replicate 32 0))), (9, .box (ord (List.replicate 32 0))), (10, .d (.v (.bool false))), (11, .box (gr g2))]) rfl ?_
  refine Run.ops1 (ld := [10]) rfl ?_
  repeat (first | ((refine wl rfl rfl ?_ ?_)))
  · exact ⟨gr_fits hg.1 rfl, gr_pl g⟩
  repeat (first | ((refine wl rfl rfl ?_ ?_)))
  · exact ⟨ord_fits hl rfl, ord_pl l⟩
  repeat (first | ((refine wl rfl rfl ?_ ?_); try (first | ((repeat' apply And.intro) <;> first | exact trivial | exact rfl | omega | (simp; done) | (simp; omega)))))
  · exact ⟨rfl, rfl, by rw [ints_len, hl], by omega, by omega⟩
  refine wn (Ev.ldBox rfl (adrOf_sound rfl) (ld_ok (T := 3) g2' rfl).1 (ld_ok (T := 3) g2' rfl).2) rfl ?_
  first | refine OpsAt.say (d := 52) rfl (y := .v (.int .i64 (l.getD b 0))) (g2') ?_ | refine Run.say (d := 52) rfl (y := .v (.int .i64 (l.getD b 0))) (g2') ?_ | refine OpsR.say (q := 52) rfl (y := .v (.int .i64 (l.getD b 0))) (g2') ?_ | refine OpsB.say (d := 52) rfl (y := .v (.int .i64 (l.getD b 0))) (g2') ?_
  repeat (first | ((refine wl rfl rfl ?_ ?_); try (first | ((repeat' apply And.intro) <;> first | exact trivial | exact rfl | omega | (simp; done) | (simp; omega)))))
  · exact ⟨rfl, rfl, by rw [ints_len, hl], by omega, by omega⟩
  refine wn (Ev.ldBox rfl (adrOf_sound rfl) (ld_ok (T := 3) g1 rfl).1 (ld_ok (T := 3) g1 rfl).2) rfl ?_
  first | refine OpsAt.say (d := 55) rfl (y := .v (.int .i64 (l.getD a 0))) (g1) ?_ | refine Run.say (d := 55) rfl (y := .v (.int .i64 (l.getD a 0))) (g1) ?_ | refine OpsR.say (q := 55) rfl (y := .v (.int .i64 (l.getD a 0))) (g1) ?_ | refine OpsB.say (d := 55) rfl (y := .v (.int .i64 (l.getD a 0))) (g1) ?_
  refine wn (wA rfl rfl rfl (by repeat' (first | exact trivial | exact rfl | assumption | apply And.intro)) (callable (by decide)) (c_within g l (l.getD b 0) (l.getD a 0) hg hl)) rfl ?_
  have hng := wTo_gok hg l (l.getD b 0) (l.getD a 0) 32
  have hfr := fore_ref hg hp hs ha hb hle
  have hhr := hind_ref hg hp hs ha hb hle
  obtain ⟨nr, hnr⟩ : ∃ nr, nr = wTo g l (l.getD b 0) (l.getD a 0) 32 := ⟨_, rfl⟩
  rw [← hnr] at hng hfr hhr
  rw [← hnr]
  repeat (first | ((refine wl rfl rfl ?_ ?_); try (first | ((repeat' apply And.intro) <;> first | exact trivial | exact rfl | omega | (simp; done) | (simp; omega)))))
  refine wv rfl rfl (gr_pl nr) (gr_stoAll (z := List.replicate 32 0) hng.1 rfl rfl) rfl ?_
  first | refine OpsAt.sayB (d := 13) rfl (y := gr nr) (rfl) ?_ | refine Run.sayB (d := 13) rfl (y := gr nr) (rfl) ?_
  repeat (first | refine wa ?_ | refine wb ?_ | refine wc ?_ | ((refine wl rfl rfl ?_ ?_)))
  · exact ⟨gr_fits hng.1 rfl, gr_pl nr⟩
  repeat (first | ((refine wl rfl rfl ?_ ?_); try (first | ((repeat' apply And.intro) <;> first | exact trivial | exact rfl | omega | (simp; done) | (simp; omega)))))
  have hpl4 : ((gr nr).get []).pl = true := gr_pl nr
  refine wn (wA rfl rfl rfl (by repeat' (first | exact trivial | exact rfl | assumption | apply And.intro)) (callable (by decide)) (c_rReach nr b hng)) rfl ?_
  repeat (first | ((refine wl rfl rfl ?_ ?_); try (first | ((repeat' apply And.intro) <;> first | exact trivial | exact rfl | omega | (simp; done) | (simp; omega)))))
  refine wn (wA rfl rfl rfl (by repeat' (first | exact trivial | exact rfl | assumption | apply And.intro)) (callable (by decide)) (c_rWith (reachN nr b) b (setOf_lt _))) rfl ?_
  first | refine OpsAt.say (d := 61) rfl (y := S (foreN g l a b)) (by rw [hfr]) ?_ | refine Run.say (d := 61) rfl (y := S (foreN g l a b)) (by rw [hfr]) ?_ | refine OpsR.say (q := 61) rfl (y := S (foreN g l a b)) (by rw [hfr]) ?_ | refine OpsB.say (d := 61) rfl (y := S (foreN g l a b)) (by rw [hfr]) ?_
  repeat (first | refine wa ?_ | refine wb ?_ | refine wc ?_ | ((refine wl rfl rfl ?_ ?_); try (first | ((repeat' apply And.intro) <;> first | exact trivial | exact rfl | omega | (simp; done) | (simp; omega)))))
  · exact ⟨gr_fits hng.1 rfl, gr_pl nr⟩
  skip
  refine wn (wA rfl rfl rfl (by repeat' (first | exact trivial | exact rfl | assumption | apply And.intro)) (callable (by decide)) (c_rTurn nr hng)) rfl ?_
  repeat (first | ((refine wl rfl rfl ?_ ?_); try (first | ((repeat' apply And.intro) <;> first | exact trivial | exact rfl | omega | (simp; done) | (simp; omega)))))
  have hpl5 : (gr (turnG nr)).pl = true := gr_pl _
  refine wn (wA rfl rfl rfl (by repeat' (first | exact trivial | exact rfl | assumption | apply And.intro)) (callable (by decide)) (c_rReach (turnG nr) a (turnG_gok nr))) rfl ?_
  repeat (first | ((refine wl rfl rfl ?_ ?_); try (first | ((repeat' apply And.intro) <;> first | exact trivial | exact rfl | omega | (simp; done) | (simp; omega)))))
  refine wn (wA rfl rfl rfl (by repeat' (first | exact trivial | exact rfl | assumption | apply And.intro)) (callable (by decide)) (c_rWith (reachN (turnG nr) a) a (setOf_lt _))) rfl ?_
  first | refine OpsAt.say (d := 67) rfl (y := S (hindN g l a b)) (by rw [hhr]) ?_ | refine Run.say (d := 67) rfl (y := S (hindN g l a b)) (by rw [hhr]) ?_ | refine OpsR.say (q := 67) rfl (y := S (hindN g l a b)) (by rw [hhr]) ?_ | refine OpsB.say (d := 67) rfl (y := S (hindN g l a b)) (by rw [hhr]) ?_
  repeat (first | refine wa ?_ | refine wb ?_ | refine wc ?_ | ((refine wl rfl rfl ?_ ?_); try (first | ((repeat' apply And.intro) <;> first | exact trivial | exact rfl | omega | (simp; done) | (simp; omega)))))
  refine wn (wA rfl rfl rfl (by repeat' (first | exact trivial | exact rfl | assumption | apply And.intro)) (callable (by decide)) (c_refHas (foreN g l a b) a (setOf_lt _))) rfl ?_
  repeat (first | refine wb ?_)
  refine Run.condB rfl rfl (fun h3 => ?_) (fun h3 => ?_)
  · repeat (first | refine wa ?_)
    refine Run.keep [4, 5, 8, 9, 10] rfl ?_
    refine Run.at (l' := [(4, .box (gr g)), (5, .box (ord l)), (8, .box (gr (List.replicate 32 0))), (9, .box (ord (List.replicate 32 0))), (10, .d (.v (.bool false)))]) rfl ?_
    refine Run.opsB agree mixed rfl rfl ?_
    repeat (first | ((refine yb rfl rfl ?_ ?_)))
    · exact ⟨gr_fits hg.1 rfl, gr_pl g⟩
    repeat (first | ((refine yb rfl rfl ?_ ?_)))
    · exact ⟨ord_fits hl rfl, ord_pl l⟩
    skip
    refine yd rfl rfl (gr_pl g) (gr_stoAll (z := List.replicate 32 0) hg.1 rfl rfl) ?_
    refine yd rfl rfl (ord_pl l) (ord_stoAll (z := List.replicate 32 0) hl rfl rfl) ?_
    repeat (first | refine ya ?_ | ((refine yb rfl rfl ?_ ?_); try (first | exact trivial)))
    refine wD (Ends.tupE agree rfl ⟨⟨gr_fits hg.1 rfl, gr_pl g⟩, ⟨ord_fits hl rfl, ord_pl l⟩, rfl, trivial⟩ rfl ?_)
    simp only [insG, hq, h1', Bool.not_true, Bool.or_false, Bool.false_eq_true, if_false, Int.toNat_natCast, if_neg h2', h3, if_true]; rfl
  have hno : ¬ (foreN g l a b).testBit a = true := by
    have : small (a : Int) = true := by simp [small]; omega
    simpa [hasN, this] using h3
  have hres : insG g l (a : Int) (b : Int) = (g2, newO l (hindN g l a b) (foreN g l a b), true) := by
    simp only [insG, hq, h1', Bool.not_true, Bool.or_false, Bool.false_eq_true, if_false, Int.toNat_natCast, if_neg h2', h3]
  have hap := apart hp hs ha hb hle hno
  rw [hres]
  obtain ⟨F, hFe⟩ : ∃ F, F = foreN g l a b := ⟨_, rfl⟩
  obtain ⟨H, hHe⟩ : ∃ H, H = hindN g l a b := ⟨_, rfl⟩
  have hF64 : F < M64 := by rw [hFe]; exact setOf_lt _
  have hH64 : H < M64 := by rw [hHe]; exact setOf_lt _
  rw [← hFe, ← hHe] at hap
  simp only [← hFe, ← hHe]
  have hcnt := byO_or (l := l) hap
  repeat (first | refine wa ?_ | refine wc ?_ | refine wf ?_ | ((refine wl rfl rfl ?_ ?_)))
  · exact ⟨ord_fits hl rfl, ord_pl l⟩
  skip
  refine wn (wA rfl rfl rfl (by repeat' (first | exact trivial | exact rfl | assumption | apply And.intro)) (callable (by decide)) (c_rRow l hl)) rfl ?_
  obtain ⟨r, hr0⟩ : ∃ r, r = rowOf l 32 := ⟨_, rfl⟩
  have hrl : r.length = 32 := by rw [hr0, rowOf_len]
  have hra : ∀ p, p < 32 → r.getD p 0 = (at' l p : Int) := fun p hpp => by rw [hr0]; exact hp.row hpp
  rw [if_pos hp.right, ← hr0]
  repeat (first | refine wa ?_ | refine wb ?_ | refine wc ?_ | refine wd ?_ | ((refine wl rfl rfl ?_ ?_); try (first | exact trivial | ((repeat' apply And.intro) <;> first | exact trivial | exact rfl | omega | (simp; done) | (simp; omega)))))
  refine Run.ownNil 17 3 1 rfl ?_
  refine Run.ownNil 18 3 1 rfl ?_
  refine Run.keep [5, 8, 9, 10, 11, 14, 15, 16, 17, 18, 19] rfl ?_
  refine Run.at (l' := [(5, .box (ord l)), (8, .box (gr (List.replicate 32 0))), (9, .box (ord (List.replicate 32 0))), (10, .d (.v (.bool false))), (11, .box (gr g2)), (14, .d (S F)), (15, .d (S H)), (16, .d (.lst .any 1 (ints r))), (17, .d (.own (plTo l (F ||| H) 0).isEmpty 3 1 (ints (natI (plTo l (F ||| H) 0))))), (18, .d (.own (ordTo l H 0).isEmpty 3 1 (ints (natI (ordTo l H 0))))), (19, .d (.v (.int .i64 (0 : Nat))))]) rfl ?_
  refine Run.loopL (α := Nat) (fun p => p ≤ 32) (fun p => [(5, .box (ord l)), (8, .box (gr (List.replicate 32 0))), (9, .box (ord (List.replicate 32 0))), (10, .d (.v (.bool false))), (11, .box (gr g2)), (14, .d (S F)), (15, .d (S H)), (16, .d (.lst .any 1 (ints r))), (17, .d (.own (plTo l (F ||| H) p).isEmpty 3 1 (ints (natI (plTo l (F ||| H) p))))), (18, .d (.own (ordTo l H p).isEmpty 3 1 (ints (natI (ordTo l H p))))), (19, .d (.v (.int .i64 p)))]) (fun p => 32 - p) 0 (by decide) ?_
  intro p hpi ih
  have hps1 := plTo_succ l (F ||| H) p
  have hos1 := ordTo_succ l H p
  have hpl0 := plTo_le l (F ||| H) p
  have hol0 := ordTo_le l H p
  obtain ⟨ps, hps⟩ : ∃ ps, ps = plTo l (F ||| H) p := ⟨_, rfl⟩
  obtain ⟨os, hos⟩ : ∃ os, os = ordTo l H p := ⟨_, rfl⟩
  rw [← hps] at hps1 hpl0
  rw [← hos] at hos1 hol0
  refine Run.at (l' := [(5, .box (ord l)), (8, .box (gr (List.replicate 32 0))), (9, .box (ord (List.replicate 32 0))), (10, .d (.v (.bool false))), (11, .box (gr g2)), (14, .d (S F)), (15, .d (S H)), (16, .d (.lst .any 1 (ints r))), (17, .d (.own (ps).isEmpty 3 1 (ints (natI (ps))))), (18, .d (.own (os).isEmpty 3 1 (ints (natI (os))))), (19, .d (.v (.int .i64 p)))]) (by rw [hps, hos]) ?_
  repeat (first | refine wa ?_ | refine wb ?_ | refine wc ?_ | ((first | refine wl rfl rfl ?_ ?_ | refine wn (wp rfl rfl rfl rfl rfl ?_) rfl ?_); try (first | ((repeat' apply And.intro) <;> first | exact trivial | exact rfl | omega | (simp; done) | (simp; omega)))))
  refine Run.condB rfl rfl (fun hb => ?_) (fun hb => ?_)
  · have hp2 : p < 32 := by simp at hb; omega
    obtain ⟨x, hx⟩ : ∃ x, x = at' l p := ⟨_, rfl⟩
    have hx32 : x < 32 := by rw [hx]; exact (hp.pl_at hp2).2
    have hgd : (ints r).getD ((p : Int)).toNat un = .v (.int .i64 (x : Nat)) := by rw [hx, ← hra p hp2]; simp [ints, hrl, hp2]
    rw [← hx, Nat.testBit_or] at hps1
    rw [← hx] at hos1
    repeat (first | refine wa ?_ | refine wc ?_ | refine wd ?_ | refine wf ?_ | ((refine wl rfl rfl ?_ ?_); try (first | ((repeat' apply And.intro) <;> first | exact trivial | exact rfl | omega | (simp; done) | (simp; omega)))))
    · exact ⟨rfl, rfl, by omega, by rw [ints_len]; omega⟩
    first | refine OpsAt.say (d := 82) rfl (y := .pt (.v (.int .i64 (x : Nat)))) (congrArg D.pt hgd) ?_ | refine Run.say (d := 82) rfl (y := .pt (.v (.int .i64 (x : Nat)))) (congrArg D.pt hgd) ?_ | refine OpsR.say (q := 82) rfl (y := .pt (.v (.int .i64 (x : Nat)))) (congrArg D.pt hgd) ?_ | refine OpsB.say (d := 82) rfl (y := .pt (.v (.int .i64 (x : Nat)))) (congrArg D.pt hgd) ?_
    repeat (first | ((refine wl rfl rfl ?_ ?_); try (first | ((repeat' apply And.intro) <;> first | exact trivial | exact rfl | omega | (simp; done) | (simp; omega)))))
    refine wn (wA rfl rfl rfl (by repeat' (first | exact trivial | exact rfl | assumption | apply And.intro)) (callable (by decide)) (c_refHas H x hH64)) rfl ?_
    first | refine OpsAt.say (d := 84) rfl (y := .v (.bool (H.testBit x))) (by rw [has_nat _ _ (by omega)]) ?_ | refine Run.say (d := 84) rfl (y := .v (.bool (H.testBit x))) (by rw [has_nat _ _ (by omega)]) ?_ | refine OpsR.say (q := 84) rfl (y := .v (.bool (H.testBit x))) (by rw [has_nat _ _ (by omega)]) ?_ | refine OpsB.say (d := 84) rfl (y := .v (.bool (H.testBit x))) (by rw [has_nat _ _ (by omega)]) ?_
    repeat (first | refine wb ?_)
    refine Run.condB rfl rfl (fun hH => ?_) (fun hH => ?_)
    · rw [hH, Bool.or_true, if_pos rfl] at hps1
      rw [if_pos hH] at hos1
      repeat (first | refine wc ?_ | ((refine wl rfl rfl ?_ ?_); try (first | exact trivial | ((repeat' apply And.intro) <;> first | exact trivial | exact rfl | omega | (simp; done) | (simp; omega)))))
      · exact ⟨rfl, rfl, by omega, by rw [ints_len]; omega⟩
      first | refine OpsAt.say (d := 88) rfl (y := .pt (.v (.int .i64 (x : Nat)))) (congrArg D.pt hgd) ?_ | refine Run.say (d := 88) rfl (y := .pt (.v (.int .i64 (x : Nat)))) (congrArg D.pt hgd) ?_ | refine OpsR.say (q := 88) rfl (y := .pt (.v (.int .i64 (x : Nat)))) (congrArg D.pt hgd) ?_ | refine OpsB.say (d := 88) rfl (y := .pt (.v (.int .i64 (x : Nat)))) (congrArg D.pt hgd) ?_
      repeat (first | ((refine wl rfl rfl ?_ ?_); try (first | ((repeat' apply And.intro) <;> first | exact trivial | exact rfl | omega | (simp; done) | (simp; omega)))) | (refine wx rfl rfl (.vw (vwOf_sound rfl)) rfl rfl ?_ ?_ rfl ?_; (try (simp <;> omega)); (try (first | (simp <;> omega) | (simp [maxLen] <;> omega)))))
      skip
      · simp only [ints_len, natI_len, List.length_singleton]; omega
      · simp only [ints_len, natI_len, List.length_singleton, maxLen]; omega
      first | refine OpsAt.say (d := 91) rfl (y := .own (ordTo l H (p + 1)).isEmpty 3 1 (ints (natI (ordTo l H (p + 1))))) (by rw [hos1]; simp [ints, natI]) ?_ | refine Run.say (d := 91) rfl (y := .own (ordTo l H (p + 1)).isEmpty 3 1 (ints (natI (ordTo l H (p + 1))))) (by rw [hos1]; simp [ints, natI]) ?_ | refine OpsR.say (q := 91) rfl (y := .own (ordTo l H (p + 1)).isEmpty 3 1 (ints (natI (ordTo l H (p + 1))))) (by rw [hos1]; simp [ints, natI]) ?_ | refine OpsB.say (d := 91) rfl (y := .own (ordTo l H (p + 1)).isEmpty 3 1 (ints (natI (ordTo l H (p + 1))))) (by rw [hos1]; simp [ints, natI]) ?_
      repeat (first | refine wa ?_ | refine wb ?_ | refine wc ?_ | ((refine wl rfl rfl ?_ ?_); try (first | ((repeat' apply And.intro) <;> first | exact trivial | exact rfl | omega | (simp; done) | (simp; omega)))) | refine ww rfl rfl rfl ?_)
      · exact ⟨rfl, rfl, by omega, by rw [ints_len]; omega⟩
      first | refine OpsAt.say (d := 95) rfl (y := .pt (.v (.int .i64 (x : Nat)))) (congrArg D.pt hgd) ?_ | refine Run.say (d := 95) rfl (y := .pt (.v (.int .i64 (x : Nat)))) (congrArg D.pt hgd) ?_ | refine OpsR.say (q := 95) rfl (y := .pt (.v (.int .i64 (x : Nat)))) (congrArg D.pt hgd) ?_ | refine OpsB.say (d := 95) rfl (y := .pt (.v (.int .i64 (x : Nat)))) (congrArg D.pt hgd) ?_
      repeat (first | ((refine wl rfl rfl ?_ ?_); try (first | ((repeat' apply And.intro) <;> first | exact trivial | exact rfl | omega | (simp; done) | (simp; omega)))))
      refine wn (wA rfl rfl rfl (by repeat' (first | exact trivial | exact rfl | assumption | apply And.intro)) (callable (by decide)) (c_refHas H x hH64)) rfl ?_
      first | refine OpsAt.say (d := 97) rfl (y := .v (.bool true)) (by rw [has_nat _ _ (by omega), hH]) ?_ | refine Run.say (d := 97) rfl (y := .v (.bool true)) (by rw [has_nat _ _ (by omega), hH]) ?_ | refine OpsR.say (q := 97) rfl (y := .v (.bool true)) (by rw [has_nat _ _ (by omega), hH]) ?_ | refine OpsB.say (d := 97) rfl (y := .v (.bool true)) (by rw [has_nat _ _ (by omega), hH]) ?_
      repeat (first | refine wb ?_ | refine wc ?_ | ((first | refine wl rfl rfl ?_ ?_ | refine wt rfl ?_ ?_); try (first | exact trivial | ((repeat' apply And.intro) <;> first | exact trivial | exact rfl | omega | (simp; done) | (simp; omega)))) | refine ws rfl rfl ?_ | (refine wx rfl rfl (.vw (vwOf_sound rfl)) rfl rfl ?_ ?_ rfl ?_; (try (simp <;> omega)); (try (first | (simp <;> omega) | (simp [maxLen] <;> omega)))))
      · simp only [ints_len, natI_len, List.length_singleton]; omega
      · simp only [ints_len, natI_len, List.length_singleton, maxLen]; omega
      first | refine OpsAt.say (d := 109) rfl (y := .own (plTo l (F ||| H) (p + 1)).isEmpty 3 1 (ints (natI (plTo l (F ||| H) (p + 1))))) (by rw [hps1]; simp [ints, natI]) ?_ | refine Run.say (d := 109) rfl (y := .own (plTo l (F ||| H) (p + 1)).isEmpty 3 1 (ints (natI (plTo l (F ||| H) (p + 1))))) (by rw [hps1]; simp [ints, natI]) ?_ | refine OpsR.say (q := 109) rfl (y := .own (plTo l (F ||| H) (p + 1)).isEmpty 3 1 (ints (natI (plTo l (F ||| H) (p + 1))))) (by rw [hps1]; simp [ints, natI]) ?_ | refine OpsB.say (d := 109) rfl (y := .own (plTo l (F ||| H) (p + 1)).isEmpty 3 1 (ints (natI (plTo l (F ||| H) (p + 1))))) (by rw [hps1]; simp [ints, natI]) ?_
      repeat (first | refine wb ?_ | refine wc ?_ | refine we ?_ | ((first | refine wl rfl rfl ?_ ?_ | refine wn (wp rfl rfl rfl rfl rfl ?_) rfl ?_); try (first | ((repeat' apply And.intro) <;> first | exact trivial | exact rfl | omega | (simp; done) | (simp; omega)))) | refine ww rfl rfl rfl ?_)
      first | refine OpsAt.say (d := 19) rfl (y := .v (.int .i64 (p + 1 : Nat))) (by rw [wrap64_in ((p : Int) + 1) (by omega)]; simp) ?_ | refine Run.say (d := 19) rfl (y := .v (.int .i64 (p + 1 : Nat))) (by rw [wrap64_in ((p : Int) + 1) (by omega)]; simp) ?_ | refine OpsR.say (q := 19) rfl (y := .v (.int .i64 (p + 1 : Nat))) (by rw [wrap64_in ((p : Int) + 1) (by omega)]; simp) ?_ | refine OpsB.say (d := 19) rfl (y := .v (.int .i64 (p + 1 : Nat))) (by rw [wrap64_in ((p : Int) + 1) (by omega)]; simp) ?_
      refine Run.keep [5, 8, 9, 10, 11, 14, 15, 16, 17, 18, 19] rfl ?_
      exact ih (p + 1) (by omega) (by omega)
    · rw [hH, Bool.or_false] at hps1
      rw [hH] at hos1
      repeat (first | refine wa ?_ | refine wc ?_ | refine wf ?_ | ((refine wl rfl rfl ?_ ?_); try (first | ((repeat' apply And.intro) <;> first | exact trivial | exact rfl | omega | (simp; done) | (simp; omega)))))
      · exact ⟨rfl, rfl, by omega, by rw [ints_len]; omega⟩
      first | refine OpsAt.say (d := 95) rfl (y := .pt (.v (.int .i64 (x : Nat)))) (congrArg D.pt hgd) ?_ | refine Run.say (d := 95) rfl (y := .pt (.v (.int .i64 (x : Nat)))) (congrArg D.pt hgd) ?_ | refine OpsR.say (q := 95) rfl (y := .pt (.v (.int .i64 (x : Nat)))) (congrArg D.pt hgd) ?_ | refine OpsB.say (d := 95) rfl (y := .pt (.v (.int .i64 (x : Nat)))) (congrArg D.pt hgd) ?_
      repeat (first | ((refine wl rfl rfl ?_ ?_); try (first | ((repeat' apply And.intro) <;> first | exact trivial | exact rfl | omega | (simp; done) | (simp; omega)))))
      refine wn (wA rfl rfl rfl (by repeat' (first | exact trivial | exact rfl | assumption | apply And.intro)) (callable (by decide)) (c_refHas H x hH64)) rfl ?_
      first | refine OpsAt.say (d := 97) rfl (y := .v (.bool false)) (by rw [has_nat _ _ (by omega), hH]) ?_ | refine Run.say (d := 97) rfl (y := .v (.bool false)) (by rw [has_nat _ _ (by omega), hH]) ?_ | refine OpsR.say (q := 97) rfl (y := .v (.bool false)) (by rw [has_nat _ _ (by omega), hH]) ?_ | refine OpsB.say (d := 97) rfl (y := .v (.bool false)) (by rw [has_nat _ _ (by omega), hH]) ?_
      repeat (first | ((first | refine wl rfl rfl ?_ ?_ | refine wm rfl rfl rfl ?_ ?_); try (first | ((repeat' apply And.intro) <;> first | exact trivial | exact rfl | omega | (simp; done) | (simp; omega)))))
      · exact ⟨rfl, rfl, by omega, by rw [ints_len]; omega⟩
      first | refine OpsAt.say (d := 102) rfl (y := .pt (.v (.int .i64 (x : Nat)))) (congrArg D.pt hgd) ?_ | refine Run.say (d := 102) rfl (y := .pt (.v (.int .i64 (x : Nat)))) (congrArg D.pt hgd) ?_ | refine OpsR.say (q := 102) rfl (y := .pt (.v (.int .i64 (x : Nat)))) (congrArg D.pt hgd) ?_ | refine OpsB.say (d := 102) rfl (y := .pt (.v (.int .i64 (x : Nat)))) (congrArg D.pt hgd) ?_
      repeat (first | ((refine wm rfl rfl rfl ?_ ?_); try (first | ((repeat' apply And.intro) <;> first | exact trivial | exact rfl | omega | (simp; done) | (simp; omega)))))
      refine wo rfl (wA rfl rfl rfl (by repeat' (first | exact trivial | exact rfl | assumption | apply And.intro)) (callable (by decide)) (c_refHas F x hF64)) rfl ?_
      first | refine OpsAt.say (d := 104) rfl (y := .v (.bool (F.testBit x))) (by rw [has_nat _ _ (by omega)]) ?_ | refine Run.say (d := 104) rfl (y := .v (.bool (F.testBit x))) (by rw [has_nat _ _ (by omega)]) ?_ | refine OpsR.say (q := 104) rfl (y := .v (.bool (F.testBit x))) (by rw [has_nat _ _ (by omega)]) ?_ | refine OpsB.say (d := 104) rfl (y := .v (.bool (F.testBit x))) (by rw [has_nat _ _ (by omega)]) ?_
      repeat (first | refine wb ?_ | ((refine wl rfl rfl ?_ ?_); try (first | ((repeat' apply And.intro) <;> first | exact trivial | exact rfl | omega | (simp; done) | (simp; omega)))))
      first | refine OpsAt.say (d := 18) rfl (y := .own (ordTo l H (p + 1)).isEmpty 3 1 (ints (natI (ordTo l H (p + 1))))) (by rw [hos1]; rfl) ?_ | refine Run.say (d := 18) rfl (y := .own (ordTo l H (p + 1)).isEmpty 3 1 (ints (natI (ordTo l H (p + 1))))) (by rw [hos1]; rfl) ?_ | refine OpsR.say (q := 18) rfl (y := .own (ordTo l H (p + 1)).isEmpty 3 1 (ints (natI (ordTo l H (p + 1))))) (by rw [hos1]; rfl) ?_ | refine OpsB.say (d := 18) rfl (y := .own (ordTo l H (p + 1)).isEmpty 3 1 (ints (natI (ordTo l H (p + 1))))) (by rw [hos1]; rfl) ?_
      refine Run.condB rfl rfl (fun hF => ?_) (fun hF => ?_)
      · rw [if_pos hF] at hps1
        repeat (first | refine wc ?_ | ((refine wl rfl rfl ?_ ?_); try (first | exact trivial | ((repeat' apply And.intro) <;> first | exact trivial | exact rfl | omega | (simp; done) | (simp; omega)))) | (refine wx rfl rfl (.vw (vwOf_sound rfl)) rfl rfl ?_ ?_ rfl ?_; (try (simp <;> omega)); (try (first | (simp <;> omega) | (simp [maxLen] <;> omega)))))
        · simp only [ints_len, natI_len, List.length_singleton]; omega
        · simp only [ints_len, natI_len, List.length_singleton, maxLen]; omega
        first | refine OpsAt.say (d := 109) rfl (y := .own (plTo l (F ||| H) (p + 1)).isEmpty 3 1 (ints (natI (plTo l (F ||| H) (p + 1))))) (by rw [hps1]; simp [ints, natI]) ?_ | refine Run.say (d := 109) rfl (y := .own (plTo l (F ||| H) (p + 1)).isEmpty 3 1 (ints (natI (plTo l (F ||| H) (p + 1))))) (by rw [hps1]; simp [ints, natI]) ?_ | refine OpsR.say (q := 109) rfl (y := .own (plTo l (F ||| H) (p + 1)).isEmpty 3 1 (ints (natI (plTo l (F ||| H) (p + 1))))) (by rw [hps1]; simp [ints, natI]) ?_ | refine OpsB.say (d := 109) rfl (y := .own (plTo l (F ||| H) (p + 1)).isEmpty 3 1 (ints (natI (plTo l (F ||| H) (p + 1))))) (by rw [hps1]; simp [ints, natI]) ?_
        repeat (first | refine wb ?_ | refine wc ?_ | refine we ?_ | ((first | refine wl rfl rfl ?_ ?_ | refine wn (wp rfl rfl rfl rfl rfl ?_) rfl ?_); try (first | ((repeat' apply And.intro) <;> first | exact trivial | exact rfl | omega | (simp; done) | (simp; omega)))) | refine ww rfl rfl rfl ?_)
        first | refine OpsAt.say (d := 19) rfl (y := .v (.int .i64 (p + 1 : Nat))) (by rw [wrap64_in ((p : Int) + 1) (by omega)]; simp) ?_ | refine Run.say (d := 19) rfl (y := .v (.int .i64 (p + 1 : Nat))) (by rw [wrap64_in ((p : Int) + 1) (by omega)]; simp) ?_ | refine OpsR.say (q := 19) rfl (y := .v (.int .i64 (p + 1 : Nat))) (by rw [wrap64_in ((p : Int) + 1) (by omega)]; simp) ?_ | refine OpsB.say (d := 19) rfl (y := .v (.int .i64 (p + 1 : Nat))) (by rw [wrap64_in ((p : Int) + 1) (by omega)]; simp) ?_
        refine Run.keep [5, 8, 9, 10, 11, 14, 15, 16, 17, 18, 19] rfl ?_
        exact ih (p + 1) (by omega) (by omega)
      · rw [hF] at hps1
        repeat (first | refine wb ?_ | refine wc ?_ | refine we ?_ | refine wf ?_ | ((first | refine wl rfl rfl ?_ ?_ | refine wn (wp rfl rfl rfl rfl rfl ?_) rfl ?_); try (first | ((repeat' apply And.intro) <;> first | exact trivial | exact rfl | omega | (simp; done) | (simp; omega)))))
        first | refine OpsAt.say (d := 17) rfl (y := .own (plTo l (F ||| H) (p + 1)).isEmpty 3 1 (ints (natI (plTo l (F ||| H) (p + 1))))) (by rw [hps1]; rfl) ?_ | refine Run.say (d := 17) rfl (y := .own (plTo l (F ||| H) (p + 1)).isEmpty 3 1 (ints (natI (plTo l (F ||| H) (p + 1))))) (by rw [hps1]; rfl) ?_ | refine OpsR.say (q := 17) rfl (y := .own (plTo l (F ||| H) (p + 1)).isEmpty 3 1 (ints (natI (plTo l (F ||| H) (p + 1))))) (by rw [hps1]; rfl) ?_ | refine OpsB.say (d := 17) rfl (y := .own (plTo l (F ||| H) (p + 1)).isEmpty 3 1 (ints (natI (plTo l (F ||| H) (p + 1))))) (by rw [hps1]; rfl) ?_
        first | refine OpsAt.say (d := 19) rfl (y := .v (.int .i64 (p + 1 : Nat))) (by rw [wrap64_in ((p : Int) + 1) (by omega)]; simp) ?_ | refine Run.say (d := 19) rfl (y := .v (.int .i64 (p + 1 : Nat))) (by rw [wrap64_in ((p : Int) + 1) (by omega)]; simp) ?_ | refine OpsR.say (q := 19) rfl (y := .v (.int .i64 (p + 1 : Nat))) (by rw [wrap64_in ((p : Int) + 1) (by omega)]; simp) ?_ | refine OpsB.say (d := 19) rfl (y := .v (.int .i64 (p + 1 : Nat))) (by rw [wrap64_in ((p : Int) + 1) (by omega)]; simp) ?_
        refine Run.keep [5, 8, 9, 10, 11, 14, 15, 16, 17, 18, 19] rfl ?_
        exact ih (p + 1) (by omega) (by omega)
  have hp2 : p = 32 := by simp at hb; omega
  subst hp2
  repeat (first | refine wa ?_ | refine wb ?_ | refine wc ?_ | refine wd ?_ | ((refine wl rfl rfl ?_ ?_); try (first | exact trivial)) | refine wj rfl ?_)
  clear ih hps1 hos1
  have hol := ordTo_le l H 32
  rw [← hos] at hol
  refine Run.keep [5, 8, 9, 10, 11, 14, 16, 17, 18, 20] rfl ?_
  refine Run.at (l' := [(5, .box (ord l)), (8, .box (gr (List.replicate 32 0))), (9, .box (ord (List.replicate 32 0))), (10, .d (.v (.bool false))), (11, .box (gr g2)), (14, .d (S F)), (16, .d (.lst .any 1 (ints r))), (17, .d (.own (ps).isEmpty 3 1 (ints (natI (ps))))), (18, .d (.own (os ++ ordTo l F 0).isEmpty 3 1 (ints (natI (os ++ ordTo l F 0))))), (20, .d (.v (.int .i64 (0 : Nat))))]) (by rw [show ordTo l F 0 = [] from rfl, List.append_nil]; rfl) ?_
  refine Run.loopL (α := Nat) (fun p => p ≤ 32) (fun p => [(5, .box (ord l)), (8, .box (gr (List.replicate 32 0))), (9, .box (ord (List.replicate 32 0))), (10, .d (.v (.bool false))), (11, .box (gr g2)), (14, .d (S F)), (16, .d (.lst .any 1 (ints r))), (17, .d (.own (ps).isEmpty 3 1 (ints (natI (ps))))), (18, .d (.own (os ++ ordTo l F p).isEmpty 3 1 (ints (natI (os ++ ordTo l F p))))), (20, .d (.v (.int .i64 p)))]) (fun p => 32 - p) 0 (by decide) ?_
  intro p hpi2 ih
  have hfs1 := ordTo_succ l F p
  have hfl0 := ordTo_le l F p
  obtain ⟨fs, hfs⟩ : ∃ fs, fs = ordTo l F p := ⟨_, rfl⟩
  rw [← hfs] at hfs1 hfl0
  have hcl : (os ++ fs).length ≤ 64 := by rw [List.length_append]; omega
  obtain ⟨cs, hcs⟩ : ∃ cs, cs = os ++ fs := ⟨_, rfl⟩
  rw [← hcs] at hcl
  refine Run.at (l' := [(5, .box (ord l)), (8, .box (gr (List.replicate 32 0))), (9, .box (ord (List.replicate 32 0))), (10, .d (.v (.bool false))), (11, .box (gr g2)), (14, .d (S F)), (16, .d (.lst .any 1 (ints r))), (17, .d (.own (ps).isEmpty 3 1 (ints (natI (ps))))), (18, .d (.own (cs).isEmpty 3 1 (ints (natI (cs))))), (20, .d (.v (.int .i64 p)))]) (by rw [hcs, hfs]) ?_
  repeat (first | refine wa ?_ | refine wb ?_ | refine wc ?_ | ((first | refine wl rfl rfl ?_ ?_ | refine wn (wp rfl rfl rfl rfl rfl ?_) rfl ?_); try (first | ((repeat' apply And.intro) <;> first | exact trivial | exact rfl | omega | (simp; done) | (simp; omega)))))
  refine Run.condB rfl rfl (fun hb2 => ?_) (fun hb2 => ?_)
  · have hp2 : p < 32 := by simp at hb2; omega
    obtain ⟨x, hx⟩ : ∃ x, x = at' l p := ⟨_, rfl⟩
    have hx32 : x < 32 := by rw [hx]; exact (hp.pl_at hp2).2
    have hgd : (ints r).getD ((p : Int)).toNat un = .v (.int .i64 (x : Nat)) := by rw [hx, ← hra p hp2]; simp [ints, hrl, hp2]
    rw [← hx] at hfs1
    repeat (first | refine wa ?_ | refine wc ?_ | refine wd ?_ | refine wf ?_ | ((refine wl rfl rfl ?_ ?_); try (first | ((repeat' apply And.intro) <;> first | exact trivial | exact rfl | omega | (simp; done) | (simp; omega)))))
    · exact ⟨rfl, rfl, by omega, by rw [ints_len]; omega⟩
    first | refine OpsAt.say (d := 117) rfl (y := .pt (.v (.int .i64 (x : Nat)))) (congrArg D.pt hgd) ?_ | refine Run.say (d := 117) rfl (y := .pt (.v (.int .i64 (x : Nat)))) (congrArg D.pt hgd) ?_ | refine OpsR.say (q := 117) rfl (y := .pt (.v (.int .i64 (x : Nat)))) (congrArg D.pt hgd) ?_ | refine OpsB.say (d := 117) rfl (y := .pt (.v (.int .i64 (x : Nat)))) (congrArg D.pt hgd) ?_
    repeat (first | ((refine wl rfl rfl ?_ ?_); try (first | ((repeat' apply And.intro) <;> first | exact trivial | exact rfl | omega | (simp; done) | (simp; omega)))))
    refine wn (wA rfl rfl rfl (by repeat' (first | exact trivial | exact rfl | assumption | apply And.intro)) (callable (by decide)) (c_refHas F x hF64)) rfl ?_
    first | refine OpsAt.say (d := 119) rfl (y := .v (.bool (F.testBit x))) (by rw [has_nat _ _ (by omega)]) ?_ | refine Run.say (d := 119) rfl (y := .v (.bool (F.testBit x))) (by rw [has_nat _ _ (by omega)]) ?_ | refine OpsR.say (q := 119) rfl (y := .v (.bool (F.testBit x))) (by rw [has_nat _ _ (by omega)]) ?_ | refine OpsB.say (d := 119) rfl (y := .v (.bool (F.testBit x))) (by rw [has_nat _ _ (by omega)]) ?_
    repeat (first | refine wb ?_)
    refine Run.condB rfl rfl (fun hF => ?_) (fun hF => ?_)
    · rw [if_pos hF] at hfs1
      repeat (first | refine wc ?_ | ((refine wl rfl rfl ?_ ?_); try (first | exact trivial | ((repeat' apply And.intro) <;> first | exact trivial | exact rfl | omega | (simp; done) | (simp; omega)))))
      · exact ⟨rfl, rfl, by omega, by rw [ints_len]; omega⟩
      first | refine OpsAt.say (d := 123) rfl (y := .pt (.v (.int .i64 (x : Nat)))) (congrArg D.pt hgd) ?_ | refine Run.say (d := 123) rfl (y := .pt (.v (.int .i64 (x : Nat)))) (congrArg D.pt hgd) ?_ | refine OpsR.say (q := 123) rfl (y := .pt (.v (.int .i64 (x : Nat)))) (congrArg D.pt hgd) ?_ | refine OpsB.say (d := 123) rfl (y := .pt (.v (.int .i64 (x : Nat)))) (congrArg D.pt hgd) ?_
      repeat (first | ((refine wl rfl rfl ?_ ?_); try (first | ((repeat' apply And.intro) <;> first | exact trivial | exact rfl | omega | (simp; done) | (simp; omega)))) | (refine wx rfl rfl (.vw (vwOf_sound rfl)) rfl rfl ?_ ?_ rfl ?_; (try (simp <;> omega)); (try (first | (simp <;> omega) | (simp [maxLen] <;> omega)))))
      · simp only [ints_len, natI_len, List.length_singleton]; omega
      · simp only [ints_len, natI_len, List.length_singleton, maxLen]; omega
      first | refine OpsAt.say (d := 126) rfl (y := .own (os ++ ordTo l F (p + 1)).isEmpty 3 1 (ints (natI (os ++ ordTo l F (p + 1))))) (by rw [hfs1, ← List.append_assoc, ← hcs]; simp [ints, natI]) ?_ | refine Run.say (d := 126) rfl (y := .own (os ++ ordTo l F (p + 1)).isEmpty 3 1 (ints (natI (os ++ ordTo l F (p + 1))))) (by rw [hfs1, ← List.append_assoc, ← hcs]; simp [ints, natI]) ?_ | refine OpsR.say (q := 126) rfl (y := .own (os ++ ordTo l F (p + 1)).isEmpty 3 1 (ints (natI (os ++ ordTo l F (p + 1))))) (by rw [hfs1, ← List.append_assoc, ← hcs]; simp [ints, natI]) ?_ | refine OpsB.say (d := 126) rfl (y := .own (os ++ ordTo l F (p + 1)).isEmpty 3 1 (ints (natI (os ++ ordTo l F (p + 1))))) (by rw [hfs1, ← List.append_assoc, ← hcs]; simp [ints, natI]) ?_
      repeat (first | refine wb ?_ | refine wc ?_ | refine we ?_ | ((first | refine wl rfl rfl ?_ ?_ | refine wn (wp rfl rfl rfl rfl rfl ?_) rfl ?_); try (first | ((repeat' apply And.intro) <;> first | exact trivial | exact rfl | omega | (simp; done) | (simp; omega)))) | refine ww rfl rfl rfl ?_)
      first | refine OpsAt.say (d := 20) rfl (y := .v (.int .i64 (p + 1 : Nat))) (by rw [wrap64_in ((p : Int) + 1) (by omega)]; simp) ?_ | refine Run.say (d := 20) rfl (y := .v (.int .i64 (p + 1 : Nat))) (by rw [wrap64_in ((p : Int) + 1) (by omega)]; simp) ?_ | refine OpsR.say (q := 20) rfl (y := .v (.int .i64 (p + 1 : Nat))) (by rw [wrap64_in ((p : Int) + 1) (by omega)]; simp) ?_ | refine OpsB.say (d := 20) rfl (y := .v (.int .i64 (p + 1 : Nat))) (by rw [wrap64_in ((p : Int) + 1) (by omega)]; simp) ?_
      refine Run.keep [5, 8, 9, 10, 11, 14, 16, 17, 18, 20] rfl ?_
      exact ih (p + 1) (by omega) (by omega)
    · rw [hF] at hfs1
      repeat (first | refine wb ?_ | refine wc ?_ | refine we ?_ | refine wf ?_ | ((first | refine wl rfl rfl ?_ ?_ | refine wn (wp rfl rfl rfl rfl rfl ?_) rfl ?_); try (first | ((repeat' apply And.intro) <;> first | exact trivial | exact rfl | omega | (simp; done) | (simp; omega)))))
      first | refine OpsAt.say (d := 18) rfl (y := .own (os ++ ordTo l F (p + 1)).isEmpty 3 1 (ints (natI (os ++ ordTo l F (p + 1))))) (by rw [hfs1, hcs]; rfl) ?_ | refine Run.say (d := 18) rfl (y := .own (os ++ ordTo l F (p + 1)).isEmpty 3 1 (ints (natI (os ++ ordTo l F (p + 1))))) (by rw [hfs1, hcs]; rfl) ?_ | refine OpsR.say (q := 18) rfl (y := .own (os ++ ordTo l F (p + 1)).isEmpty 3 1 (ints (natI (os ++ ordTo l F (p + 1))))) (by rw [hfs1, hcs]; rfl) ?_ | refine OpsB.say (d := 18) rfl (y := .own (os ++ ordTo l F (p + 1)).isEmpty 3 1 (ints (natI (os ++ ordTo l F (p + 1))))) (by rw [hfs1, hcs]; rfl) ?_
      first | refine OpsAt.say (d := 20) rfl (y := .v (.int .i64 (p + 1 : Nat))) (by rw [wrap64_in ((p : Int) + 1) (by omega)]; simp) ?_ | refine Run.say (d := 20) rfl (y := .v (.int .i64 (p + 1 : Nat))) (by rw [wrap64_in ((p : Int) + 1) (by omega)]; simp) ?_ | refine OpsR.say (q := 20) rfl (y := .v (.int .i64 (p + 1 : Nat))) (by rw [wrap64_in ((p : Int) + 1) (by omega)]; simp) ?_ | refine OpsB.say (d := 20) rfl (y := .v (.int .i64 (p + 1 : Nat))) (by rw [wrap64_in ((p : Int) + 1) (by omega)]; simp) ?_
      refine Run.keep [5, 8, 9, 10, 11, 14, 16, 17, 18, 20] rfl ?_
      exact ih (p + 1) (by omega) (by omega)
  have hp2 : p = 32 := by simp at hb2; omega
  subst hp2
  have hcsb : cs = byO l H ++ byO l F := by rw [hcs, hos, hfs]; rfl
  have hpsb : ps = (byO l (F ||| H)).map (pl l) := by rw [hps, plTo_all hp]
  have hyp : cs.length = ps.length := by rw [hcsb, hpsb, List.length_append, List.length_map, hcnt]
  have hy32 : ∀ x ∈ cs, x < 32 := fun x hx => by
    rw [hcsb, List.mem_append, hp.byO_mem, hp.byO_mem] at hx
    rcases hx with h | h <;> exact h.1
  have hnew : newO l H F = assign l cs ps := by rw [newO, hcsb, hpsb]
  clear ih
  repeat (first | refine wa ?_ | refine wb ?_ | refine wc ?_ | refine wd ?_ | ((refine wl rfl rfl ?_ ?_); try (first | exact trivial)) | refine wj rfl ?_)
  refine Run.keep [5, 8, 9, 10, 11, 17, 18, 21] rfl ?_
  obtain ⟨n1, hn1⟩ : ∃ n1, n1 = ps.isEmpty := ⟨_, rfl⟩
  obtain ⟨n2, hn2⟩ : ∃ n2, n2 = cs.isEmpty := ⟨_, rfl⟩
  refine Run.at (l' := [(5, .box (ord l)), (8, .box (gr (List.replicate 32 0))), (9, .box (ord (List.replicate 32 0))), (10, .d (.v (.bool false))), (11, .box (gr g2)), (17, .d (.own n1 3 1 (ints (natI ps)))), (18, .d (.own n2 3 1 (ints (natI cs)))), (21, .d (.v (.int .i64 (0 : Nat))))]) (by rw [hn1, hn2]; rfl) ?_
  refine Run.loopL (α := (List Nat × List Nat) × (List Nat × List Nat)) (fun q => cs = q.1.1 ++ q.1.2 ∧ ps = q.2.1 ++ q.2.2 ∧ q.1.1.length = q.2.1.length) (fun q => [(5, .box (ord (assign l q.1.1 q.2.1))), (8, .box (gr (List.replicate 32 0))), (9, .box (ord (List.replicate 32 0))), (10, .d (.v (.bool false))), (11, .box (gr g2)), (17, .d (.own n1 3 1 (ints (natI ps)))), (18, .d (.own n2 3 1 (ints (natI cs)))), (21, .d (.v (.int .i64 q.1.1.length)))]) (fun q => q.1.2.length) (([], cs), ([], ps)) ⟨rfl, rfl, rfl⟩ ?_
  rintro ⟨⟨pre, post⟩, ⟨qre, qost⟩⟩ ⟨hpp, hqq, hpq⟩ ih
  simp only at hpp hqq hpq
  have hlen : cs.length = pre.length + post.length := by rw [hpp]; simp
  have hleq : ps.length = qre.length + qost.length := by rw [hqq]; simp
  have hla : (assign l pre qre).length = 32 := by rw [assign_len, hl]
  refine Run.at (l' := [(5, .box (ord (assign l pre qre))), (8, .box (gr (List.replicate 32 0))), (9, .box (ord (List.replicate 32 0))), (10, .d (.v (.bool false))), (11, .box (gr g2)), (17, .d (.own n1 3 1 (ints (natI ps)))), (18, .d (.own n2 3 1 (ints (natI cs)))), (21, .d (.v (.int .i64 pre.length)))]) rfl ?_
  repeat (first | refine wa ?_ | refine wb ?_ | refine wc ?_ | ((first | refine wl rfl rfl ?_ ?_ | refine wn (wp rfl rfl rfl rfl rfl ?_) rfl ?_ | refine xa agree rfl rfl ?_ ?_); try (first | exact trivial | ((repeat' apply And.intro) <;> first | exact trivial | exact rfl | omega | (simp; done) | (simp; omega)))))
  first | refine OpsAt.say (d := 130) rfl (y := .v (.bool (decide ((pre.length : Int) < (ps.length : Int))))) (by rw [ints_len, natI_len]) ?_ | refine Run.say (d := 130) rfl (y := .v (.bool (decide ((pre.length : Int) < (ps.length : Int))))) (by rw [ints_len, natI_len]) ?_ | refine OpsR.say (q := 130) rfl (y := .v (.bool (decide ((pre.length : Int) < (ps.length : Int))))) (by rw [ints_len, natI_len]) ?_ | refine OpsB.say (d := 130) rfl (y := .v (.bool (decide ((pre.length : Int) < (ps.length : Int))))) (by rw [ints_len, natI_len]) ?_
  refine Run.condB rfl rfl (fun hb3 => ?_) (fun hb3 => ?_)
  · cases post with
    | nil => simp at hlen hb3; omega
    | cons x post =>
      cases qost with
      | nil => simp at hlen hleq; omega
      | cons p qost =>
        have hx := hy32 x (by rw [hpp]; simp)
        have hgd : (ints (natI cs)).getD ((pre.length : Int)).toNat un = .v (.int .i64 (x : Nat)) := by rw [hpp]; exact ints_pre pre post x
        have hgp : (ints (natI ps)).getD ((pre.length : Int)).toNat un = .v (.int .i64 (p : Nat)) := by rw [hqq, hpq]; exact ints_pre qre qost p
        repeat (first | refine wa ?_ | refine wd ?_ | refine wf ?_)
        refine Run.ops1 (ld := [9]) rfl ?_
        repeat (first | ((refine wl rfl rfl ?_ ?_); try (first | exact trivial | ((repeat' apply And.intro) <;> first | exact trivial | exact rfl | omega | (simp; done) | (simp; omega)))))
        · exact ⟨rfl, rfl, by omega, by rw [ints_len, natI_len, hpp]; simp⟩
        repeat (first | ((refine wl rfl rfl ?_ ?_); try (first | exact trivial | (rw [hgd] <;> rfl) | ((repeat' apply And.intro) <;> first | exact trivial | exact rfl | omega | (simp; done) | (simp; omega)))))
        · exact ⟨rfl, rfl, by omega, by rw [ints_len, natI_len, hqq, hpq]; simp⟩
        first | refine OpsAt.say (d := 136) rfl (y := .v (.int .i64 (x : Nat))) (hgd) ?_ | refine Run.say (d := 136) rfl (y := .v (.int .i64 (x : Nat))) (hgd) ?_ | refine OpsR.say (q := 136) rfl (y := .v (.int .i64 (x : Nat))) (hgd) ?_ | refine OpsB.say (d := 136) rfl (y := .v (.int .i64 (x : Nat))) (hgd) ?_
        refine wl rfl rfl (by rw [hgp]; rfl) ?_
        first | refine OpsAt.say (d := 140) rfl (y := .v (.int .i64 (p : Nat))) (hgp) ?_ | refine Run.say (d := 140) rfl (y := .v (.int .i64 (p : Nat))) (hgp) ?_ | refine OpsR.say (q := 140) rfl (y := .v (.int .i64 (p : Nat))) (hgp) ?_ | refine OpsB.say (d := 140) rfl (y := .v (.int .i64 (p : Nat))) (hgp) ?_
        repeat (first | ((refine wl rfl rfl ?_ ?_)))
        · exact ⟨rfl, rfl, by rw [ints_len, hla], by omega, by omega⟩
        refine wv rfl rfl rfl (ord_sto (by rw [hla]; exact hx) rfl) rfl ?_
        first | refine OpsAt.sayB (d := 5) rfl (y := ord (assign l (pre ++ [x]) (qre ++ [p]))) ((ord_set (assign l pre qre) x p).trans (by rw [assign_snoc pre qre l x p hpq])) ?_ | refine Run.sayB (d := 5) rfl (y := ord (assign l (pre ++ [x]) (qre ++ [p]))) ((ord_set (assign l pre qre) x p).trans (by rw [assign_snoc pre qre l x p hpq])) ?_
        repeat (first | refine wb ?_ | refine wc ?_ | refine we ?_ | ((first | refine wl rfl rfl ?_ ?_ | refine wn (wp rfl rfl rfl rfl rfl ?_) rfl ?_); try (first | ((repeat' apply And.intro) <;> first | exact trivial | exact rfl | omega | (simp; done) | (simp; omega)))))
        first | refine OpsAt.say (d := 21) rfl (y := .v (.int .i64 ((pre ++ [x]).length : Nat))) (by rw [wrap64_in ((pre.length : Int) + 1) (by omega)]; simp) ?_ | refine Run.say (d := 21) rfl (y := .v (.int .i64 ((pre ++ [x]).length : Nat))) (by rw [wrap64_in ((pre.length : Int) + 1) (by omega)]; simp) ?_ | refine OpsR.say (q := 21) rfl (y := .v (.int .i64 ((pre ++ [x]).length : Nat))) (by rw [wrap64_in ((pre.length : Int) + 1) (by omega)]; simp) ?_ | refine OpsB.say (d := 21) rfl (y := .v (.int .i64 ((pre ++ [x]).length : Nat))) (by rw [wrap64_in ((pre.length : Int) + 1) (by omega)]; simp) ?_
        refine Run.keep [5, 8, 9, 10, 11, 17, 18, 21] rfl ?_
        exact ih ((pre ++ [x], post), (qre ++ [p], qost)) ⟨by simp [hpp], by simp [hqq], by simp [hpq]⟩ (by simp)
  · have h0 : post = [] := by cases post with | nil => rfl | cons x post => simp at hlen hb3; omega
    subst h0
    have h0 : qost = [] := by cases qost with | nil => rfl | cons x qost => simp at hlen hleq; omega
    subst h0
    rw [List.append_nil] at hpp hqq
    rw [← hpp, ← hqq] at hla ⊢
    repeat (first | refine wa ?_ | refine wj rfl ?_)
    refine Run.keep [11, 5, 8, 9, 10] rfl ?_
    refine Run.at (l' := [(11, .box (gr g2)), (5, .box (ord (assign l cs ps))), (8, .box (gr (List.replicate 32 0))), (9, .box (ord (List.replicate 32 0))), (10, .d (.v (.bool false)))]) rfl ?_
    refine Run.opsB agree mixed rfl rfl ?_
    repeat (first | ((refine yb rfl rfl ?_ ?_)))
    · exact ⟨gr_fits hg2.1 rfl, gr_pl g2⟩
    repeat (first | ((refine yb rfl rfl ?_ ?_)))
    · exact ⟨ord_fits hla rfl, ord_pl (assign l cs ps)⟩
    skip
    refine yd rfl rfl (gr_pl g2) (gr_stoAll (z := List.replicate 32 0) hg2.1 rfl rfl) ?_
    refine yd rfl rfl (ord_pl (assign l cs ps)) (ord_stoAll (z := List.replicate 32 0) hla rfl rfl) ?_
    repeat (first | refine ya ?_ | ((refine yb rfl rfl ?_ ?_); try (first | exact trivial)))
    refine wD (Ends.tupE agree rfl ⟨⟨gr_fits hg2.1 rfl, gr_pl g2⟩, ⟨ord_fits hla rfl, ord_pl (assign l cs ps)⟩, rfl, trivial⟩ rfl ?_)
    rw [hnew]; rfl
end Go.Proofs.YtaflihoopnjcgaaDoor
