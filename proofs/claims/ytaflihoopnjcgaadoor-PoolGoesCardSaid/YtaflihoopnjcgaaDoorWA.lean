/- Texts W1, W2, W3, W4, W5, W6, W7, W8 in one file. No conditions. -/
import Derived.Test.YtaflihoopnjcgaaDoorTC
import Derived.Test.YtaflihoopnjcgaaDoorKD

namespace Go.Proofs.YtaflihoopnjcgaaDoor
open Go Go.Dat

/-- What a call may look at. -/
structure PW (q : PL) : Prop where
  g : gok q.g
  o : q.o.length = 32
  ids : q.ids.length = 32
  lm : q.lv < M64
  dm : q.dn < M64
theorem SP.pw {q : PL} (h : SP q) : PW q := ⟨h.fit.gk, h.fit.ln, h.ids, h.lm, h.dm⟩
theorem pd_pl (q : PL) : (pd q).pl = true := by
  show (true && ((gr q.g).pl && ((ord q.o).pl && (true && (true && ((ord q.ids).pl && (true && true))))))) = true
  rw [gr_pl, ord_pl, ord_pl]
  rfl
def szP : List Nat := [1, 32, 32, 1, 1, 32, 1]
theorem pd_sh {q : PL} (h : PW q) : ShS szP (pd q) := by
  refine ⟨_, rfl, ?_⟩
  show [1, 1 * (sets q.g).length, 1 * (ints q.o).length, 1, 1, 1 * (ints q.ids).length, 1] = szP
  rw [sets_len, ints_len, ints_len, h.g.1, h.o, h.ids]
  rfl
theorem pd_size {q : PL} (h : PW q) : (pd q).size = 100 := by
  show 1 + (1 * (sets q.g).length + (1 * (ints q.o).length + (1 + (1 + (1 * (ints q.ids).length + (1 + 0)))))) = 100
  rw [sets_len, ints_len, ints_len, h.g.1, h.o, h.ids]
theorem pd_fits {T : TypeId} {q : PL} (h : PW q) (hT : ((Θ T).known && (Θ T).td.isAgg && ((Θ T).n == 100)) = true) : (Θ T).fits (pd q) = true := by
  simp only [Bool.and_eq_true, beq_iff_eq] at hT
  unfold TI.fits
  have h2 : (pd q).isAgg = true := rfl
  rw [hT.1.1, hT.1.2, hT.2, pd_size h, h2]
  rfl
theorem pd_sto {T : TypeId} {q z : PL} (h : PW q) (hz : PW z) (hT : ((Θ T).known && (Θ T).td.isAgg && ((Θ T).n == 100)) = true) : ((Θ T).fits (pd q) && ((pd q).size == ((pd z).get []).size) && ((pd z).get []).noOwn) = true := by
  rw [pd_fits h hT, pd_size h, show ((pd z).get []).size = 100 from pd_size hz, show ((pd z).get []).noOwn = true from pd_pl z]
  rfl
theorem pw0 : PW zeroP := ⟨gok0, by simp [zeroP], by simp [zeroP], (by decide : (0 : Nat) < M64), (by decide : (0 : Nat) < M64)⟩
theorem noOwns_pb (q : PL) (x : Value) : noOwns [pd q, .v x] = true := by
  show ((pd q).pl && true) = true
  rw [pd_pl]
  rfl

theorem noOwns_pbb (q : PL) (x y : Value) : noOwns [pd q, .v x, .v y] = true := by
  show ((pd q).pl && (true && true)) = true
  rw [pd_pl]
  rfl
theorem pd_fa {q : PL} (h : PW q) {fs : List (TypeId × Nat)} (hfs : fs.map (·.2) = [0, 1, 33, 65, 66, 67, 99]) {f : Nat} (hf : f < 7) :
    faOk fs [.v (.int .i64 q.sz), gr q.g, ord q.o, S q.lv, S q.dn, ord q.ids, .v (.int .i64 q.ct)] f = true := by
  have h1 : ∀ i : Nat, (fs.map (·.2))[i]? = ([0, 1, 33, 65, 66, 67, 99] : List Nat)[i]? := fun i => by rw [hfs]
  have h2 : ∀ (i v : Nat), i < 7 → ([0, 1, 33, 65, 66, 67, 99] : List Nat)[i]? = some v → ∃ Tf, fs[i]? = some (Tf, v) := fun i v _ hv => by
    have := h1 i
    rw [hv, List.getElem?_map] at this
    cases hq : fs[i]? with
    | none => rw [hq] at this; cases this
    | some x =>
      rw [hq] at this
      simp only [Option.map_some, Option.some.injEq] at this
      exact ⟨x.1, by rw [← this]⟩
  have e1 : (gr q.g).size = 32 := by show 1 * (sets q.g).length = 32; rw [sets_len, h.g.1]
  have e2 : (ord q.o).size = 32 := by show 1 * (ints q.o).length = 32; rw [ints_len, h.o]
  have e3 : (ord q.ids).size = 32 := by show 1 * (ints q.ids).length = 32; rw [ints_len, h.ids]
  have e4 : ∀ x, (S x).size = 1 := fun _ => rfl
  have e5 : ∀ x, (D.v x).size = 1 := fun _ => rfl
  have key : ∀ v : Nat, ([0, 1, 33, 65, 66, 67, 99] : List Nat)[f]? = some v → sizes ([D.v (.int .i64 q.sz), gr q.g, ord q.o, S q.lv, S q.dn, ord q.ids, D.v (.int .i64 q.ct)].take f) = v := by
    intro v hv
    match f, hf with
    | 0, _ | 1, _ | 2, _ | 3, _ | 4, _ | 5, _ | 6, _ => all_goals (simp only [List.take, sizes, e1, e2, e3, e4, e5]; simpa using hv)
  obtain ⟨v, hv⟩ : ∃ v : Nat, ([0, 1, 33, 65, 66, 67, 99] : List Nat)[f]? = some v := by
    match f, hf with
    | 0, _ | 1, _ | 2, _ | 3, _ | 4, _ | 5, _ | 6, _ => exact ⟨_, rfl⟩
  obtain ⟨Tf, h3⟩ := h2 f v hf hv
  simp only [faOk, h3, key v hv, Bool.and_eq_true, decide_eq_true_eq]
  exact ⟨hf, by simp⟩
theorem pd_ld1 {T : TypeId} {q : PL} (h : PW q) (hT : ((Θ T).known && (Θ T).td.isAgg && ((Θ T).n == 32)) = true) : (Θ T).fits ((pd q).get [1]) = true ∧ ((pd q).get [1]).pl = true := ⟨gr_fits h.g.1 hT, gr_pl _⟩
theorem pd_ld2 {T : TypeId} {q : PL} (h : PW q) (hT : ((Θ T).known && (Θ T).td.isAgg && ((Θ T).n == 32)) = true) : (Θ T).fits ((pd q).get [2]) = true ∧ ((pd q).get [2]).pl = true := ⟨ord_fits h.o hT, ord_pl _⟩
theorem pd_ld5 {T : TypeId} {q : PL} (h : PW q) (hT : ((Θ T).known && (Θ T).td.isAgg && ((Θ T).n == 32)) = true) : (Θ T).fits ((pd q).get [5]) = true ∧ ((pd q).get [5]).pl = true := ⟨ord_fits h.ids hT, ord_pl _⟩
theorem pd_st1 {T : TypeId} {q : PL} {g : List Nat} (h : PW q) (hg : g.length = 32) (hT : ((Θ T).known && (Θ T).td.isAgg && ((Θ T).n == 32)) = true) : ((Θ T).fits (gr g) && ((gr g).size == ((pd q).get [1]).size) && ((pd q).get [1]).noOwn) = true := gr_stoAll (z := q.g) hg h.g.1 hT
theorem pd_st2 {T : TypeId} {q : PL} {o : List Int} (h : PW q) (ho : o.length = 32) (hT : ((Θ T).known && (Θ T).td.isAgg && ((Θ T).n == 32)) = true) : ((Θ T).fits (ord o) && ((ord o).size == ((pd q).get [2]).size) && ((pd q).get [2]).noOwn) = true := ord_stoAll (z := q.o) ho h.o hT
theorem PW.withG {q : PL} (h : PW q) {g : List Nat} (hg : gok g) : PW { q with g := g } := ⟨hg, h.o, h.ids, h.lm, h.dm⟩
theorem PW.withLv {q : PL} (h : PW q) {s : Nat} (hs : s < M64) : PW { q with lv := s } := ⟨h.g, h.o, h.ids, hs, h.dm⟩
theorem PW.withDn {q : PL} (h : PW q) {s : Nat} (hs : s < M64) : PW { q with dn := s } := ⟨h.g, h.o, h.ids, h.lm, hs⟩
theorem PW.withCt {q : PL} (h : PW q) (c : Int) : PW { q with ct := c } := ⟨h.g, h.o, h.ids, h.lm, h.dm⟩
theorem PW.withIds {q : PL} (h : PW q) (i : Nat) (c : Int) : PW { q with ids := q.ids.set i c } := ⟨h.g, h.o, by show (q.ids.set i c).length = 32; rw [List.length_set]; exact h.ids, h.lm, h.dm⟩
end Go.Proofs.YtaflihoopnjcgaaDoor

namespace Go.Proofs.YtaflihoopnjcgaaDoor
open Go Go.Dat

theorem c_taken (q : PL) (h : PW q) : DFun Tryd.prog 50 [pd q] (S (takenP q)) := by
  refine DFun.ofRun agree mixed Tryd.func50 rfl rfl ?_
  repeat (first | refine wa ?_ | refine wb ?_ | refine wc ?_ | ((first | refine wl rfl rfl ?_ ?_ | refine wn (wp rfl rfl rfl rfl rfl ?_) rfl ?_); try (first | exact trivial | ((repeat' apply And.intro) <;> first | exact trivial | exact rfl | omega | (simp; done) | (simp; omega)) | exact pd_fa (by assumption) rfl (by decide) | exact pd_pl _)))
  refine wD (wE rfl rfl ?_)
  rw [or64 h.lm h.dm]
  rfl

theorem slots_lt (n : Int) : slotsP n < M64 := by
  have : (2 : Nat) ^ (min (max n 0) 32).toNat ≤ 2 ^ 32 := Nat.pow_le_pow_right (by decide) (by omega)
  unfold slotsP M64
  omega
theorem slots_is (n : Int) : IntKind.u64.wrap (IntKind.u64.wrap ((1 : Int) * 2 ^ min (min (max n 0) 32).toNat IntKind.u64.bits) - 1) = (slotsP n : Int) := by
  have h0 : (min (max n 0) 32).toNat ≤ 32 := by omega
  have hm : min (min (max n 0) 32).toNat IntKind.u64.bits = (min (max n 0) 32).toNat := by rw [show IntKind.u64.bits = 64 from rfl]; omega
  have h1 : (2 : Nat) ^ (min (max n 0) 32).toNat ≤ 2 ^ 32 := Nat.pow_le_pow_right (by decide) h0
  have h2 : 1 ≤ (2 : Nat) ^ (min (max n 0) 32).toNat := Nat.one_le_two_pow
  rw [hm, Int.one_mul]
  have e1 : ((2 : Int) ^ (min (max n 0) 32).toNat) = ((2 ^ (min (max n 0) 32).toNat : Nat) : Int) := by simp
  rw [e1, u64_in (by unfold M64; omega)]
  have e2 : (((2 ^ (min (max n 0) 32).toNat : Nat) : Int) - 1) = (slotsP n : Int) := by unfold slotsP; omega
  rw [e2]
  exact u64_in (slots_lt n)
theorem c_slots (q : PL) (_h : PW q) : DFun Tryd.prog 53 [pd q] (S (slotsP q.sz)) := by
  refine DFun.ofRun agree mixed Tryd.func53 rfl rfl ?_
  repeat (first | refine wa ?_ | refine wb ?_ | refine wc ?_ | ((refine wl rfl rfl ?_ ?_); try (first | exact trivial | ((repeat' apply And.intro) <;> first | exact trivial | exact rfl | omega | (simp; done) | (simp; omega)) | exact pd_pl _)))
  refine wn (Ev.max rfl rfl rfl (by repeat' (first | exact trivial | exact rfl | apply And.intro))) rfl ?_
  refine wn (Ev.min rfl rfl rfl (by repeat' (first | exact trivial | exact rfl | apply And.intro))) rfl ?_
  repeat (first | refine wb ?_ | ((first | refine wl rfl rfl ?_ ?_ | refine wn (wp rfl rfl rfl rfl rfl ?_) rfl ?_); try (first | ((repeat' apply And.intro) <;> first | exact trivial | exact rfl | omega | (simp; done) | (simp; omega)))))
  refine wD (wE rfl rfl ?_)
  exact congrArg (fun z => D.v (.int .u64 z)) (slots_is q.sz)

theorem c_pNew (n : Int) : DFun Tryd.prog 10 [.v (.int .i64 n)] (.tup [pd (if 1 ≤ n ∧ n ≤ 32 then newP n else zeroP), .v (.bool (decide (1 ≤ n ∧ n ≤ 32)))]) := by
  refine DFun.ofRun agree mixed Tryd.func10 rfl rfl ?_
  repeat (first | refine wa ?_ | refine wb ?_ | refine wc ?_ | ((first | refine wl rfl rfl ?_ ?_ | refine wn (wp rfl rfl rfl rfl rfl ?_) rfl ?_); try (first | exact trivial | ((repeat' apply And.intro) <;> first | exact trivial | exact rfl | omega | (simp; done) | (simp; omega)))))
  refine OpsAt.br rfl rfl rfl (fun h1 => ?_) (fun h1 => ?_)
  · have h0 : ¬ (1 ≤ n ∧ n ≤ 32) := by have := of_decide_eq_true h1; omega
    repeat (first | refine wa ?_ | refine wb ?_ | refine wc ?_ | ((first | refine wl rfl rfl ?_ ?_ | refine wt rfl ?_ ?_ | refine wv rfl rfl ?_ rfl rfl ?_); try (first | exact trivial | ((repeat' apply And.intro) <;> first | exact trivial | exact rfl | omega | (simp; done) | (simp; omega)))) | refine ws rfl rfl ?_)
    first | refine OpsAt.sayB (d := 2) rfl (y := pd zeroP) (rfl) ?_ | refine Run.sayB (d := 2) rfl (y := pd zeroP) (rfl) ?_
    refine wD (Ends.tupE agree rfl ⟨⟨pd_fits pw0 rfl, pd_pl _⟩, rfl, trivial⟩ rfl ?_)
    rw [if_neg h0, decide_eq_false h0]
    rfl
  · have h1' := of_decide_eq_false h1
    repeat (first | refine wb ?_ | ((first | refine wl rfl rfl ?_ ?_ | refine wm rfl rfl rfl ?_ ?_ | refine wo rfl (wp rfl rfl rfl rfl rfl ?_) rfl ?_); try (first | ((repeat' apply And.intro) <;> first | exact trivial | exact rfl | omega | (simp; done) | (simp; omega)))))
    refine Run.condB rfl rfl (fun h2 => ?_) (fun h2 => ?_)
    · have h0 : ¬ (1 ≤ n ∧ n ≤ 32) := by have := of_decide_eq_true h2; omega
      repeat (first | refine wa ?_ | refine wb ?_ | refine wc ?_ | ((first | refine wl rfl rfl ?_ ?_ | refine wv rfl rfl ?_ rfl rfl ?_); try (first | exact trivial | ((repeat' apply And.intro) <;> first | exact trivial | exact rfl | omega | (simp; done) | (simp; omega)))))
      first | refine OpsAt.sayB (d := 2) rfl (y := pd zeroP) (rfl) ?_ | refine Run.sayB (d := 2) rfl (y := pd zeroP) (rfl) ?_
      refine wD (Ends.tupE agree rfl ⟨⟨pd_fits pw0 rfl, pd_pl _⟩, rfl, trivial⟩ rfl ?_)
      rw [if_neg h0, decide_eq_false h0]
      rfl
    · have h0 : 1 ≤ n ∧ n ≤ 32 := by have := of_decide_eq_false h2; omega
      repeat (first | refine wa ?_ | refine wc ?_ | refine wf ?_ | ((refine wl rfl rfl ?_ ?_); try (first | ((repeat' apply And.intro) <;> first | exact trivial | exact rfl | omega | (simp; done) | (simp; omega)))))
      refine wn (wA rfl rfl rfl (by repeat' (first | exact trivial | exact rfl | assumption | apply And.intro)) (callable (by decide)) (c_New)) rfl ?_
      have hp : (ord (upto 32)).pl = true := ord_pl _
      repeat (first | refine wb ?_ | ((first | refine wl rfl rfl ?_ ?_ | refine wv rfl rfl ?_ rfl rfl ?_); try (first | exact trivial | ((repeat' apply And.intro) <;> first | exact trivial | exact rfl | omega | (simp; done) | (simp; omega)))))
      first | refine OpsAt.sayB (d := 2) rfl (y := pd (newP n)) (rfl) ?_ | refine Run.sayB (d := 2) rfl (y := pd (newP n)) (rfl) ?_
      refine wD (Ends.tupE agree rfl ⟨⟨pd_fits (newS h0.1 h0.2).pw rfl, pd_pl _⟩, rfl, trivial⟩ rfl ?_)
      rw [if_pos h0, decide_eq_true h0]
      rfl
end Go.Proofs.YtaflihoopnjcgaaDoor

namespace Go.Proofs.YtaflihoopnjcgaaDoor
open Go Go.Dat

theorem ins_gok {g : List Nat} (hg : gok g) (l : List Int) (a b : Int) : gok (insG g l a b).1 := by
  unfold insG
  split
  · exact hg
  · split
    · exact putG_ok hg a b
    · split
      · exact hg
      · exact putG_ok hg a b
theorem ins_len (g : List Nat) {l : List Int} (hl : l.length = 32) (a b : Int) : (insG g l a b).2.1.length = 32 := by
  unfold insG
  split
  · exact hl
  · split
    · exact hl
    · split
      · exact hl
      · show (newO l _ _).length = 32
        rw [newO, assign_len]
        exact hl
theorem PW.ahead {q : PL} (h : PW q) (a b : Int) : PW (aheadP q a b) := ⟨ins_gok h.g _ _ _, ins_len _ h.o _ _, h.ids, h.lm, h.dm⟩

theorem b_ahead (q : PL) (a b : Int) (h : PW q) : BFun Tryd.prog 51 (pd q) [.v (.int .i64 a), .v (.int .i64 b)] (.bool (insG q.g q.o a b).2.2) (pd (aheadP q a b)) := by
  refine BFun.ofRunT Tryd.func51 rfl rfl (pd_pl _) ?_
  refine RunT.seq ?_
  refine RunT.ops0 agree mixed rfl ?_
  repeat (first | refine wb ?_ | ((refine wl rfl rfl ?_ ?_); try (first | exact trivial)))
  refine Run.fin ?_
  refine RunT.seq ?_
  refine RunT.opsR (s := 0) (szs := szP) agree mixed rfl (pd_sh h) rfl rfl rfl ?_
  repeat (first | refine OpsR.mvB rfl ?_ | refine OpsR.same (.inr rfl) rfl rfl ?_ | refine OpsR.fa (.inr rfl) rfl rfl rfl ?_ | refine OpsR.q rfl rfl (by repeat' (first | exact trivial | exact rfl | assumption | apply And.intro)) ?_ | refine OpsR.lod rfl rfl rfl rfl (pd_ld1 (by assumption) rfl) ?_ | refine OpsR.lod rfl rfl rfl rfl (pd_ld2 (by assumption) rfl) ?_)
  first | refine OpsAt.say (d := 13) rfl (y := gr q.g) (rfl) ?_ | refine Run.say (d := 13) rfl (y := gr q.g) (rfl) ?_ | refine OpsR.say (q := 13) rfl (y := gr q.g) (rfl) ?_ | refine OpsB.say (d := 13) rfl (y := gr q.g) (rfl) ?_
  first | refine OpsAt.say (d := 17) rfl (y := ord q.o) (rfl) ?_ | refine Run.say (d := 17) rfl (y := ord q.o) (rfl) ?_ | refine OpsR.say (q := 17) rfl (y := ord q.o) (rfl) ?_ | refine OpsB.say (d := 17) rfl (y := ord q.o) (rfl) ?_
  have hp1 : (gr q.g).pl = true := gr_pl _
  have hp2 : (ord q.o).pl = true := ord_pl _
  refine OpsR.ev (wA rfl rfl rfl (by repeat' (first | exact trivial | exact rfl | assumption | apply And.intro)) (callable (by decide)) (c_Insert q.g q.o a b h.g h.o)) rfl ?_
  have hg2 := ins_gok h.g q.o a b
  have ho2 := ins_len q.g h.o a b
  have e : aheadP q a b = { q with g := (insG q.g q.o a b).1, o := (insG q.g q.o a b).2.1 } := rfl
  rw [e]
  generalize (insG q.g q.o a b).1 = g2 at *
  generalize (insG q.g q.o a b).2.1 = o2 at *
  generalize (insG q.g q.o a b).2.2 = is at *
  have hp3 : (gr g2).pl = true := gr_pl _
  have hp4 : (ord o2).pl = true := ord_pl _
  have hno : noOwns [gr g2, ord o2, .v (.bool is)] = true := noOwns_gl _ _ _
  repeat (first | refine OpsR.same (.inr rfl) rfl rfl ?_ | refine OpsR.fa (.inr rfl) rfl rfl rfl ?_ | refine OpsR.q rfl rfl (by repeat' (first | exact trivial | exact rfl | assumption | apply And.intro)) ?_)
  first | refine OpsAt.say (d := 21) rfl (y := gr g2) (rfl) ?_ | refine Run.say (d := 21) rfl (y := gr g2) (rfl) ?_ | refine OpsR.say (q := 21) rfl (y := gr g2) (rfl) ?_ | refine OpsB.say (d := 21) rfl (y := gr g2) (rfl) ?_
  first | refine OpsAt.say (d := 22) rfl (y := ord o2) (rfl) ?_ | refine Run.say (d := 22) rfl (y := ord o2) (rfl) ?_ | refine OpsR.say (q := 22) rfl (y := ord o2) (rfl) ?_ | refine OpsB.say (d := 22) rfl (y := ord o2) (rfl) ?_
  refine OpsR.sto (X' := pd { q with g := g2 }) rfl rfl rfl rfl hp3 (pd_st1 h hg2.1 rfl) ?_
  repeat (first | refine OpsR.same (.inr rfl) rfl rfl ?_ | refine OpsR.fa (.inr rfl) rfl rfl rfl ?_)
  refine OpsR.sto (X' := pd { q with g := g2, o := o2 }) rfl rfl rfl rfl hp4 (pd_st2 (h.withG hg2) ho2 rfl) ?_
  repeat (first | refine OpsR.q rfl rfl (by repeat' (first | exact trivial | exact rfl | assumption | apply And.intro)) ?_ | refine OpsR.nil ?_)
  refine Run.fin ?_
  refine RunT.seq ?_
  refine RunT.ops0 agree mixed rfl ?_
  repeat (first | refine wb ?_ | ((refine wl rfl rfl ?_ ?_); try (first | ((repeat' apply And.intro) <;> first | exact trivial | exact rfl | omega | (simp; done) | (simp; omega)))))
  exact Run.fin (RunT.ret ⟨rfl, wE rfl rfl rfl⟩)
end Go.Proofs.YtaflihoopnjcgaaDoor

namespace Go.Proofs.YtaflihoopnjcgaaDoor
open Go Go.Dat

/-- Of the first n nodes no edge goes to a. -/
def cutM (g : List Nat) (a n : Nat) : List Nat := (List.range 32).map fun j => if j < n then lessN (g.getD j 0) (a : Int) else g.getD j 0
theorem cutM_len (g : List Nat) (a n : Nat) : (cutM g a n).length = 32 := by simp [cutM]
theorem cutM_at (g : List Nat) (a n j : Nat) (hj : j < 32) : (cutM g a n).getD j 0 = if j < n then lessN (g.getD j 0) (a : Int) else g.getD j 0 := by simp [cutM, hj]
theorem cutM_gok {g : List Nat} (hg : gok g) (a n : Nat) : gok (cutM g a n) := by
  refine ⟨cutM_len _ _ _, fun s hs => ?_⟩
  obtain ⟨j, _, rfl⟩ := List.mem_map.1 hs
  split
  · exact lessN_lt _ _
  · exact hg.at j
theorem list_ext {a b : List Nat} (ha : a.length = 32) (hb : b.length = 32) (h : ∀ j, j < 32 → a.getD j 0 = b.getD j 0) : a = b := by
  apply List.ext_getElem (by omega)
  intro i h1 h2
  have := h i (by omega)
  rwa [getD_eq h1, getD_eq h2] at this
theorem cutM_zero {g : List Nat} (hg : g.length = 32) (a : Nat) : cutM g a 0 = g := list_ext (cutM_len _ _ _) hg fun j hj => by rw [cutM_at _ _ _ _ hj, if_neg (by omega)]
theorem set_at {g : List Nat} {i j x : Nat} (hi : i < g.length) : (g.set i x).getD j 0 = if i = j then x else g.getD j 0 := by
  rw [List.getD_eq_getElem?_getD, List.getElem?_set]
  by_cases e : i = j
  · subst e; simp [hi]
  · simp [e]
theorem cutM_set {g : List Nat} (a n : Nat) (hn : n < 32) : (cutM g a n).set n (lessN (g.getD n 0) (a : Int)) = cutM g a (n + 1) := by
  refine list_ext (by rw [List.length_set, cutM_len]) (cutM_len _ _ _) fun j hj => ?_
  rw [set_at (by rw [cutM_len]; exact hn), cutM_at _ _ _ _ hj, cutM_at _ _ _ _ hj]
  by_cases e : n = j
  · subst e
    rw [if_pos rfl, if_pos (by omega)]
  · rw [if_neg e]
    by_cases h1 : j < n
    · rw [if_pos h1, if_pos (by omega)]
    · rw [if_neg h1, if_neg (by omega)]
theorem cut_last {g : List Nat} (hg : gok g) (a : Nat) (ha : a < 32) : (cutM g a 32).set a (andn ((cutM g a 32).getD a 0) full32) = cutG g a := by
  refine list_ext (by rw [List.length_set, cutM_len]) (cutTo_len _ _ _) fun j hj => ?_
  have e1 : (cutG g a).getD j 0 = lessN ((g.set a (g.getD a 0 - g.getD a 0 % 4294967296)).getD j 0) (a : Int) := by simp [cutG, cutTo, hj]
  rw [e1, set_at (by rw [cutM_len]; exact ha), cutM_at _ _ _ _ hj, if_pos hj, set_at (by rw [hg.1]; exact ha)]
  by_cases e : a = j
  · subst e
    rw [if_pos rfl, if_pos rfl, cutM_at _ _ _ _ ha, if_pos ha]
    have h0 := low0_lt (hg.at a)
    refine bits_eq (andn_lt _ _) (lessN_lt _ _) fun k hk => ?_
    rw [andn_bit (lessN_lt _ _), lessN_bit _ (hg.at a), lessN_bit _ h0, show full32 = 4294967295 from rfl, full_bit]
    by_cases h1 : k < 32
    · rw [low0_bit _ _ h1]; simp [h1]
    · have e3 : g.getD a 0 - g.getD a 0 % 4294967296 = 2 ^ 32 * (g.getD a 0 / 2 ^ 32) := by omega
      have h2 : 32 ≤ k := by omega
      rw [e3, Nat.testBit_two_pow_mul, Nat.testBit_div_two_pow]
      rw [Nat.sub_add_cancel h2]
      simp [h1, h2]
  · rw [if_neg e, if_neg e]

theorem andnot_is (x y : Nat) : IntKind.u64.wrap (BitVec.ofInt IntKind.u64.bits (x : Int) &&& ~~~ BitVec.ofInt IntKind.u64.bits (y : Int)).toNat = (andn x y : Int) := by
  have h1 : IntKind.u64.bits = 64 := rfl
  rw [h1, BitVec.ofInt_natCast, BitVec.ofInt_natCast]
  exact u64_in (andn_lt _ _)

theorem c_Cut (g : List Nat) (a : Nat) (ha : a < 32) (hg : gok g) : DFun Tryd.prog 42 [gr g, .v (.int .i64 a)] (gr (cutG g a)) := by
  refine DFun.ofRun agree mixed Tryd.func42 rfl rfl ?_
  have hp : (gr g).pl = true := gr_pl g
  repeat (first | refine wa ?_ | refine wb ?_ | refine wc ?_ | ((refine wl rfl rfl ?_ ?_); try (first | ((repeat' apply And.intro) <;> first | exact trivial | exact rfl | omega | (simp; done) | (simp; omega)))))
  refine wn (wA rfl rfl rfl (by repeat' (first | exact trivial | exact rfl | assumption | apply And.intro)) (callable (by decide)) (c_node a)) rfl ?_
  have hn : nodeN (a : Int) = true := by simp [nodeN]; omega
  first | refine OpsAt.say (d := 7) rfl (y := .v (.bool true)) (by rw [hn]) ?_ | refine Run.say (d := 7) rfl (y := .v (.bool true)) (by rw [hn]) ?_ | refine OpsR.say (q := 7) rfl (y := .v (.bool true)) (by rw [hn]) ?_ | refine OpsB.say (d := 7) rfl (y := .v (.bool true)) (by rw [hn]) ?_
  repeat (first | refine wa ?_ | refine wb ?_ | refine wc ?_ | refine wd ?_ | refine wf ?_ | ((first | refine wl rfl rfl ?_ ?_ | refine wu rfl ?_ ?_); try (first | exact trivial | ((repeat' apply And.intro) <;> first | exact trivial | exact rfl | omega | (simp; done) | (simp; omega)))))
  refine Run.keep [1, 2, 4, 10] rfl ?_
  refine Run.at (l' := [(1, .d (.v (.int .i64 a))), (2, .box (gr (cutM g a 0))), (4, .box (gr (List.replicate 32 0))), (10, .d (.v (.int .i64 (0 : Nat))))]) (by rw [cutM_zero hg.1]; rfl) ?_
  refine Run.loopL (α := Nat) (fun n => n ≤ 32) (fun n => [(1, .d (.v (.int .i64 a))), (2, .box (gr (cutM g a n))), (4, .box (gr (List.replicate 32 0))), (10, .d (.v (.int .i64 n)))]) (fun n => 32 - n) 0 (by decide) ?_
  intro n hle ih
  obtain ⟨c, hcm⟩ : ∃ c, c = cutM g a n := ⟨_, rfl⟩
  have hcl : c.length = 32 := by rw [hcm, cutM_len]
  refine Run.at (l' := [(1, .d (.v (.int .i64 a))), (2, .box (gr c)), (4, .box (gr (List.replicate 32 0))), (10, .d (.v (.int .i64 n)))]) (by rw [hcm]) ?_
  repeat (first | refine wa ?_ | refine wb ?_ | refine wc ?_ | ((refine wn (wp rfl rfl rfl rfl rfl ?_) rfl ?_); try (first | ((repeat' apply And.intro) <;> first | exact trivial | exact rfl | omega | (simp; done) | (simp; omega)))))
  refine Run.condB rfl rfl (fun hc => ?_) (fun hc => ?_)
  · have hn2 : n < 32 := by simp at hc; omega
    have hlt : n < c.length := by omega
    have hgd : (gr c).get ([] ++ [((n : Int)).toNat]) = S (g.getD n 0) := (gr_at hlt).trans (by rw [hcm, cutM_at _ _ _ _ hn2, if_neg (by omega)])
    repeat (first | refine wa ?_ | refine wb ?_ | refine wc ?_ | refine wd ?_ | refine wf ?_ | ((refine wl rfl rfl ?_ ?_); try (first | ((repeat' apply And.intro) <;> first | exact trivial | exact rfl | omega | (simp; done) | (simp; omega)))))
    · exact ⟨rfl, rfl, by rw [sets_len, hcl], by omega, by omega⟩
    refine wn (Ev.ldBox rfl (adrOf_sound rfl) (ld_ok (T := 25) hgd rfl).1 (ld_ok (T := 25) hgd rfl).2) rfl ?_
    first | refine OpsAt.say (d := 16) rfl (y := S (g.getD n 0)) (hgd) ?_ | refine Run.say (d := 16) rfl (y := S (g.getD n 0)) (hgd) ?_ | refine OpsR.say (q := 16) rfl (y := S (g.getD n 0)) (hgd) ?_ | refine OpsB.say (d := 16) rfl (y := S (g.getD n 0)) (hgd) ?_
    repeat (first | ((refine wl rfl rfl ?_ ?_); try (first | ((repeat' apply And.intro) <;> first | exact trivial | exact rfl | omega | (simp; done) | (simp; omega)))))
    refine wn (wA rfl rfl rfl (by repeat' (first | exact trivial | exact rfl | assumption | apply And.intro)) (callable (by decide)) (c_Less (g.getD n 0) a)) rfl ?_
    repeat (first | ((refine wl rfl rfl ?_ ?_)))
    · exact ⟨rfl, rfl, by rw [sets_len, hcl], by omega, by omega⟩
    refine wv rfl rfl rfl (gr_sto hlt rfl) rfl ?_
    repeat (first | refine wb ?_ | refine wc ?_ | refine we ?_ | ((first | refine wl rfl rfl ?_ ?_ | refine wn (wp rfl rfl rfl rfl rfl ?_) rfl ?_); try (first | ((repeat' apply And.intro) <;> first | exact trivial | exact rfl | omega | (simp; done) | (simp; omega)))))
    first | refine OpsAt.sayB (d := 2) rfl (y := gr (cutM g a (n + 1))) ((gr_set c n (lessN (g.getD n 0) (a : Int))).trans (by rw [hcm, cutM_set a n hn2])) ?_ | refine Run.sayB (d := 2) rfl (y := gr (cutM g a (n + 1))) ((gr_set c n (lessN (g.getD n 0) (a : Int))).trans (by rw [hcm, cutM_set a n hn2])) ?_
    first | refine OpsAt.say (d := 10) rfl (y := .v (.int .i64 (n + 1 : Nat))) (by rw [wrap64_in ((n : Int) + 1) (by omega)]; simp) ?_ | refine Run.say (d := 10) rfl (y := .v (.int .i64 (n + 1 : Nat))) (by rw [wrap64_in ((n : Int) + 1) (by omega)]; simp) ?_ | refine OpsR.say (q := 10) rfl (y := .v (.int .i64 (n + 1 : Nat))) (by rw [wrap64_in ((n : Int) + 1) (by omega)]; simp) ?_ | refine OpsB.say (d := 10) rfl (y := .v (.int .i64 (n + 1 : Nat))) (by rw [wrap64_in ((n : Int) + 1) (by omega)]; simp) ?_
    refine Run.keep [1, 2, 4, 10] rfl ?_
    exact ih (n + 1) (by omega) (by omega)
  · have hn2 : n = 32 := by simp at hc; omega
    subst hn2
    have hlt : a < c.length := by omega
    have hgd : (gr c).get ([] ++ [((a : Int)).toNat]) = S (c.getD a 0) := gr_at hlt
    repeat (first | refine wa ?_ | refine wc ?_ | ((refine wl rfl rfl ?_ ?_); try (first | ((repeat' apply And.intro) <;> first | exact trivial | exact rfl | omega | (simp; done) | (simp; omega)))) | refine wj rfl ?_)
    · exact ⟨rfl, rfl, by rw [sets_len, hcl], by omega, by omega⟩
    refine wn (Ev.ldBox rfl (adrOf_sound rfl) (ld_ok (T := 25) hgd rfl).1 (ld_ok (T := 25) hgd rfl).2) rfl ?_
    first | refine OpsAt.say (d := 23) rfl (y := S (c.getD a 0)) (hgd) ?_ | refine Run.say (d := 23) rfl (y := S (c.getD a 0)) (hgd) ?_ | refine OpsR.say (q := 23) rfl (y := S (c.getD a 0)) (hgd) ?_ | refine OpsB.say (d := 23) rfl (y := S (c.getD a 0)) (hgd) ?_
    repeat (first | ((first | refine wl rfl rfl ?_ ?_ | refine wn (wp rfl rfl rfl rfl rfl ?_) rfl ?_); try (first | ((repeat' apply And.intro) <;> first | exact trivial | exact rfl | omega | (simp; done) | (simp; omega)))))
    · exact ⟨rfl, rfl, by rw [sets_len, hcl], by omega, by omega⟩
    first | refine OpsAt.say (d := 24) rfl (y := S (andn (c.getD a 0) full32)) (congrArg (fun z => D.v (.int .u64 z)) (andnot_is _ full32)) ?_ | refine Run.say (d := 24) rfl (y := S (andn (c.getD a 0) full32)) (congrArg (fun z => D.v (.int .u64 z)) (andnot_is _ full32)) ?_ | refine OpsR.say (q := 24) rfl (y := S (andn (c.getD a 0) full32)) (congrArg (fun z => D.v (.int .u64 z)) (andnot_is _ full32)) ?_ | refine OpsB.say (d := 24) rfl (y := S (andn (c.getD a 0) full32)) (congrArg (fun z => D.v (.int .u64 z)) (andnot_is _ full32)) ?_
    refine wv rfl rfl rfl (gr_sto hlt rfl) rfl ?_
    first | refine OpsAt.sayB (d := 2) rfl (y := gr (cutG g a)) ((gr_set c a (andn (c.getD a 0) full32)).trans (by rw [hcm, cut_last hg a ha])) ?_ | refine Run.sayB (d := 2) rfl (y := gr (cutG g a)) ((gr_set c a (andn (c.getD a 0) full32)).trans (by rw [hcm, cut_last hg a ha])) ?_
    have hcg : gok (cutG g a) := cutTo_gok hg a 32
    have hpl : (gr (cutG g a)).pl = true := gr_pl _
    obtain ⟨d, hd⟩ : ∃ d, d = cutG g a := ⟨_, rfl⟩
    rw [← hd] at hcg hpl ⊢
    repeat (first | refine wa ?_ | refine wb ?_ | refine wc ?_ | ((refine wl rfl rfl ?_ ?_)))
    · exact ⟨gr_fits hcg.1 rfl, hpl⟩
    refine wv rfl rfl (gr_pl d) (gr_stoAll (z := List.replicate 32 0) hcg.1 rfl rfl) rfl ?_
    repeat (first | refine wb ?_)
    exact wD (Ends.cellE agree rfl rfl (by rw [Bool.and_eq_true]; exact ⟨gr_fits hcg.1 rfl, gr_pl d⟩) rfl)

theorem c_End (q : PL) (s : Int) (h : PW q) : DFun Tryd.prog 22 [pd q, .v (.int .i64 s)] (.tup [pd (endP q s).1, .v (.int .i64 (endP q s).2)]) := by
  refine DFun.ofRun agree mixed Tryd.func22 rfl rfl ?_
  have hz := pw0
  repeat (first | refine wa ?_ | refine wb ?_ | refine wc ?_ | ((refine wl rfl rfl ?_ ?_); try (first | exact trivial | ((repeat' apply And.intro) <;> first | exact trivial | exact rfl | omega | (simp; done) | (simp; omega)) | exact pd_fa (by assumption) rfl (by decide) | exact pd_pl _)))
  refine wn (wA rfl rfl rfl (by repeat' (first | exact trivial | exact rfl | assumption | apply And.intro)) (callable (by decide)) (c_Has q.lv s h.lm)) rfl ?_
  first | refine OpsAt.sayB (d := 4) rfl (y := pd zeroP) (rfl) ?_ | refine Run.sayB (d := 4) rfl (y := pd zeroP) (rfl) ?_
  repeat (first | refine wb ?_ | ((refine wl rfl rfl ?_ ?_); try (first | ((repeat' apply And.intro) <;> first | exact trivial | exact rfl | omega | (simp; done) | (simp; omega)))))
  refine Run.condB rfl rfl (fun h1 => ?_) (fun h1 => ?_)
  · have e : endP q s = (q, 3) := by unfold endP; rw [if_pos h1]
    rw [e]
    repeat (first | refine wa ?_ | refine wb ?_ | refine wc ?_ | ((refine wl rfl rfl ?_ ?_); try (first | exact trivial | exact ⟨pd_fits (by assumption) rfl, pd_pl _⟩)) | refine wv rfl rfl (pd_pl _) (pd_sto (by assumption) (by assumption) rfl) rfl ?_)
    exact wD (Ends.tupE agree rfl ⟨⟨pd_fits h rfl, pd_pl _⟩, rfl, trivial⟩ rfl rfl)
  · have e : endP q s = ({ q with lv := lessN q.lv s, dn := withN q.dn s }, 0) := by unfold endP; rw [if_neg (by rw [h1]; decide)]
    rw [e]
    repeat (first | refine wa ?_ | refine wf ?_)
    refine Run.keep [1, 2, 4] rfl ?_
    refine Run.opsR (s := 2) (szs := szP) agree mixed rfl (pd_sh h) rfl rfl ?_
    repeat (first | refine OpsR.fa (.inl rfl) rfl rfl rfl ?_ | refine OpsR.q rfl rfl (by repeat' (first | exact trivial | exact rfl | assumption | apply And.intro)) ?_ | refine OpsR.lod rfl rfl rfl rfl ⟨rfl, rfl⟩ ?_)
    first | refine OpsAt.say (d := 13) rfl (y := S q.lv) (rfl) ?_ | refine Run.say (d := 13) rfl (y := S q.lv) (rfl) ?_ | refine OpsR.say (q := 13) rfl (y := S q.lv) (rfl) ?_ | refine OpsB.say (d := 13) rfl (y := S q.lv) (rfl) ?_
    refine OpsR.ev (wA rfl rfl rfl (by repeat' (first | exact trivial | exact rfl | assumption | apply And.intro)) (callable (by decide)) (c_Less q.lv s)) rfl ?_
    repeat (first | refine OpsR.fa (.inl rfl) rfl rfl rfl ?_ | refine OpsR.q rfl rfl (by repeat' (first | exact trivial | exact rfl | assumption | apply And.intro)) ?_ | refine OpsR.lod rfl rfl rfl rfl ⟨rfl, rfl⟩ ?_)
    first | refine OpsAt.say (d := 17) rfl (y := S q.dn) (rfl) ?_ | refine Run.say (d := 17) rfl (y := S q.dn) (rfl) ?_ | refine OpsR.say (q := 17) rfl (y := S q.dn) (rfl) ?_ | refine OpsB.say (d := 17) rfl (y := S q.dn) (rfl) ?_
    refine OpsR.ev (wA rfl rfl rfl (by repeat' (first | exact trivial | exact rfl | assumption | apply And.intro)) (callable (by decide)) (c_With q.dn s h.dm)) rfl ?_
    repeat (first | refine OpsR.fa (.inl rfl) rfl rfl rfl ?_)
    refine OpsR.sto (X' := pd { q with lv := lessN q.lv s }) rfl rfl rfl rfl rfl rfl ?_
    repeat (first | refine OpsR.fa (.inl rfl) rfl rfl rfl ?_)
    refine OpsR.sto (X' := pd { q with lv := lessN q.lv s, dn := withN q.dn s }) rfl rfl rfl rfl rfl rfl ?_
    repeat (first | refine OpsR.nil ?_)
    have h2 := (h.withLv (lessN_lt q.lv s)).withDn (withN_lt s h.dm)
    repeat (first | refine wa ?_ | refine wb ?_ | refine wc ?_ | ((refine wl rfl rfl ?_ ?_); try (first | exact trivial | exact ⟨pd_fits (by assumption) rfl, pd_pl _⟩)) | refine wv rfl rfl (pd_pl _) (pd_sto (by assumption) (by assumption) rfl) rfl ?_)
    exact wD (Ends.tupE agree rfl ⟨⟨pd_fits h2 rfl, pd_pl _⟩, rfl, trivial⟩ rfl rfl)
end Go.Proofs.YtaflihoopnjcgaaDoor

namespace Go.Proofs.YtaflihoopnjcgaaDoor
open Go Go.Dat

def optI : Option Nat → Int
  | none => 0
  | some i => i
theorem ids_at {q : PL} (h : PW q) {i : Nat} (hi : i < 32) : (pd q).get ([] ++ [5] ++ [((i : Int)).toNat]) = .v (.int .i64 (q.ids.getD i 0)) := by
  show (ints q.ids).getD i un = _
  simp [ints, h.ids, hi]
theorem ids_ok {q : PL} (h : PW q) {i : Nat} (hi : i < 32) : True ∧ 1 = 1 ∧ (ints q.ids).length = 32 ∧ (0 : Int) ≤ (i : Int) ∧ (i : Int) < 32 := ⟨trivial, rfl, by rw [ints_len, h.ids], by omega, by omega⟩

theorem c_source (q : PL) (h : SP q) : DFun Tryd.prog 41 [pd q] (.tup [.v (.int .i64 (optI (srcP q))), .v (.bool (srcP q).isSome)]) := by
  refine DFun.ofRun agree mixed Tryd.func41 rfl rfl ?_
  have hw := h.pw
  repeat (first | refine wa ?_ | refine wb ?_ | refine wc ?_ | ((refine wl rfl rfl ?_ ?_); try (first | exact trivial | ((repeat' apply And.intro) <;> first | exact trivial | exact rfl | omega | (simp; done) | (simp; omega)) | exact pd_fa (by assumption) rfl (by decide) | exact pd_pl _)))
  refine wn (wA rfl rfl rfl (by repeat' (first | exact trivial | exact rfl | assumption | apply And.intro)) (callable (by decide)) (c_Items q.dn h.dm)) rfl ?_
  repeat (first | refine wb ?_ | refine wd ?_ | ((first | refine wl rfl rfl ?_ ?_ | refine wn (wq agree rfl rfl rfl ?_) rfl ?_); try (first | exact trivial | ((repeat' apply And.intro) <;> first | exact trivial | exact rfl | omega | (simp; done) | (simp; omega)))))
  have hlx : ((ints (itemsN q.dn)).length : Int) = (itemsL q.dn).length := by rw [ints_len, itemsN_eq]; simp [natI]
  refine Run.keep [1, 2, 3, 8, 9, 10] rfl ?_
  refine Run.at (l' := [(1, .box (pd q)), (2, .d (.v (.int .i64 (optI none)))), (3, .d (.v (.bool (none : Option Nat).isSome))), (8, .d (.lst .any 1 (ints (itemsN q.dn)))), (9, .d (.v (.int .i64 (itemsL q.dn).length))), (10, .d (.v (.int .i64 (0 : Nat))))]) (by rw [← hlx]; rfl) ?_
  refine Run.loopL (α := List Nat × List Nat × Option Nat) (fun x => itemsL q.dn = x.1 ++ x.2.1 ∧ x.1.foldl (srcStep q) none = x.2.2) (fun x => [(1, .box (pd q)), (2, .d (.v (.int .i64 (optI x.2.2)))), (3, .d (.v (.bool x.2.2.isSome))), (8, .d (.lst .any 1 (ints (itemsN q.dn)))), (9, .d (.v (.int .i64 (itemsL q.dn).length))), (10, .d (.v (.int .i64 x.1.length)))]) (fun x => x.2.1.length) ([], itemsL q.dn, none) ⟨rfl, rfl⟩ ?_
  rintro ⟨pre, post, acc⟩ ⟨hp, ha⟩ ih
  simp only at hp ha
  have hlen : (itemsL q.dn).length = pre.length + post.length := by rw [hp]; simp
  refine Run.at (l' := [(1, .box (pd q)), (2, .d (.v (.int .i64 (optI acc)))), (3, .d (.v (.bool acc.isSome))), (8, .d (.lst .any 1 (ints (itemsN q.dn)))), (9, .d (.v (.int .i64 (itemsL q.dn).length))), (10, .d (.v (.int .i64 pre.length)))]) rfl ?_
  repeat (first | refine wa ?_ | refine wb ?_ | refine wc ?_ | ((refine wn (wp rfl rfl rfl rfl rfl ?_) rfl ?_); try (first | ((repeat' apply And.intro) <;> first | exact trivial | exact rfl | omega | (simp; done) | (simp; omega)))))
  refine Run.condB rfl rfl (fun hb => ?_) (fun hb => ?_)
  · cases post with
    | nil => simp at hlen hb; omega
    | cons x post =>
      simp only [List.length_cons] at hlen
      have hgd : (ints (itemsN q.dn)).getD ((pre.length : Int)).toNat un = .v (.int .i64 x) := by rw [itemsN_eq, hp]; simp [ints, natI]
      have hx : x < 32 := h.t32 (.inr (itemsL_mem.1 (by rw [hp]; simp)).2)
      have hacc : ∀ b, acc = some b → b < 32 := fun b hb2 => ((src_fold q pre none (fun b hb => by cases hb)).1 b (by rw [ha, hb2])).2.2
      have hfold : (pre ++ [x]).foldl (srcStep q) none = srcStep q acc x := by rw [List.foldl_append, ha]; rfl
      repeat (first | refine wa ?_ | refine wc ?_ | refine wd ?_ | refine wf ?_ | ((refine wl rfl rfl ?_ ?_); try (first | (rw [hgd] <;> rfl) | ((repeat' apply And.intro) <;> first | exact trivial | exact rfl | omega | (simp; done) | (simp; omega)))))
      first | refine OpsAt.say (d := 13) rfl (y := .v (.int .i64 x)) (hgd) ?_ | refine Run.say (d := 13) rfl (y := .v (.int .i64 x)) (hgd) ?_ | refine OpsR.say (q := 13) rfl (y := .v (.int .i64 x)) (hgd) ?_ | refine OpsB.say (d := 13) rfl (y := .v (.int .i64 x)) (hgd) ?_
      repeat (first | refine wa ?_ | refine wb ?_ | ((refine wl rfl rfl ?_ ?_); try (first | ((repeat' apply And.intro) <;> first | exact trivial | exact rfl | omega | (simp; done) | (simp; omega)))))
      refine Run.keep [1, 2, 3, 5, 8, 9, 10] rfl ?_
      refine Run.ops1 (ld := []) rfl ?_
      repeat (first | ((refine wl rfl rfl ?_ ?_); try (first | ((repeat' apply And.intro) <;> first | exact trivial | exact rfl | omega | (simp; done) | (simp; omega)) | exact pd_ld1 (by assumption) rfl)))
      first | refine OpsAt.say (d := 15) rfl (y := gr q.g) (rfl) ?_ | refine Run.say (d := 15) rfl (y := gr q.g) (rfl) ?_ | refine OpsR.say (q := 15) rfl (y := gr q.g) (rfl) ?_ | refine OpsB.say (d := 15) rfl (y := gr q.g) (rfl) ?_
      have hpg : (gr q.g).pl = true := gr_pl _
      refine wn (wA rfl rfl rfl (by repeat' (first | exact trivial | exact rfl | assumption | apply And.intro)) (callable (by decide)) (c_Ins q.g x hw.g)) rfl ?_
      repeat (first | ((first | refine wl rfl rfl ?_ ?_ | refine wn (wp rfl rfl rfl rfl rfl ?_) rfl ?_); try (first | ((repeat' apply And.intro) <;> first | exact trivial | exact rfl | omega | (simp; done) | (simp; omega)))))
      have hlp : pre.length < 64 := by have := itemsL_le q.dn; omega
      by_cases h0 : insN q.g (x : Int) = 0
      · have hz : ((((insN q.g (x : Int) : Nat) : Int) == 0)) = true := by rw [h0]; rfl
        refine OpsAt.say (d := 19) rfl (y := .v (.bool true)) (congrArg (fun z => D.v (.bool z)) hz) ?_
        repeat (first | ((first | refine wl rfl rfl ?_ ?_ | refine wm rfl rfl rfl ?_ ?_ | refine wo rfl (wp rfl rfl rfl rfl rfl ?_) rfl ?_); try (first | ((repeat' apply And.intro) <;> first | exact trivial | exact rfl | omega | (simp; done) | (simp; omega)))))
        first | refine OpsAt.say (d := 23) rfl (y := .v (.bool true)) (by rw [decide_eq_true (by omega : (x : Int) < 32)]) ?_ | refine Run.say (d := 23) rfl (y := .v (.bool true)) (by rw [decide_eq_true (by omega : (x : Int) < 32)]) ?_ | refine OpsR.say (q := 23) rfl (y := .v (.bool true)) (by rw [decide_eq_true (by omega : (x : Int) < 32)]) ?_ | refine OpsB.say (d := 23) rfl (y := .v (.bool true)) (by rw [decide_eq_true (by omega : (x : Int) < 32)]) ?_
        repeat (first | ((refine wm rfl rfl rfl ?_ ?_); try (first | ((repeat' apply And.intro) <;> first | exact trivial | exact rfl | omega | (simp; done) | (simp; omega)))))
        cases acc with
        | none =>
          have hstep : srcStep q none x = some x := if_pos ⟨h0, hx, fun b hb => by cases hb⟩
          repeat (first | refine wb ?_ | refine wc ?_ | refine we ?_ | ((first | refine wl rfl rfl ?_ ?_ | refine wn (wp rfl rfl rfl rfl rfl ?_) rfl ?_ | refine wm rfl rfl rfl ?_ ?_ | refine wt rfl ?_ ?_); try (first | exact trivial | ((repeat' apply And.intro) <;> first | exact trivial | exact rfl | omega | (simp; done) | (simp; omega)))) | refine ws rfl rfl ?_)
          first | refine OpsAt.say (d := 2) rfl (y := .v (.int .i64 (optI (some x)))) (rfl) ?_ | refine Run.say (d := 2) rfl (y := .v (.int .i64 (optI (some x)))) (rfl) ?_ | refine OpsR.say (q := 2) rfl (y := .v (.int .i64 (optI (some x)))) (rfl) ?_ | refine OpsB.say (d := 2) rfl (y := .v (.int .i64 (optI (some x)))) (rfl) ?_
          first | refine OpsAt.say (d := 3) rfl (y := .v (.bool (some x).isSome)) (rfl) ?_ | refine Run.say (d := 3) rfl (y := .v (.bool (some x).isSome)) (rfl) ?_ | refine OpsR.say (q := 3) rfl (y := .v (.bool (some x).isSome)) (rfl) ?_ | refine OpsB.say (d := 3) rfl (y := .v (.bool (some x).isSome)) (rfl) ?_
          first | refine OpsAt.say (d := 10) rfl (y := .v (.int .i64 ((pre ++ [x]).length : Nat))) (by rw [wrap64_in ((pre.length : Int) + 1) (by omega)]; simp) ?_ | refine Run.say (d := 10) rfl (y := .v (.int .i64 ((pre ++ [x]).length : Nat))) (by rw [wrap64_in ((pre.length : Int) + 1) (by omega)]; simp) ?_ | refine OpsR.say (q := 10) rfl (y := .v (.int .i64 ((pre ++ [x]).length : Nat))) (by rw [wrap64_in ((pre.length : Int) + 1) (by omega)]; simp) ?_ | refine OpsB.say (d := 10) rfl (y := .v (.int .i64 ((pre ++ [x]).length : Nat))) (by rw [wrap64_in ((pre.length : Int) + 1) (by omega)]; simp) ?_
          refine Run.keep [1, 2, 3, 8, 9, 10] rfl ?_
          exact ih (pre ++ [x], post, some x) ⟨by simp [hp], by rw [hfold]; exact hstep⟩ (by simp)
        | some b =>
          have hb32 := hacc b rfl
          have hgx := ids_at hw hx
          have hgb := ids_at hw hb32
          repeat (first | ((refine wm rfl rfl rfl ?_ ?_); try (first | ((repeat' apply And.intro) <;> first | exact trivial | exact rfl | omega | (simp; done) | (simp; omega)) | exact pd_fa (by assumption) rfl (by decide))))
          · exact ⟨rfl, rfl, by rw [ints_len, h.ids], by omega, by omega⟩
          refine wo rfl (Ev.ldBox rfl (adrOf_sound rfl) (ld_ok (T := 3) hgx rfl).1 (ld_ok (T := 3) hgx rfl).2) rfl ?_
          first | refine OpsAt.say (d := 30) rfl (y := .v (.int .i64 (q.ids.getD x 0))) (hgx) ?_ | refine Run.say (d := 30) rfl (y := .v (.int .i64 (q.ids.getD x 0))) (hgx) ?_ | refine OpsR.say (q := 30) rfl (y := .v (.int .i64 (q.ids.getD x 0))) (hgx) ?_ | refine OpsB.say (d := 30) rfl (y := .v (.int .i64 (q.ids.getD x 0))) (hgx) ?_
          repeat (first | ((refine wm rfl rfl rfl ?_ ?_); try (first | ((repeat' apply And.intro) <;> first | exact trivial | exact rfl | omega | (simp; done) | (simp; omega)) | exact pd_fa (by assumption) rfl (by decide))))
          · exact ⟨rfl, rfl, by rw [ints_len, h.ids], by show (0 : Int) ≤ (b : Int); omega, by show (b : Int) < 32; omega⟩
          refine wo rfl (Ev.ldBox rfl (adrOf_sound rfl) (ld_ok (T := 3) hgb rfl).1 (ld_ok (T := 3) hgb rfl).2) rfl ?_
          first | refine OpsAt.say (d := 34) rfl (y := .v (.int .i64 (q.ids.getD b 0))) (hgb) ?_ | refine Run.say (d := 34) rfl (y := .v (.int .i64 (q.ids.getD b 0))) (hgb) ?_ | refine OpsR.say (q := 34) rfl (y := .v (.int .i64 (q.ids.getD b 0))) (hgb) ?_ | refine OpsB.say (d := 34) rfl (y := .v (.int .i64 (q.ids.getD b 0))) (hgb) ?_
          repeat (first | refine wb ?_ | ((first | refine wl rfl rfl ?_ ?_ | refine wm rfl rfl rfl ?_ ?_ | refine wo rfl (wp rfl rfl rfl rfl rfl ?_) rfl ?_); try (first | ((repeat' apply And.intro) <;> first | exact trivial | exact rfl | omega | (simp; done) | (simp; omega)))))
          refine Run.condB rfl rfl (fun hlt => ?_) (fun hlt => ?_)
          · have hlt' := of_decide_eq_true hlt
            have hstep : srcStep q (some b) x = some x := if_pos ⟨h0, hx, fun b' hb => by cases hb; exact hlt'⟩
            repeat (first | refine wb ?_ | refine wc ?_ | refine we ?_ | ((first | refine wl rfl rfl ?_ ?_ | refine wn (wp rfl rfl rfl rfl rfl ?_) rfl ?_); try (first | exact trivial | ((repeat' apply And.intro) <;> first | exact trivial | exact rfl | omega | (simp; done) | (simp; omega)))))
            first | refine OpsAt.say (d := 2) rfl (y := .v (.int .i64 (optI (some x)))) (rfl) ?_ | refine Run.say (d := 2) rfl (y := .v (.int .i64 (optI (some x)))) (rfl) ?_ | refine OpsR.say (q := 2) rfl (y := .v (.int .i64 (optI (some x)))) (rfl) ?_ | refine OpsB.say (d := 2) rfl (y := .v (.int .i64 (optI (some x)))) (rfl) ?_
            first | refine OpsAt.say (d := 3) rfl (y := .v (.bool (some x).isSome)) (rfl) ?_ | refine Run.say (d := 3) rfl (y := .v (.bool (some x).isSome)) (rfl) ?_ | refine OpsR.say (q := 3) rfl (y := .v (.bool (some x).isSome)) (rfl) ?_ | refine OpsB.say (d := 3) rfl (y := .v (.bool (some x).isSome)) (rfl) ?_
            first | refine OpsAt.say (d := 10) rfl (y := .v (.int .i64 ((pre ++ [x]).length : Nat))) (by rw [wrap64_in ((pre.length : Int) + 1) (by omega)]; simp) ?_ | refine Run.say (d := 10) rfl (y := .v (.int .i64 ((pre ++ [x]).length : Nat))) (by rw [wrap64_in ((pre.length : Int) + 1) (by omega)]; simp) ?_ | refine OpsR.say (q := 10) rfl (y := .v (.int .i64 ((pre ++ [x]).length : Nat))) (by rw [wrap64_in ((pre.length : Int) + 1) (by omega)]; simp) ?_ | refine OpsB.say (d := 10) rfl (y := .v (.int .i64 ((pre ++ [x]).length : Nat))) (by rw [wrap64_in ((pre.length : Int) + 1) (by omega)]; simp) ?_
            refine Run.keep [1, 2, 3, 8, 9, 10] rfl ?_
            exact ih (pre ++ [x], post, some x) ⟨by simp [hp], by rw [hfold]; exact hstep⟩ (by simp)
          · have hlt' := of_decide_eq_false hlt
            have hstep : srcStep q (some b) x = some b := if_neg fun hc => hlt' (hc.2.2 b rfl)
            repeat (first | refine wb ?_ | refine wc ?_ | refine we ?_ | refine wf ?_ | ((first | refine wl rfl rfl ?_ ?_ | refine wn (wp rfl rfl rfl rfl rfl ?_) rfl ?_); try (first | ((repeat' apply And.intro) <;> first | exact trivial | exact rfl | omega | (simp; done) | (simp; omega)))))
            first | refine OpsAt.say (d := 10) rfl (y := .v (.int .i64 ((pre ++ [x]).length : Nat))) (by rw [wrap64_in ((pre.length : Int) + 1) (by omega)]; simp) ?_ | refine Run.say (d := 10) rfl (y := .v (.int .i64 ((pre ++ [x]).length : Nat))) (by rw [wrap64_in ((pre.length : Int) + 1) (by omega)]; simp) ?_ | refine OpsR.say (q := 10) rfl (y := .v (.int .i64 ((pre ++ [x]).length : Nat))) (by rw [wrap64_in ((pre.length : Int) + 1) (by omega)]; simp) ?_ | refine OpsB.say (d := 10) rfl (y := .v (.int .i64 ((pre ++ [x]).length : Nat))) (by rw [wrap64_in ((pre.length : Int) + 1) (by omega)]; simp) ?_
            refine Run.keep [1, 2, 3, 8, 9, 10] rfl ?_
            exact ih (pre ++ [x], post, some b) ⟨by simp [hp], by rw [hfold]; exact hstep⟩ (by simp)
      · have hstep : srcStep q acc x = acc := if_neg fun hc => h0 hc.1
        have hz : ((((insN q.g (x : Int) : Nat) : Int) == 0)) = false := by simp only [beq_eq_false_iff_ne, ne_eq]; omega
        first | refine OpsAt.say (d := 19) rfl (y := .v (.bool false)) (congrArg (fun z => D.v (.bool z)) hz) ?_ | refine Run.say (d := 19) rfl (y := .v (.bool false)) (congrArg (fun z => D.v (.bool z)) hz) ?_ | refine OpsR.say (q := 19) rfl (y := .v (.bool false)) (congrArg (fun z => D.v (.bool z)) hz) ?_ | refine OpsB.say (d := 19) rfl (y := .v (.bool false)) (congrArg (fun z => D.v (.bool z)) hz) ?_
        repeat (first | refine wb ?_ | refine wc ?_ | refine we ?_ | refine wf ?_ | ((first | refine wl rfl rfl ?_ ?_ | refine wn (wp rfl rfl rfl rfl rfl ?_) rfl ?_ | refine wu rfl ?_ ?_); try (first | ((repeat' apply And.intro) <;> first | exact trivial | exact rfl | omega | (simp; done) | (simp; omega)))) | refine ws rfl rfl ?_)
        first | refine OpsAt.say (d := 10) rfl (y := .v (.int .i64 ((pre ++ [x]).length : Nat))) (by rw [wrap64_in ((pre.length : Int) + 1) (by omega)]; simp) ?_ | refine Run.say (d := 10) rfl (y := .v (.int .i64 ((pre ++ [x]).length : Nat))) (by rw [wrap64_in ((pre.length : Int) + 1) (by omega)]; simp) ?_ | refine OpsR.say (q := 10) rfl (y := .v (.int .i64 ((pre ++ [x]).length : Nat))) (by rw [wrap64_in ((pre.length : Int) + 1) (by omega)]; simp) ?_ | refine OpsB.say (d := 10) rfl (y := .v (.int .i64 ((pre ++ [x]).length : Nat))) (by rw [wrap64_in ((pre.length : Int) + 1) (by omega)]; simp) ?_
        refine Run.keep [1, 2, 3, 8, 9, 10] rfl ?_
        exact ih (pre ++ [x], post, acc) ⟨by simp [hp], by rw [hfold]; exact hstep⟩ (by simp)
  · have h0 : post = [] := by cases post with | nil => rfl | cons x post => simp at hlen hb; omega
    subst h0
    repeat (first | refine wa ?_ | refine wb ?_ | refine wc ?_ | ((refine wl rfl rfl ?_ ?_); try (first | ((repeat' apply And.intro) <;> first | exact trivial | exact rfl | omega | (simp; done) | (simp; omega)))) | refine wj rfl ?_)
    refine wD (Ends.tupE agree rfl ⟨rfl, rfl, trivial⟩ rfl ?_)
    rw [List.append_nil] at hp
    unfold srcP
    rw [hp, ha]
end Go.Proofs.YtaflihoopnjcgaaDoor

namespace Go.Proofs.YtaflihoopnjcgaaDoor
open Go Go.Dat

theorem PW.tm {q : PL} (h : PW q) : takenP q < M64 := or_lt h.lm h.dm
set_option maxHeartbeats 4000000 in
theorem c_Edge (q : PL) (a b : Int) (h : PW q) : DFun Tryd.prog 23 [pd q, .v (.int .i64 a), .v (.int .i64 b)] (.tup [pd (edgeP q a b).1, .v (.int .i64 (edgeP q a b).2)]) := by
  refine DFun.ofRun agree mixed Tryd.func23 rfl rfl ?_
  have hz := pw0
  repeat (first | refine wa ?_ | refine wb ?_ | refine wc ?_ | refine wd ?_ | ((first | refine wl rfl rfl ?_ ?_ | refine wn (wp rfl rfl rfl rfl rfl ?_) rfl ?_); try (first | exact trivial | ((repeat' apply And.intro) <;> first | exact trivial | exact rfl | omega | (simp; done) | (simp; omega)) | exact pd_pl _)))
  first | refine OpsAt.sayB (d := 6) rfl (y := pd zeroP) (rfl) ?_ | refine Run.sayB (d := 6) rfl (y := pd zeroP) (rfl) ?_
  skip
  refine Run.condB rfl rfl (fun h0 => ?_) (fun h0 => ?_)
  · have h0' := of_decide_eq_true h0
    have e : edgeP q a b = (q, 2) := by unfold edgeP; rw [if_pos h0']
    rw [e]
    repeat (first | refine wa ?_ | refine wb ?_ | refine wc ?_ | ((refine wl rfl rfl ?_ ?_); try (first | exact trivial | exact ⟨pd_fits (by assumption) rfl, pd_pl _⟩)) | refine wv rfl rfl (pd_pl _) (pd_sto (by assumption) (by assumption) rfl) rfl ?_)
    exact wD (Ends.tupE agree rfl ⟨⟨pd_fits h rfl, pd_pl _⟩, rfl, trivial⟩ rfl rfl)
  have hab := of_decide_eq_false h0
  have hpl : ((pd q).get []).pl = true := pd_pl q
  repeat (first | refine wa ?_ | refine wc ?_ | ((refine wl rfl rfl ?_ ?_); try (first | exact ⟨pd_fits (by assumption) rfl, pd_pl _⟩)))
  refine wn (wA rfl rfl rfl (by repeat' (first | exact trivial | exact rfl | assumption | apply And.intro)) (callable (by decide)) (c_taken q h)) rfl ?_
  repeat (first | ((refine wl rfl rfl ?_ ?_); try (first | ((repeat' apply And.intro) <;> first | exact trivial | exact rfl | omega | (simp; done) | (simp; omega)))))
  refine wn (wA rfl rfl rfl (by repeat' (first | exact trivial | exact rfl | assumption | apply And.intro)) (callable (by decide)) (c_Has (takenP q) a h.tm)) rfl ?_
  cases ha : hasN (takenP q) a with
  | false =>
    have e : edgeP q a b = (q, 3) := by unfold edgeP; rw [if_neg hab, ha]; rfl
    rw [e]
    repeat (first | refine wa ?_ | refine wb ?_ | refine wc ?_ | ((first | refine wl rfl rfl ?_ ?_ | refine wt rfl ?_ ?_); try (first | exact trivial | ((repeat' apply And.intro) <;> first | exact trivial | exact rfl | omega | (simp; done) | (simp; omega)) | exact ⟨pd_fits (by assumption) rfl, pd_pl _⟩)) | refine ws rfl rfl ?_ | refine wv rfl rfl (pd_pl _) (pd_sto (by assumption) (by assumption) rfl) rfl ?_)
    exact wD (Ends.tupE agree rfl ⟨⟨pd_fits h rfl, pd_pl _⟩, rfl, trivial⟩ rfl rfl)
  | true =>
  repeat (first | ((first | refine wl rfl rfl ?_ ?_ | refine wm rfl rfl rfl ?_ ?_); try (first | ((repeat' apply And.intro) <;> first | exact trivial | exact rfl | omega | (simp; done) | (simp; omega)) | exact ⟨pd_fits (by assumption) rfl, pd_pl _⟩)))
  refine wo rfl (wA rfl rfl rfl (by repeat' (first | exact trivial | exact rfl | assumption | apply And.intro)) (callable (by decide)) (c_taken q h)) rfl ?_
  repeat (first | ((refine wm rfl rfl rfl ?_ ?_); try (first | ((repeat' apply And.intro) <;> first | exact trivial | exact rfl | omega | (simp; done) | (simp; omega)))))
  refine wo rfl (wA rfl rfl rfl (by repeat' (first | exact trivial | exact rfl | assumption | apply And.intro)) (callable (by decide)) (c_Has (takenP q) b h.tm)) rfl ?_
  cases hb : hasN (takenP q) b with
  | false =>
    have e : edgeP q a b = (q, 3) := by unfold edgeP; rw [if_neg hab, ha, hb]; rfl
    rw [e]
    repeat (first | refine wa ?_ | refine wb ?_ | refine wc ?_ | ((first | refine wl rfl rfl ?_ ?_ | refine wm rfl rfl rfl ?_ ?_ | refine wt rfl ?_ ?_); try (first | exact trivial | ((repeat' apply And.intro) <;> first | exact trivial | exact rfl | omega | (simp; done) | (simp; omega)) | exact ⟨pd_fits (by assumption) rfl, pd_pl _⟩)) | refine wv rfl rfl (pd_pl _) (pd_sto (by assumption) (by assumption) rfl) rfl ?_)
    exact wD (Ends.tupE agree rfl ⟨⟨pd_fits h rfl, pd_pl _⟩, rfl, trivial⟩ rfl rfl)
  | true =>
  repeat (first | refine wb ?_ | refine we ?_ | refine wf ?_ | ((first | refine wl rfl rfl ?_ ?_ | refine wm rfl rfl rfl ?_ ?_ | refine wu rfl ?_ ?_); try (first | ((repeat' apply And.intro) <;> first | exact trivial | exact rfl | omega | (simp; done) | (simp; omega)))))
  refine Run.keep [1, 2, 3, 6] rfl ?_
  refine wa ?_
  refine wc ?_
  repeat (first | ((refine wl rfl rfl ?_ ?_); try (first | ((repeat' apply And.intro) <;> first | exact trivial | exact rfl | omega | (simp; done) | (simp; omega)) | exact ⟨pd_fits (by assumption) rfl, pd_pl _⟩)))
  first | refine OpsAt.sayB (d := 8) rfl (y := pd zeroP) (rfl) ?_ | refine Run.sayB (d := 8) rfl (y := pd zeroP) (rfl) ?_
  repeat (first | refine wa ?_ | refine wb ?_ | refine wc ?_ | ((refine wl rfl rfl ?_ ?_); try (first | ((repeat' apply And.intro) <;> first | exact trivial | exact rfl | omega | (simp; done) | (simp; omega)))) | refine wv rfl rfl (pd_pl _) (pd_sto (by assumption) (by assumption) rfl) rfl ?_)
  refine OpsAt.callBox (s := 8) rfl (adrOf_sound rfl) rfl rfl rfl rfl (pd_pl _) (by repeat' (first | exact trivial | exact rfl | apply And.intro)) rfl (callable (by decide)) (b_ahead q a b h) ?_
  cases hi : (insG q.g q.o a b).2.2 with
  | false =>
    have e : edgeP q a b = (q, 5) := by unfold edgeP; rw [if_neg hab, ha, hb, hi]; rfl
    rw [e]
    repeat (first | refine wa ?_ | refine wb ?_ | refine wc ?_ | ((first | refine wl rfl rfl ?_ ?_ | refine wt rfl ?_ ?_); try (first | exact trivial | ((repeat' apply And.intro) <;> first | exact trivial | exact rfl | omega | (simp; done) | (simp; omega)) | exact ⟨pd_fits (by assumption) rfl, pd_pl _⟩)) | refine wv rfl rfl (pd_pl _) (pd_sto (by assumption) (by assumption) rfl) rfl ?_)
    exact wD (Ends.tupE agree rfl ⟨⟨pd_fits h rfl, pd_pl _⟩, rfl, trivial⟩ rfl rfl)
  | true =>
    have e : edgeP q a b = (aheadP q a b, 0) := by unfold edgeP; rw [if_neg hab, ha, hb, hi]; rfl
    rw [e]
    have h2 := h.ahead a b
    repeat (first | refine wa ?_ | refine wb ?_ | refine wc ?_ | refine wf ?_ | ((first | refine wl rfl rfl ?_ ?_ | refine wu rfl ?_ ?_); try (first | exact trivial | ((repeat' apply And.intro) <;> first | exact trivial | exact rfl | omega | (simp; done) | (simp; omega)) | exact ⟨pd_fits (by assumption) rfl, pd_pl _⟩)) | refine wv rfl rfl (pd_pl _) (pd_sto (by assumption) (by assumption) rfl) rfl ?_)
    exact wD (Ends.tupE agree rfl ⟨⟨pd_fits h2 rfl, pd_pl _⟩, rfl, trivial⟩ rfl rfl)
end Go.Proofs.YtaflihoopnjcgaaDoor

namespace Go.Proofs.YtaflihoopnjcgaaDoor
open Go Go.Dat

theorem aheads_snoc (i : Int) (q : PL) (ks : List Nat) (k : Nat) : aheads i q (ks ++ [k]) = aheadP (aheads i q ks) (k : Int) i := by
  unfold aheads
  rw [List.foldl_append]
  rfl
theorem PW.aheads {q : PL} (h : PW q) (i : Int) (ks : List Nat) : PW (aheads i q ks) := by
  unfold Go.Proofs.YtaflihoopnjcgaaDoor.aheads
  induction ks generalizing q with
  | nil => exact h
  | cons k ks ih => exact ih (h.ahead _ _)
theorem aheads_same (i : Int) (q : PL) (ks : List Nat) : (aheads i q ks).lv = q.lv ∧ (aheads i q ks).ct = q.ct ∧ (aheads i q ks).ids = q.ids := by
  unfold aheads
  induction ks generalizing q with
  | nil => exact ⟨rfl, rfl, rfl⟩
  | cons k ks ih => exact ih (aheadP q k i)
theorem ids_put (q : PL) (i : Nat) (x : Int) : (pd q).set ([] ++ [5] ++ [((i : Int)).toNat]) (.v (.int .i64 x)) = pd { q with ids := q.ids.set i x } := by
  show D.st [_, _, _, _, _, (ord q.ids).set [((i : Int)).toNat] _, _] = _
  rw [Int.toNat_natCast, ord_set]
  rfl
theorem ids_sto {q : PL} (h : PW q) {i : Nat} (hi : i < 32) {T : TypeId} {x : Int} (hf : (Θ T).fits (.v (.int .i64 x)) = true) :
    ((Θ T).fits (.v (.int .i64 x)) && ((D.v (.int .i64 x)).size == ((pd q).get ([] ++ [5] ++ [((i : Int)).toNat])).size) && ((pd q).get ([] ++ [5] ++ [((i : Int)).toNat])).noOwn) = true := by
  rw [hf, ids_at h hi]
  rfl

set_option maxHeartbeats 4000000 in
theorem c_Begin (q : PL) (h : SP q) (hc : q.ct < 9223372036854775807) : DFun Tryd.prog 26 [pd q] (.tup [pd (beginP q).1, .v (.int .i64 (beginP q).2.1), .v (.int .i64 (beginP q).2.2)]) := by
  refine DFun.ofRun agree mixed Tryd.func26 rfl rfl ?_
  have hw := h.pw
  have hpl : ((pd q).get []).pl = true := pd_pl q
  have hz := pw0
  repeat (first | refine wa ?_ | refine wb ?_ | refine wc ?_ | ((refine wl rfl rfl ?_ ?_); try (first | exact trivial | ((repeat' apply And.intro) <;> first | exact trivial | exact rfl | omega | (simp; done) | (simp; omega)) | exact pd_pl _)))
  first | refine OpsAt.sayB (d := 2) rfl (y := pd zeroP) (rfl) ?_ | refine Run.sayB (d := 2) rfl (y := pd zeroP) (rfl) ?_
  skip
  refine Run.ops1 (ld := []) rfl ?_
  repeat (first | ((refine wl rfl rfl ?_ ?_); try (first | exact ⟨pd_fits (by assumption) rfl, pd_pl _⟩)))
  refine wn (wA rfl rfl rfl (by repeat' (first | exact trivial | exact rfl | assumption | apply And.intro)) (callable (by decide)) (c_slots q hw)) rfl ?_
  repeat (first | ((refine wl rfl rfl ?_ ?_); try (first | exact ⟨pd_fits (by assumption) rfl, pd_pl _⟩)))
  refine wn (wA rfl rfl rfl (by repeat' (first | exact trivial | exact rfl | assumption | apply And.intro)) (callable (by decide)) (c_taken q hw)) rfl ?_
  repeat (first | ((refine wn (wp rfl rfl rfl rfl rfl ?_) rfl ?_); try (first | ((repeat' apply And.intro) <;> first | exact trivial | exact rfl | omega | (simp; done) | (simp; omega)))))
  first | refine OpsAt.say (d := 12) rfl (y := S (freeP q)) (congrArg (fun z => D.v (.int .u64 z)) (andnot_is (slotsP q.sz) (takenP q))) ?_ | refine Run.say (d := 12) rfl (y := S (freeP q)) (congrArg (fun z => D.v (.int .u64 z)) (andnot_is (slotsP q.sz) (takenP q))) ?_ | refine OpsR.say (q := 12) rfl (y := S (freeP q)) (congrArg (fun z => D.v (.int .u64 z)) (andnot_is (slotsP q.sz) (takenP q))) ?_ | refine OpsB.say (d := 12) rfl (y := S (freeP q)) (congrArg (fun z => D.v (.int .u64 z)) (andnot_is (slotsP q.sz) (takenP q))) ?_
  refine wn (wA rfl rfl rfl (by repeat' (first | exact trivial | exact rfl | assumption | apply And.intro)) (callable (by decide)) (c_First (freeP q) (andn_lt _ _))) rfl ?_
  by_cases h0 : freeP q = 0
  · have e : beginP q = (q, 0, 4) := by unfold beginP; rw [if_pos h0]
    rw [e]
    first | refine OpsAt.say (d := 13) rfl (y := .v (.int .i64 (-1))) (by rw [h0]; rfl) ?_ | refine Run.say (d := 13) rfl (y := .v (.int .i64 (-1))) (by rw [h0]; rfl) ?_ | refine OpsR.say (q := 13) rfl (y := .v (.int .i64 (-1))) (by rw [h0]; rfl) ?_ | refine OpsB.say (d := 13) rfl (y := .v (.int .i64 (-1))) (by rw [h0]; rfl) ?_
    repeat (first | refine wa ?_ | refine wb ?_ | refine wc ?_ | ((first | refine wl rfl rfl ?_ ?_ | refine wn (wp rfl rfl rfl rfl rfl ?_) rfl ?_ | refine wt rfl ?_ ?_); try (first | exact trivial | ((repeat' apply And.intro) <;> first | exact trivial | exact rfl | omega | (simp; done) | (simp; omega)) | exact ⟨pd_fits (by assumption) rfl, pd_pl _⟩)) | refine wv rfl rfl (pd_pl _) (pd_sto (by assumption) (by assumption) rfl) rfl ?_)
    exact wD (Ends.tupE agree rfl ⟨⟨pd_fits hw rfl, pd_pl _⟩, rfl, rfl, trivial⟩ rfl rfl)
  · obtain ⟨i, e1, hi, e, hb⟩ := h.begin h0
    rw [e]
    first | refine OpsAt.say (d := 13) rfl (y := .v (.int .i64 (i : Nat))) (by rw [e1]) ?_ | refine Run.say (d := 13) rfl (y := .v (.int .i64 (i : Nat))) (by rw [e1]) ?_ | refine OpsR.say (q := 13) rfl (y := .v (.int .i64 (i : Nat))) (by rw [e1]) ?_ | refine OpsB.say (d := 13) rfl (y := .v (.int .i64 (i : Nat))) (by rw [e1]) ?_
    repeat (first | refine wa ?_ | refine wb ?_ | refine wc ?_ | refine wf ?_ | ((first | refine wl rfl rfl ?_ ?_ | refine wn (wp rfl rfl rfl rfl rfl ?_) rfl ?_ | refine wu rfl ?_ ?_); try (first | ((repeat' apply And.intro) <;> first | exact trivial | exact rfl | omega | (simp; done) | (simp; omega)) | exact pd_fa (by assumption) rfl (by decide))))
    first | refine OpsAt.say (d := 18) rfl (y := S q.dn) (rfl) ?_ | refine Run.say (d := 18) rfl (y := S q.dn) (rfl) ?_ | refine OpsR.say (q := 18) rfl (y := S q.dn) (rfl) ?_ | refine OpsB.say (d := 18) rfl (y := S q.dn) (rfl) ?_
    refine wn (wA rfl rfl rfl (by repeat' (first | exact trivial | exact rfl | assumption | apply And.intro)) (callable (by decide)) (c_Items q.dn h.dm)) rfl ?_
    repeat (first | refine wb ?_ | refine wd ?_ | ((first | refine wl rfl rfl ?_ ?_ | refine wn (wq agree rfl rfl rfl ?_) rfl ?_); try (first | exact trivial | ((repeat' apply And.intro) <;> first | exact trivial | exact rfl | omega | (simp; done) | (simp; omega)))))
    have hlx : ((ints (itemsN q.dn)).length : Int) = (itemsL q.dn).length := by rw [ints_len, itemsN_eq]; simp [natI]
    refine Run.keep [1, 2, 5, 19, 20, 21] rfl ?_
    refine Run.at (l' := [(1, .box (pd (aheads (i : Int) q []))), (2, .box (pd zeroP)), (5, .d (.v (.int .i64 i))), (19, .d (.lst .any 1 (ints (itemsN q.dn)))), (20, .d (.v (.int .i64 (itemsL q.dn).length))), (21, .d (.v (.int .i64 (0 : Nat))))]) (by rw [← hlx]; rfl) ?_
    refine Run.loopL (α := List Nat × List Nat) (fun x => itemsL q.dn = x.1 ++ x.2) (fun x => [(1, .box (pd (aheads (i : Int) q x.1))), (2, .box (pd zeroP)), (5, .d (.v (.int .i64 i))), (19, .d (.lst .any 1 (ints (itemsN q.dn)))), (20, .d (.v (.int .i64 (itemsL q.dn).length))), (21, .d (.v (.int .i64 x.1.length)))]) (fun x => x.2.length) ([], itemsL q.dn) rfl ?_
    rintro ⟨pre, post⟩ hp ih
    simp only at hp
    have hlen : (itemsL q.dn).length = pre.length + post.length := by rw [hp]; simp
    have hlp : (itemsL q.dn).length ≤ 64 := itemsL_le q.dn
    have hr := hw.aheads (i : Int) pre
    have hsame := aheads_same (i : Int) q pre
    have hend : post = [] → pd (seatP (aheads (i : Int) q (itemsL q.dn)) (i : Int)) = pd (seatP (aheads (i : Int) q pre) (i : Int)) := fun e => by rw [hp, e, List.append_nil]
    have hsn := aheads_snoc (i : Int) q pre
    obtain ⟨r, hr0⟩ : ∃ r, r = aheads (i : Int) q pre := ⟨_, rfl⟩
    rw [← hr0] at hr hsame hend hsn
    refine Run.at (l' := [(1, .box (pd r)), (2, .box (pd zeroP)), (5, .d (.v (.int .i64 i))), (19, .d (.lst .any 1 (ints (itemsN q.dn)))), (20, .d (.v (.int .i64 (itemsL q.dn).length))), (21, .d (.v (.int .i64 pre.length)))]) (by rw [hr0]) ?_
    repeat (first | refine wa ?_ | refine wb ?_ | refine wc ?_ | ((refine wn (wp rfl rfl rfl rfl rfl ?_) rfl ?_); try (first | ((repeat' apply And.intro) <;> first | exact trivial | exact rfl | omega | (simp; done) | (simp; omega)))))
    refine Run.condB rfl rfl (fun hb2 => ?_) (fun hb2 => ?_)
    · cases post with
      | nil => simp at hlen hb2; omega
      | cons x post =>
        simp only [List.length_cons] at hlen
        have hgd : (ints (itemsN q.dn)).getD ((pre.length : Int)).toNat un = .v (.int .i64 x) := by rw [itemsN_eq, hp]; simp [ints, natI]
        repeat (first | refine wa ?_ | refine wc ?_ | refine wd ?_ | refine wf ?_ | ((refine wl rfl rfl ?_ ?_); try (first | (rw [hgd] <;> rfl) | ((repeat' apply And.intro) <;> first | exact trivial | exact rfl | omega | (simp; done) | (simp; omega)))))
        first | refine OpsAt.say (d := 24) rfl (y := .v (.int .i64 x)) (hgd) ?_ | refine Run.say (d := 24) rfl (y := .v (.int .i64 x)) (hgd) ?_ | refine OpsR.say (q := 24) rfl (y := .v (.int .i64 x)) (hgd) ?_ | refine OpsB.say (d := 24) rfl (y := .v (.int .i64 x)) (hgd) ?_
        repeat (first | refine wb ?_ | refine wc ?_ | ((refine wl rfl rfl ?_ ?_); try (first | ((repeat' apply And.intro) <;> first | exact trivial | exact rfl | omega | (simp; done) | (simp; omega)))))
        refine OpsAt.callBox (s := 1) rfl (adrOf_sound rfl) rfl rfl rfl rfl (pd_pl _) (by repeat' (first | exact trivial | exact rfl | apply And.intro)) rfl (callable (by decide)) (b_ahead r x i hr) ?_
        repeat (first | refine wb ?_ | refine wc ?_ | refine we ?_ | ((first | refine wl rfl rfl ?_ ?_ | refine wn (wp rfl rfl rfl rfl rfl ?_) rfl ?_); try (first | ((repeat' apply And.intro) <;> first | exact trivial | exact rfl | omega | (simp; done) | (simp; omega)))))
        first | refine OpsAt.say (d := 21) rfl (y := .v (.int .i64 ((pre ++ [x]).length : Nat))) (by rw [wrap64_in ((pre.length : Int) + 1) (by omega)]; simp) ?_ | refine Run.say (d := 21) rfl (y := .v (.int .i64 ((pre ++ [x]).length : Nat))) (by rw [wrap64_in ((pre.length : Int) + 1) (by omega)]; simp) ?_ | refine OpsR.say (q := 21) rfl (y := .v (.int .i64 ((pre ++ [x]).length : Nat))) (by rw [wrap64_in ((pre.length : Int) + 1) (by omega)]; simp) ?_ | refine OpsB.say (d := 21) rfl (y := .v (.int .i64 ((pre ++ [x]).length : Nat))) (by rw [wrap64_in ((pre.length : Int) + 1) (by omega)]; simp) ?_
        first | refine OpsAt.sayB (d := 1) rfl (y := pd (aheads (i : Int) q (pre ++ [x]))) (by rw [hsn]) ?_ | refine Run.sayB (d := 1) rfl (y := pd (aheads (i : Int) q (pre ++ [x]))) (by rw [hsn]) ?_
        refine Run.keep [1, 2, 5, 19, 20, 21] rfl ?_
        exact ih (pre ++ [x], post) (by simp [hp]) (by simp)
    · have h1 : post = [] := by cases post with | nil => rfl | cons x post => simp at hlen hb2; omega
      rw [hend h1]
      repeat (first | refine wa ?_ | refine wc ?_ | ((refine wl rfl rfl ?_ ?_); try (first | ((repeat' apply And.intro) <;> first | exact trivial | exact rfl | omega | (simp; done) | (simp; omega)) | exact pd_fa (by assumption) rfl (by decide))) | refine wj rfl ?_)
      first | refine OpsAt.say (d := 30) rfl (y := S r.lv) (rfl) ?_ | refine Run.say (d := 30) rfl (y := S r.lv) (rfl) ?_ | refine OpsR.say (q := 30) rfl (y := S r.lv) (rfl) ?_ | refine OpsB.say (d := 30) rfl (y := S r.lv) (rfl) ?_
      refine wn (wA rfl rfl rfl (by repeat' (first | exact trivial | exact rfl | assumption | apply And.intro)) (callable (by decide)) (c_With r.lv i hr.lm)) rfl ?_
      repeat (first | refine wb ?_ | ((first | refine wl rfl rfl ?_ ?_ | refine wv rfl rfl ?_ rfl rfl ?_); try (first | ((repeat' apply And.intro) <;> first | exact trivial | exact rfl | omega | (simp; done) | (simp; omega)) | exact pd_fa (by assumption) rfl (by decide))))
      first | refine OpsAt.sayB (d := 1) rfl (y := pd { r with lv := withN r.lv (i : Int) }) (rfl) ?_ | refine Run.sayB (d := 1) rfl (y := pd { r with lv := withN r.lv (i : Int) }) (rfl) ?_
      have hr1 := hr.withLv (withN_lt (i : Int) hr.lm)
      refine Run.keep [1, 2, 5] rfl ?_
      refine wa ?_
      refine wc ?_
      repeat (first | refine wb ?_ | ((first | refine wl rfl rfl ?_ ?_ | refine wn (wp rfl rfl rfl rfl rfl ?_) rfl ?_ | refine wv rfl rfl ?_ rfl rfl ?_); try (first | ((repeat' apply And.intro) <;> first | exact trivial | exact rfl | omega | (simp; done) | (simp; omega)) | exact pd_fa (by assumption) rfl (by decide))))
      have hct : IntKind.i64.wrap (r.ct + 1) = r.ct + 1 := by rw [show r.ct = q.ct from hsame.2.1, wrap64_in (q.ct + 1) (by have := h.c0; omega)]
      first | refine OpsAt.sayB (d := 1) rfl (y := pd { r with lv := withN r.lv (i : Int), ct := r.ct + 1 }) (congrArg (fun z => pd { r with lv := withN r.lv (i : Int), ct := z }) hct) ?_ | refine Run.sayB (d := 1) rfl (y := pd { r with lv := withN r.lv (i : Int), ct := r.ct + 1 }) (congrArg (fun z => pd { r with lv := withN r.lv (i : Int), ct := z }) hct) ?_
      have hr2 := hr1.withCt (r.ct + 1)
      refine Run.keep [1, 2, 5] rfl ?_
      refine wa ?_
      refine wc ?_
      repeat (first | ((refine wl rfl rfl ?_ ?_); try (first | ((repeat' apply And.intro) <;> first | exact trivial | exact rfl | omega | (simp; done) | (simp; omega)) | exact pd_fa (by assumption) rfl (by decide))))
      · exact ⟨rfl, rfl, by rw [ints_len]; exact hr2.ids, by omega, by omega⟩
      skip
      first | refine OpsAt.say (d := 40) rfl (y := .v (.int .i64 (r.ct + 1))) (rfl) ?_ | refine Run.say (d := 40) rfl (y := .v (.int .i64 (r.ct + 1))) (rfl) ?_ | refine OpsR.say (q := 40) rfl (y := .v (.int .i64 (r.ct + 1))) (rfl) ?_ | refine OpsB.say (d := 40) rfl (y := .v (.int .i64 (r.ct + 1))) (rfl) ?_
      refine wv rfl rfl rfl (ids_sto hr2 hi rfl) rfl ?_
      first | refine OpsAt.sayB (d := 1) rfl (y := pd (seatP r (i : Int))) (ids_put _ i _) ?_ | refine Run.sayB (d := 1) rfl (y := pd (seatP r (i : Int))) (ids_put _ i _) ?_
      have hr3 : PW (seatP r (i : Int)) := hr2.withIds i (r.ct + 1)
      repeat (first | refine wa ?_ | refine wb ?_ | refine wc ?_ | ((refine wl rfl rfl ?_ ?_); try (first | exact trivial | ((repeat' apply And.intro) <;> first | exact trivial | exact rfl | omega | (simp; done) | (simp; omega)) | exact ⟨pd_fits (by assumption) rfl, pd_pl _⟩)) | refine wv rfl rfl (pd_pl _) (pd_sto (by assumption) (by assumption) rfl) rfl ?_)
      exact wD (Ends.tupE agree rfl ⟨⟨pd_fits hr3 rfl, pd_pl _⟩, rfl, rfl, trivial⟩ rfl rfl)
end Go.Proofs.YtaflihoopnjcgaaDoor

namespace Go.Proofs.YtaflihoopnjcgaaDoor
open Go Go.Dat

theorem col_none {q : PL} (h : srcP q = none) (n : Nat) : colP n q = (q, []) := by
  cases n with
  | zero => rfl
  | succ n => unfold colP; rw [h]
theorem col_some {q : PL} {i : Nat} (h : srcP q = some i) (n : Nat) : colP (n + 1) q = ((colP n (goP q i)).1, q.ids.getD i 0 :: (colP n (goP q i)).2) := by
  conv => lhs; unfold colP
  rw [h]

set_option maxHeartbeats 4000000 in
theorem c_Collect (q : PL) (h : SP q) : DFun Tryd.prog 15 [pd q] (.tup [pd (colP 64 q).1, .lst .any 1 (ints (colP 64 q).2)]) := by
  refine DFun.ofRun agree mixed Tryd.func15 rfl rfl ?_
  have hz := pw0
  refine wa ?_
  refine wc ?_
  repeat (first | refine wb ?_ | refine wg ?_ | ((refine wl rfl rfl ?_ ?_); try (first | exact trivial | ((repeat' apply And.intro) <;> first | exact trivial | exact rfl | omega | (simp; done) | (simp; omega)) | exact pd_pl _)))
  first | refine OpsAt.sayB (d := 2) rfl (y := pd zeroP) (rfl) ?_ | refine Run.sayB (d := 2) rfl (y := pd zeroP) (rfl) ?_
  refine wa ?_
  refine wc ?_
  repeat (first | refine wb ?_ | ((refine wl rfl rfl ?_ ?_); try (first | exact trivial)))
  refine wa ?_
  refine wi ?_
  refine Run.ownNil 4 3 1 rfl ?_
  refine Run.keep [1, 2, 4] rfl ?_
  refine Run.at (l' := [(1, .box (pd q)), (2, .box (pd zeroP)), (4, .d (.own ([] : List Int).isEmpty 3 1 (ints [])))]) rfl ?_
  refine Run.again (α := PL × List Int × Nat) (fun x => SP x.1 ∧ (colP 64 q).1 = (colP x.2.2 x.1).1 ∧ (colP 64 q).2 = x.2.1 ++ (colP x.2.2 x.1).2 ∧ (itemsL x.1.dn).length ≤ x.2.2 ∧ x.2.1.length + x.2.2 = 64) (fun x => [(1, .box (pd x.1)), (2, .box (pd zeroP)), (4, .d (.own x.2.1.isEmpty 3 1 (ints x.2.1)))]) (fun x => x.2.2) (q, [], 64) ⟨h, rfl, rfl, itemsL_le _, rfl⟩ ?_
  rintro ⟨r, pre, n⟩ ⟨hr, e1, e2, hl, hn⟩ ih
  simp only at hr e1 e2 hl hn
  have hw := hr.pw
  have hpl : ((pd r).get []).pl = true := pd_pl r
  refine Run.at (l' := [(1, .box (pd r)), (2, .box (pd zeroP)), (4, .d (.own pre.isEmpty 3 1 (ints pre)))]) rfl ?_
  repeat (first | refine wa ?_ | refine wc ?_ | ((refine wl rfl rfl ?_ ?_); try (first | exact ⟨pd_fits (by assumption) rfl, pd_pl _⟩)))
  refine wn (wA rfl rfl rfl (by repeat' (first | exact trivial | exact rfl | assumption | apply And.intro)) (callable (by decide)) (c_source r hr)) rfl ?_
  repeat (first | refine wa ?_ | refine wb ?_ | refine wc ?_ | ((refine wl rfl rfl ?_ ?_); try (first | ((repeat' apply And.intro) <;> first | exact trivial | exact rfl | omega | (simp; done) | (simp; omega)))))
  refine Run.condB rfl rfl (fun h1 => ?_) (fun h1 => ?_)
  · obtain ⟨i, hs⟩ := Option.isSome_iff_exists.1 h1
    obtain ⟨hd, h0, hi⟩ := src_some hs
    have hlt := items_less hr.dm hi hd
    obtain ⟨m, rfl⟩ : ∃ m, n = m + 1 := ⟨n - 1, by omega⟩
    rw [col_some hs] at e1 e2
    first | refine OpsAt.say (d := 5) rfl (y := .v (.int .i64 (i : Nat))) (by rw [hs]; rfl) ?_ | refine Run.say (d := 5) rfl (y := .v (.int .i64 (i : Nat))) (by rw [hs]; rfl) ?_ | refine OpsR.say (q := 5) rfl (y := .v (.int .i64 (i : Nat))) (by rw [hs]; rfl) ?_ | refine OpsB.say (d := 5) rfl (y := .v (.int .i64 (i : Nat))) (by rw [hs]; rfl) ?_
    have hgd := ids_at hw hi
    refine Run.keep [1, 2, 4, 5] rfl ?_
    repeat (first | refine wa ?_ | refine wc ?_ | ((refine wl rfl rfl ?_ ?_); try (first | exact trivial | ((repeat' apply And.intro) <;> first | exact trivial | exact rfl | omega | (simp; done) | (simp; omega)) | exact pd_fa (by assumption) rfl (by decide))))
    · exact ⟨rfl, rfl, by rw [ints_len]; exact hr.ids, by omega, by omega⟩
    refine wn (Ev.ldBox rfl (adrOf_sound rfl) (ld_ok (T := 3) hgd rfl).1 (ld_ok (T := 3) hgd rfl).2) rfl ?_
    first | refine OpsAt.say (d := 17) rfl (y := .v (.int .i64 (r.ids.getD i 0))) (hgd) ?_ | refine Run.say (d := 17) rfl (y := .v (.int .i64 (r.ids.getD i 0))) (hgd) ?_ | refine OpsR.say (q := 17) rfl (y := .v (.int .i64 (r.ids.getD i 0))) (hgd) ?_ | refine OpsB.say (d := 17) rfl (y := .v (.int .i64 (r.ids.getD i 0))) (hgd) ?_
    repeat (first | ((refine wl rfl rfl ?_ ?_); try (first | ((repeat' apply And.intro) <;> first | exact trivial | exact rfl | omega | (simp; done) | (simp; omega)))) | (refine wx rfl rfl (.vw (vwOf_sound rfl)) rfl rfl ?_ ?_ rfl ?_; (try (simp <;> omega)); (try (first | (simp <;> omega) | (simp [maxLen] <;> omega)))))
    · simp [ints]; omega
    · simp [ints, maxLen]; omega
    repeat (first | refine wb ?_ | refine ww rfl rfl rfl ?_)
    first | refine OpsAt.say (d := 4) rfl (y := .own (pre ++ [r.ids.getD i 0]).isEmpty 3 1 (ints (pre ++ [r.ids.getD i 0]))) (by simp [ints]) ?_ | refine Run.say (d := 4) rfl (y := .own (pre ++ [r.ids.getD i 0]).isEmpty 3 1 (ints (pre ++ [r.ids.getD i 0]))) (by simp [ints]) ?_ | refine OpsR.say (q := 4) rfl (y := .own (pre ++ [r.ids.getD i 0]).isEmpty 3 1 (ints (pre ++ [r.ids.getD i 0]))) (by simp [ints]) ?_ | refine OpsB.say (d := 4) rfl (y := .own (pre ++ [r.ids.getD i 0]).isEmpty 3 1 (ints (pre ++ [r.ids.getD i 0]))) (by simp [ints]) ?_
    refine Run.keep [1, 2, 4, 5] rfl ?_
    refine wa ?_
    refine Run.opsR (s := 1) (szs := szP) agree mixed rfl (pd_sh hw) rfl rfl ?_
    repeat (first | refine OpsR.fa (.inl rfl) rfl rfl rfl ?_ | refine OpsR.q rfl rfl (by repeat' (first | exact trivial | exact rfl | assumption | apply And.intro)) ?_ | refine OpsR.lod rfl rfl rfl rfl (pd_ld1 (by assumption) rfl) ?_)
    first | refine OpsAt.say (d := 21) rfl (y := gr r.g) (rfl) ?_ | refine Run.say (d := 21) rfl (y := gr r.g) (rfl) ?_ | refine OpsR.say (q := 21) rfl (y := gr r.g) (rfl) ?_ | refine OpsB.say (d := 21) rfl (y := gr r.g) (rfl) ?_
    have hpg : (gr r.g).pl = true := gr_pl _
    refine OpsR.ev (wA rfl rfl rfl (by repeat' (first | exact trivial | exact rfl | assumption | apply And.intro)) (callable (by decide)) (c_Cut r.g i hi hw.g)) rfl ?_
    repeat (first | refine OpsR.fa (.inl rfl) rfl rfl rfl ?_ | refine OpsR.q rfl rfl (by repeat' (first | exact trivial | exact rfl | assumption | apply And.intro)) ?_ | refine OpsR.lod rfl rfl rfl rfl ⟨rfl, rfl⟩ ?_)
    first | refine OpsAt.say (d := 25) rfl (y := S r.dn) (rfl) ?_ | refine Run.say (d := 25) rfl (y := S r.dn) (rfl) ?_ | refine OpsR.say (q := 25) rfl (y := S r.dn) (rfl) ?_ | refine OpsB.say (d := 25) rfl (y := S r.dn) (rfl) ?_
    refine OpsR.ev (wA rfl rfl rfl (by repeat' (first | exact trivial | exact rfl | assumption | apply And.intro)) (callable (by decide)) (c_Less r.dn i)) rfl ?_
    repeat (first | refine OpsR.fa (.inl rfl) rfl rfl rfl ?_)
    have hcg : gok (cutG r.g i) := cutTo_gok hw.g i 32
    have hpc : (gr (cutG r.g i)).pl = true := gr_pl _
    refine OpsR.sto (X' := pd { r with g := cutG r.g i }) rfl rfl rfl rfl hpc (pd_st1 hw hcg.1 rfl) ?_
    repeat (first | refine OpsR.fa (.inl rfl) rfl rfl rfl ?_)
    refine OpsR.sto (X' := pd { r with g := cutG r.g i, dn := lessN r.dn (i : Int) }) rfl rfl rfl rfl rfl rfl ?_
    repeat (first | refine OpsR.nil ?_)
    have hw2 := (hw.withG hcg).withDn (lessN_lt r.dn (i : Int))
    refine Run.keep [1, 2, 4, 5] rfl ?_
    refine wa ?_
    refine wc ?_
    repeat (first | ((refine wl rfl rfl ?_ ?_); try (first | ((repeat' apply And.intro) <;> first | exact trivial | exact rfl | omega | (simp; done) | (simp; omega)) | exact pd_fa (by assumption) rfl (by decide))))
    · exact ⟨rfl, rfl, by rw [ints_len]; exact hr.ids, by omega, by omega⟩
    refine wv rfl rfl trivial (ids_sto hw2 hi rfl) rfl ?_
    first | refine OpsAt.sayB (d := 1) rfl (y := pd (goP r i)) (ids_put _ i 0) ?_ | refine Run.sayB (d := 1) rfl (y := pd (goP r i)) (ids_put _ i 0) ?_
    refine wb ?_
    refine wk rfl ?_
    refine wa ?_
    refine wf ?_
    refine Run.keep [1, 2, 4] rfl ?_
    exact ih (goP r i, pre ++ [r.ids.getD i 0], m) ⟨hr.go hi, e1, by rw [e2]; simp, by show (itemsL (lessN r.dn (i : Int))).length ≤ m; omega, by simp; omega⟩ (by simp)
  · have hs : srcP r = none := by cases h2 : srcP r with | none => rfl | some i => rw [h2] at h1; cases h1
    rw [col_none hs] at e1 e2
    refine Run.freeze 4 .any rfl (okK_any _) ?_
    repeat (first | refine wa ?_ | refine wb ?_ | refine wc ?_ | refine wf ?_ | ((refine wl rfl rfl ?_ ?_); try (first | ((repeat' apply And.intro) <;> first | exact trivial | exact rfl | omega | (simp; done) | (simp; omega)) | exact ⟨pd_fits (by assumption) rfl, pd_pl _⟩)) | refine wv rfl rfl (pd_pl _) (pd_sto (by assumption) (by assumption) rfl) rfl ?_)
    refine wD (Ends.tupE agree rfl ⟨⟨pd_fits hw rfl, pd_pl _⟩, ?_, trivial⟩ rfl ?_)
    · rfl
    · rw [e1, e2, List.append_nil]
      rfl
end Go.Proofs.YtaflihoopnjcgaaDoor
