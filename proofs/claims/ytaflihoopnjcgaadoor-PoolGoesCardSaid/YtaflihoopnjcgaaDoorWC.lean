/- Texts W17, W18, W19, Op in one file. No conditions. -/
import Derived.Test.YtaflihoopnjcgaaDoorWB
import Derived.Test.YtaflihoopnjcgaaDoorKC

namespace Go.Proofs.YtaflihoopnjcgaaDoor
open Go Go.Dat

theorem ads_pre (pre post : List (Int × Int × Int)) (x : Int × Int × Int) : (ads (pre ++ x :: post)).getD ((pre.length : Int)).toNat un = ad x := by
  simp [ads]
/-- How many slots a number asks for. -/
def nOf (k : Int) : Int := 1 + k % 32
theorem nOf1 (k : Int) : 1 ≤ nOf k := by unfold nOf; omega
theorem nOf2 (k : Int) : nOf k ≤ 32 := by unfold nOf; omega
theorem nOf_is {k : Int} (h : 0 ≤ k ∧ k ≤ 255) : IntKind.i64.wrap (1 + (IntKind.i64.wrap k).tmod 32) = nOf k := by
  rw [wrap64_in k (by omega), Int.tmod_eq_emod_of_nonneg h.1, wrap64_in (1 + k % 32) (by omega)]
  rfl
theorem k_new {k : Int} : DFun Tryd.prog 10 [.v (.int .i64 (nOf k))] (.tup [pd (newP (nOf k)), .v (.bool true)]) := by
  have h := c_pNew (nOf k)
  rw [if_pos ⟨nOf1 k, nOf2 k⟩, decide_eq_true ⟨nOf1 k, nOf2 k⟩] at h
  exact h
theorem k_does (q : PL) (c : Int × Int × Int) (h : SP q) (hq : q.ct ≤ 1000) (hk : 0 ≤ c.1 ∧ c.1 ≤ 255) :
    DFun Tryd.prog 13 [pd q, pd zeroP, ad c] (.tup [pd (doesP q c), pd zeroP, .v (.bool (sameP q zeroP c))]) := by
  have := c_does q zeroP c h rp0 (by omega) (by decide) hk
  rwa [does_zero] at this
theorem noOwns_ppb (q r : PL) (x : Value) : noOwns [pd q, pd r, .v x] = true := by
  show ((pd q).pl && ((pd r).pl && true)) = true
  rw [pd_pl, pd_pl]
  rfl

theorem slot_is {p : PL} (h : SP p) : D.v (.int .u64 (IntKind.u64.wrap (BitVec.ofInt IntKind.u64.bits (IntKind.u64.wrap (IntKind.u64.wrap ((1 : Int) * 2 ^ min p.sz.toNat IntKind.u64.bits) - 1)) &&& ~~~ BitVec.ofInt IntKind.u64.bits (IntKind.u64.wrap (BitVec.ofInt IntKind.u64.bits (p.lv : Int) ||| BitVec.ofInt IntKind.u64.bits (p.dn : Int)).toNat)).toNat)) = S (andn (slotsP p.sz) (p.lv ||| p.dn)) := by
  have e0 := slots_is p.sz
  rw [show min (max p.sz 0) 32 = p.sz by have := h.s1; have := h.s2; omega] at e0
  rw [e0]
  exact (congrArg (fun z => D.v (.int .u64 (IntKind.u64.wrap (BitVec.ofInt IntKind.u64.bits (slotsP p.sz : Int) &&& ~~~ BitVec.ofInt IntKind.u64.bits z).toNat))) (or64 h.lm h.dm)).trans (congrArg (fun z => D.v (.int .u64 z)) (andnot_is _ _))

set_option maxHeartbeats 8000000 in
theorem c_PoolNumbers (k : Int) (l : List (Int × Int × Int)) (hk : 0 ≤ k ∧ k ≤ 255) (hl : ∀ x ∈ l, 0 ≤ x.1 ∧ x.1 ≤ 255) :
    DFun Tryd.prog 5 [.v (.int .u8 k), .lst .any 3 (ads l)] (.v (.bool true)) := by
  refine DFun.ofRun agree mixed Tryd.func5 rfl rfl ?_
  have hz := pw0
  repeat (first | refine wa ?_ | refine wb ?_ | refine wc ?_ | ((refine wl rfl rfl ?_ ?_); try (first | exact trivial)))
  refine wn (wA rfl rfl rfl (by repeat' (first | exact trivial | exact rfl | assumption | apply And.intro)) (callable (by decide)) (c_alive5)) rfl ?_
  repeat (first | refine wa ?_ | refine wb ?_ | refine wc ?_ | refine wf ?_ | ((first | refine wl rfl rfl ?_ ?_ | refine wn (wp rfl rfl rfl rfl rfl ?_) rfl ?_ | refine wn (wq agree rfl rfl rfl ?_) rfl ?_ | refine wu rfl ?_ ?_); try (first | ((repeat' apply And.intro) <;> first | exact trivial | exact rfl | omega | (simp; done) | (simp; omega)))))
  refine Run.condB rfl rfl (fun h1 => ?_) (fun h1 => ?_)
  · repeat (first | refine wa ?_ | refine wb ?_ | refine wc ?_ | ((refine wl rfl rfl ?_ ?_); try (first | exact trivial)))
    exact wD (wE rfl rfl rfl)
  have hes : l.length ≤ 120 := by have := of_decide_eq_false h1; rw [ads_len] at this; omega
  repeat (first | refine wa ?_ | refine wc ?_ | refine wf ?_ | ((refine wl rfl rfl ?_ ?_); try (first | ((repeat' apply And.intro) <;> first | exact trivial | exact rfl | omega | (simp; done) | (simp; omega)))))
  refine wn (Ev.conv rfl rfl Tryd.underlying5 Tryd.underlying3 rfl) rfl ?_
  repeat (first | ((refine wn (wp rfl rfl rfl rfl rfl ?_) rfl ?_); try (first | ((repeat' apply And.intro) <;> first | exact trivial | exact rfl | omega | (simp; done) | (simp; omega)))))
  first | refine OpsAt.say (d := 23) rfl (y := .v (.int .i64 (nOf k))) (congrArg (fun z => D.v (.int .i64 z)) (nOf_is hk)) ?_ | refine Run.say (d := 23) rfl (y := .v (.int .i64 (nOf k))) (congrArg (fun z => D.v (.int .i64 z)) (nOf_is hk)) ?_ | refine OpsR.say (q := 23) rfl (y := .v (.int .i64 (nOf k))) (congrArg (fun z => D.v (.int .i64 z)) (nOf_is hk)) ?_ | refine OpsB.say (d := 23) rfl (y := .v (.int .i64 (nOf k))) (congrArg (fun z => D.v (.int .i64 z)) (nOf_is hk)) ?_
  refine wn (wA rfl rfl rfl (by repeat' (first | exact trivial | exact rfl | assumption | apply And.intro)) (callable (by decide)) (k_new)) rfl ?_
  repeat (first | ((refine wl rfl rfl ?_ ?_); try (first | ((repeat' apply And.intro) <;> first | exact trivial | exact rfl | omega | (simp; done) | (simp; omega)))))
  have w0 : PW (newP (nOf k)) := (newS (nOf1 k) (nOf2 k)).pw
  first | refine OpsAt.sayB (d := 5) rfl (y := pd zeroP) (rfl) ?_ | refine Run.sayB (d := 5) rfl (y := pd zeroP) (rfl) ?_
  refine wv rfl rfl (pd_pl _) (pd_sto w0 hz rfl) rfl ?_
  first | refine OpsAt.sayB (d := 5) rfl (y := pd (newP (nOf k))) (rfl) ?_ | refine Run.sayB (d := 5) rfl (y := pd (newP (nOf k))) (rfl) ?_
  repeat (first | refine wa ?_ | refine wb ?_ | refine wc ?_ | refine wd ?_ | refine wf ?_ | ((first | refine wl rfl rfl ?_ ?_ | refine wn (wq agree rfl rfl rfl ?_) rfl ?_ | refine wu rfl ?_ ?_); try (first | exact trivial | ((repeat' apply And.intro) <;> first | exact trivial | exact rfl | omega | (simp; done) | (simp; omega)))))
  have hlx : ((ads l).length : Int) = l.length := by rw [ads_len]
  refine Run.keep [4, 5, 7, 29, 30, 31] rfl ?_
  refine Run.at (l' := [(4, .d (.v (.bool false))), (5, .box (pd (actsP (nOf k) []))), (7, .d (.v (.int .i64 (actsP (nOf k) []).ct))), (29, .d (.lst .any 3 (ads l))), (30, .d (.v (.int .i64 l.length))), (31, .d (.v (.int .i64 (0 : Nat))))]) (by rw [← hlx]; rfl) ?_
  refine Run.loopL (α := List (Int × Int × Int) × List (Int × Int × Int)) (fun q => l = q.1 ++ q.2) (fun q => [(4, .d (.v (.bool false))), (5, .box (pd (actsP (nOf k) q.1))), (7, .d (.v (.int .i64 (actsP (nOf k) q.1).ct))), (29, .d (.lst .any 3 (ads l))), (30, .d (.v (.int .i64 l.length))), (31, .d (.v (.int .i64 q.1.length)))]) (fun q => q.2.length) ([], l) rfl ?_
  rintro ⟨pre, post⟩ hpp ih
  simp only at hpp
  have hlen : l.length = pre.length + post.length := by rw [hpp]; simp
  have hap := acts_ok (nOf1 k) (nOf2 k) pre
  have hsn := acts_snoc (nOf k) pre
  obtain ⟨p, hp0⟩ : ∃ p, p = actsP (nOf k) pre := ⟨_, rfl⟩
  rw [← hp0] at hap hsn
  refine Run.at (l' := [(4, .d (.v (.bool false))), (5, .box (pd p)), (7, .d (.v (.int .i64 p.ct))), (29, .d (.lst .any 3 (ads l))), (30, .d (.v (.int .i64 l.length))), (31, .d (.v (.int .i64 pre.length)))]) (by rw [hp0]) ?_
  have hct : p.ct ≤ 1000 := by have := hap.ct; omega
  have hw := hap.sp.pw
  have hpp1 : ((pd p).get []).pl = true := pd_pl p
  repeat (first | refine wa ?_ | refine wb ?_ | refine wc ?_ | ((refine wn (wp rfl rfl rfl rfl rfl ?_) rfl ?_); try (first | ((repeat' apply And.intro) <;> first | exact trivial | exact rfl | omega | (simp; done) | (simp; omega)))))
  refine Run.condB rfl rfl (fun hb => ?_) (fun hb => ?_)
  · cases post with
    | nil => simp at hlen hb; omega
    | cons x post =>
      have hgd : (ads l).getD ((pre.length : Int)).toNat un = ad x := by rw [hpp]; exact ads_pre pre post x
      have hkx := hl x (by rw [hpp]; simp)
      repeat (first | refine wa ?_ | refine wc ?_ | refine wd ?_ | refine wf ?_ | ((refine wl rfl rfl ?_ ?_)))
      · exact ⟨rfl, rfl, by omega, by rw [ads_len, hpp]; simp⟩
      first | refine OpsAt.say (d := 33) rfl (y := .pt (ad x)) (congrArg D.pt hgd) ?_ | refine Run.say (d := 33) rfl (y := .pt (ad x)) (congrArg D.pt hgd) ?_ | refine OpsR.say (q := 33) rfl (y := .pt (ad x)) (congrArg D.pt hgd) ?_ | refine OpsB.say (d := 33) rfl (y := .pt (ad x)) (congrArg D.pt hgd) ?_
      repeat (first | ((refine wl rfl rfl ?_ ?_); try (first | ((repeat' apply And.intro) <;> first | exact trivial | exact rfl | omega | (simp; done) | (simp; omega)))))
      refine wv rfl rfl rfl rfl rfl ?_
      first | refine OpsAt.sayB (d := 9) rfl (y := ad x) (rfl) ?_ | refine Run.sayB (d := 9) rfl (y := ad x) (rfl) ?_
      have hpa : ((ad x).get []).pl = true := rfl
      have hpz : (pd zeroP).pl = true := pd_pl _
      repeat (first | refine wa ?_ | refine wb ?_ | refine wc ?_ | ((refine wl rfl rfl ?_ ?_); try (first | ((repeat' apply And.intro) <;> first | exact trivial | exact rfl | omega | (simp; done) | (simp; omega)) | exact ⟨pd_fits (by assumption) rfl, pd_pl _⟩)))
      first | refine OpsAt.say (d := 37) rfl (y := pd zeroP) (rfl) ?_ | refine Run.say (d := 37) rfl (y := pd zeroP) (rfl) ?_ | refine OpsR.say (q := 37) rfl (y := pd zeroP) (rfl) ?_ | refine OpsB.say (d := 37) rfl (y := pd zeroP) (rfl) ?_
      skip
      refine wn (wA rfl rfl rfl (by repeat' (first | exact trivial | exact rfl | assumption | apply And.intro)) (callable (by decide)) (k_does p x hap.sp hct hkx)) rfl ?_
      have hx := (hap.sp.does x).pw
      have hno := noOwns_ppb (doesP p x) zeroP (.bool (sameP p zeroP x))
      repeat (first | ((refine wl rfl rfl ?_ ?_); try (first | ((repeat' apply And.intro) <;> first | exact trivial | exact rfl | omega | (simp; done) | (simp; omega)) | exact pd_pl _)))
      first | refine OpsAt.sayB (d := 10) rfl (y := pd zeroP) (rfl) ?_ | refine Run.sayB (d := 10) rfl (y := pd zeroP) (rfl) ?_
      refine wv rfl rfl (pd_pl _) (pd_sto hx hz rfl) rfl ?_
      first | refine OpsAt.sayB (d := 10) rfl (y := pd (doesP p x)) (rfl) ?_ | refine Run.sayB (d := 10) rfl (y := pd (doesP p x)) (rfl) ?_
      first | refine OpsAt.sayB (d := 11) rfl (y := pd zeroP) (rfl) ?_ | refine Run.sayB (d := 11) rfl (y := pd zeroP) (rfl) ?_
      refine wv rfl rfl (pd_pl _) (pd_sto hz hz rfl) rfl ?_
      repeat (first | refine wb ?_ | ((refine wl rfl rfl ?_ ?_); try (first | ((repeat' apply And.intro) <;> first | exact trivial | exact rfl | omega | (simp; done) | (simp; omega)))))
      refine Run.keep [4, 5, 7, 10, 29, 30, 31] rfl ?_
      have hs := hap.sp
      have hcts := (hs.does_ct x).2
      have htold := num_told hs x
      rw [← hsn x] at htold hx hcts ⊢
      obtain ⟨d, hd⟩ : ∃ d, d = actsP (nOf k) (pre ++ [x]) := ⟨_, rfl⟩
      rw [← hd] at htold hx hcts ⊢
      repeat (first | refine wa ?_ | refine wb ?_ | refine wc ?_ | ((first | refine wl rfl rfl ?_ ?_ | refine wn (wp rfl rfl rfl rfl rfl ?_) rfl ?_); try (first | ((repeat' apply And.intro) <;> first | exact trivial | exact rfl | omega | (simp; done) | (simp; omega)) | exact pd_fa (by assumption) rfl (by decide))))
      first | refine OpsAt.say (d := 46) rfl (y := .v (.int .i64 p.ct)) (rfl) ?_ | refine Run.say (d := 46) rfl (y := .v (.int .i64 p.ct)) (rfl) ?_ | refine OpsR.say (q := 46) rfl (y := .v (.int .i64 p.ct)) (rfl) ?_ | refine OpsB.say (d := 46) rfl (y := .v (.int .i64 p.ct)) (rfl) ?_
      refine Run.condB rfl rfl (fun hne => ?_) (fun hne => ?_)
      · have hne' : d.ct ≠ p.ct := by simpa using hne
        obtain ⟨i, hi, hf, hc1, hid, hhas⟩ := htold hne'
        repeat (first | refine wa ?_ | refine wb ?_ | refine wc ?_ | ((first | refine wl rfl rfl ?_ ?_ | refine wn (wp rfl rfl rfl rfl rfl ?_) rfl ?_); try (first | ((repeat' apply And.intro) <;> first | exact trivial | exact rfl | omega | (simp; done) | (simp; omega)))))
        first | refine OpsAt.say (d := 7) rfl (y := .v (.int .i64 d.ct)) (by rw [hc1, wrap64_in (p.ct + 1) (by have := hs.c0; omega)]) ?_ | refine Run.say (d := 7) rfl (y := .v (.int .i64 d.ct)) (by rw [hc1, wrap64_in (p.ct + 1) (by have := hs.c0; omega)]) ?_ | refine OpsR.say (q := 7) rfl (y := .v (.int .i64 d.ct)) (by rw [hc1, wrap64_in (p.ct + 1) (by have := hs.c0; omega)]) ?_ | refine OpsB.say (d := 7) rfl (y := .v (.int .i64 d.ct)) (by rw [hc1, wrap64_in (p.ct + 1) (by have := hs.c0; omega)]) ?_
        refine Run.ops1 (ld := []) rfl ?_
        repeat (first | ((first | refine wl rfl rfl ?_ ?_ | refine wn (wp rfl rfl rfl rfl rfl ?_) rfl ?_); try (first | ((repeat' apply And.intro) <;> first | exact trivial | exact rfl | omega | (simp; done) | (simp; omega)))))
        · exact ⟨trivial, rfl, by have := hs.s1; omega⟩
        repeat (first | ((first | refine wl rfl rfl ?_ ?_ | refine wn (wp rfl rfl rfl rfl rfl ?_) rfl ?_); try (first | ((repeat' apply And.intro) <;> first | exact trivial | exact rfl | omega | (simp; done) | (simp; omega)) | exact pd_fa (by assumption) rfl (by decide))))
        first | refine OpsAt.say (d := 59) rfl (y := S (andn (slotsP p.sz) (p.lv ||| p.dn))) (slot_is hs) ?_ | refine Run.say (d := 59) rfl (y := S (andn (slotsP p.sz) (p.lv ||| p.dn))) (slot_is hs) ?_ | refine OpsR.say (q := 59) rfl (y := S (andn (slotsP p.sz) (p.lv ||| p.dn))) (slot_is hs) ?_ | refine OpsB.say (d := 59) rfl (y := S (andn (slotsP p.sz) (p.lv ||| p.dn))) (slot_is hs) ?_
        refine wn (wA rfl rfl rfl (by repeat' (first | exact trivial | exact rfl | assumption | apply And.intro)) (callable (by decide)) (c_First (andn (slotsP p.sz) (p.lv ||| p.dn)) (andn_lt _ _))) rfl ?_
        repeat (first | refine wa ?_ | refine wb ?_ | refine wc ?_ | ((first | refine wl rfl rfl ?_ ?_ | refine wn (wp rfl rfl rfl rfl rfl ?_) rfl ?_); try (first | ((repeat' apply And.intro) <;> first | exact trivial | exact rfl | omega | (simp; done) | (simp; omega)) | exact pd_fa (by assumption) rfl (by decide))))
        first | refine OpsAt.say (d := 13) rfl (y := .v (.int .i64 (i : Nat))) (by rw [hf]) ?_ | refine Run.say (d := 13) rfl (y := .v (.int .i64 (i : Nat))) (by rw [hf]) ?_ | refine OpsR.say (q := 13) rfl (y := .v (.int .i64 (i : Nat))) (by rw [hf]) ?_ | refine OpsB.say (d := 13) rfl (y := .v (.int .i64 (i : Nat))) (by rw [hf]) ?_
        first | refine OpsAt.say (d := 65) rfl (y := .v (.bool false)) (by simp) ?_ | refine Run.say (d := 65) rfl (y := .v (.bool false)) (by simp) ?_ | refine OpsR.say (q := 65) rfl (y := .v (.bool false)) (by simp) ?_ | refine OpsB.say (d := 65) rfl (y := .v (.bool false)) (by simp) ?_
        have hgi := ids_at hx hi
        repeat (first | ((refine wm rfl rfl rfl ?_ ?_); try (first | ((repeat' apply And.intro) <;> first | exact trivial | exact rfl | omega | (simp; done) | (simp; omega)) | exact pd_fa (by assumption) rfl (by decide))))
        · exact ⟨rfl, rfl, by rw [ints_len]; exact hx.ids, by omega, by omega⟩
        refine wo rfl (Ev.ldBox rfl (adrOf_sound rfl) (ld_ok (T := 3) hgi rfl).1 (ld_ok (T := 3) hgi rfl).2) rfl ?_
        first | refine OpsAt.say (d := 69) rfl (y := .v (.int .i64 d.ct)) (hgi.trans (by rw [hid, hc1])) ?_ | refine Run.say (d := 69) rfl (y := .v (.int .i64 d.ct)) (hgi.trans (by rw [hid, hc1])) ?_ | refine OpsR.say (q := 69) rfl (y := .v (.int .i64 d.ct)) (hgi.trans (by rw [hid, hc1])) ?_ | refine OpsB.say (d := 69) rfl (y := .v (.int .i64 d.ct)) (hgi.trans (by rw [hid, hc1])) ?_
        repeat (first | ((first | refine wl rfl rfl ?_ ?_ | refine wm rfl rfl rfl ?_ ?_ | refine wo rfl (wp rfl rfl rfl rfl rfl ?_) rfl ?_); try (first | ((repeat' apply And.intro) <;> first | exact trivial | exact rfl | omega | (simp; done) | (simp; omega)))))
        first | refine OpsAt.say (d := 73) rfl (y := .v (.bool false)) (by simp) ?_ | refine Run.say (d := 73) rfl (y := .v (.bool false)) (by simp) ?_ | refine OpsR.say (q := 73) rfl (y := .v (.bool false)) (by simp) ?_ | refine OpsB.say (d := 73) rfl (y := .v (.bool false)) (by simp) ?_
        repeat (first | ((refine wm rfl rfl rfl ?_ ?_); try (first | ((repeat' apply And.intro) <;> first | exact trivial | exact rfl | omega | (simp; done) | (simp; omega)) | exact pd_fa (by assumption) rfl (by decide))))
        first | refine OpsAt.say (d := 75) rfl (y := S d.lv) (rfl) ?_ | refine Run.say (d := 75) rfl (y := S d.lv) (rfl) ?_ | refine OpsR.say (q := 75) rfl (y := S d.lv) (rfl) ?_ | refine OpsB.say (d := 75) rfl (y := S d.lv) (rfl) ?_
        skip
        refine wo rfl (wA rfl rfl rfl (by repeat' (first | exact trivial | exact rfl | assumption | apply And.intro)) (callable (by decide)) (c_Has d.lv i hx.lm)) rfl ?_
        first | refine OpsAt.say (d := 77) rfl (y := .v (.bool true)) (by rw [hhas]) ?_ | refine Run.say (d := 77) rfl (y := .v (.bool true)) (by rw [hhas]) ?_ | refine OpsR.say (q := 77) rfl (y := .v (.bool true)) (by rw [hhas]) ?_ | refine OpsB.say (d := 77) rfl (y := .v (.bool true)) (by rw [hhas]) ?_
        repeat (first | refine wb ?_ | refine wc ?_ | refine wf ?_ | ((first | refine wl rfl rfl ?_ ?_ | refine wm rfl rfl rfl ?_ ?_ | refine wu rfl ?_ ?_); try (first | ((repeat' apply And.intro) <;> first | exact trivial | exact rfl | omega | (simp; done) | (simp; omega)) | exact ⟨pd_fits (by assumption) rfl, pd_pl _⟩)))
        refine wv rfl rfl (pd_pl _) (pd_sto hx hw rfl) rfl ?_
        first | refine OpsAt.sayB (d := 5) rfl (y := pd (actsP (nOf k) (pre ++ [x]))) (by rw [← hd]; rfl) ?_ | refine Run.sayB (d := 5) rfl (y := pd (actsP (nOf k) (pre ++ [x]))) (by rw [← hd]; rfl) ?_
        repeat (first | refine wb ?_ | refine wc ?_ | refine we ?_ | ((first | refine wl rfl rfl ?_ ?_ | refine wn (wp rfl rfl rfl rfl rfl ?_) rfl ?_); try (first | ((repeat' apply And.intro) <;> first | exact trivial | exact rfl | omega | (simp; done) | (simp; omega)))))
        first | refine OpsAt.say (d := 31) rfl (y := .v (.int .i64 ((pre ++ [x]).length : Nat))) (by rw [wrap64_in ((pre.length : Int) + 1) (by omega)]; simp) ?_ | refine Run.say (d := 31) rfl (y := .v (.int .i64 ((pre ++ [x]).length : Nat))) (by rw [wrap64_in ((pre.length : Int) + 1) (by omega)]; simp) ?_ | refine OpsR.say (q := 31) rfl (y := .v (.int .i64 ((pre ++ [x]).length : Nat))) (by rw [wrap64_in ((pre.length : Int) + 1) (by omega)]; simp) ?_ | refine OpsB.say (d := 31) rfl (y := .v (.int .i64 ((pre ++ [x]).length : Nat))) (by rw [wrap64_in ((pre.length : Int) + 1) (by omega)]; simp) ?_
        first | refine OpsAt.say (d := 7) rfl (y := .v (.int .i64 (actsP (nOf k) (pre ++ [x])).ct)) (by rw [← hd]) ?_ | refine Run.say (d := 7) rfl (y := .v (.int .i64 (actsP (nOf k) (pre ++ [x])).ct)) (by rw [← hd]) ?_ | refine OpsR.say (q := 7) rfl (y := .v (.int .i64 (actsP (nOf k) (pre ++ [x])).ct)) (by rw [← hd]) ?_ | refine OpsB.say (d := 7) rfl (y := .v (.int .i64 (actsP (nOf k) (pre ++ [x])).ct)) (by rw [← hd]) ?_
        refine Run.keep [4, 5, 7, 29, 30, 31] rfl ?_
        exact ih (pre ++ [x], post) (by simp [hpp]) (by simp)
      · have he' : d.ct = p.ct := by simpa using hne
        repeat (first | refine wc ?_ | refine wf ?_ | ((refine wl rfl rfl ?_ ?_); try (first | exact ⟨pd_fits (by assumption) rfl, pd_pl _⟩)))
        refine wv rfl rfl (pd_pl _) (pd_sto hx hw rfl) rfl ?_
        first | refine OpsAt.sayB (d := 5) rfl (y := pd (actsP (nOf k) (pre ++ [x]))) (by rw [← hd]; rfl) ?_ | refine Run.sayB (d := 5) rfl (y := pd (actsP (nOf k) (pre ++ [x]))) (by rw [← hd]; rfl) ?_
        repeat (first | refine wb ?_ | refine wc ?_ | refine we ?_ | ((first | refine wl rfl rfl ?_ ?_ | refine wn (wp rfl rfl rfl rfl rfl ?_) rfl ?_); try (first | ((repeat' apply And.intro) <;> first | exact trivial | exact rfl | omega | (simp; done) | (simp; omega)))))
        first | refine OpsAt.say (d := 31) rfl (y := .v (.int .i64 ((pre ++ [x]).length : Nat))) (by rw [wrap64_in ((pre.length : Int) + 1) (by omega)]; simp) ?_ | refine Run.say (d := 31) rfl (y := .v (.int .i64 ((pre ++ [x]).length : Nat))) (by rw [wrap64_in ((pre.length : Int) + 1) (by omega)]; simp) ?_ | refine OpsR.say (q := 31) rfl (y := .v (.int .i64 ((pre ++ [x]).length : Nat))) (by rw [wrap64_in ((pre.length : Int) + 1) (by omega)]; simp) ?_ | refine OpsB.say (d := 31) rfl (y := .v (.int .i64 ((pre ++ [x]).length : Nat))) (by rw [wrap64_in ((pre.length : Int) + 1) (by omega)]; simp) ?_
        first | refine OpsAt.say (d := 7) rfl (y := .v (.int .i64 (actsP (nOf k) (pre ++ [x])).ct)) (by rw [← hd, he']) ?_ | refine Run.say (d := 7) rfl (y := .v (.int .i64 (actsP (nOf k) (pre ++ [x])).ct)) (by rw [← hd, he']) ?_ | refine OpsR.say (q := 7) rfl (y := .v (.int .i64 (actsP (nOf k) (pre ++ [x])).ct)) (by rw [← hd, he']) ?_ | refine OpsB.say (d := 7) rfl (y := .v (.int .i64 (actsP (nOf k) (pre ++ [x])).ct)) (by rw [← hd, he']) ?_
        refine Run.keep [4, 5, 7, 29, 30, 31] rfl ?_
        exact ih (pre ++ [x], post) (by simp [hpp]) (by simp)
  · repeat (first | refine wa ?_ | refine wb ?_ | refine wc ?_ | ((first | refine wl rfl rfl ?_ ?_ | refine wn (wp rfl rfl rfl rfl rfl ?_) rfl ?_); try (first | ((repeat' apply And.intro) <;> first | exact trivial | exact rfl | omega | (simp; done) | (simp; omega)) | exact pd_fa (by assumption) rfl (by decide))) | refine wj rfl ?_)
    refine wD (wE rfl rfl ?_)
    simp
end Go.Proofs.YtaflihoopnjcgaaDoor

namespace Go.Proofs.YtaflihoopnjcgaaDoor
open Go Go.Dat

theorem eqCons {d o o' : Nat} {T : TypeId} {fs : List (TypeId × Nat)} {a b : D} {xs ys : List D} {r1 r2 : Bool} (ho : o + a.size = o') (h : ((Θ T).fits a && ((Θ T).fits b && (a.size == b.size))) = true) (he : EqT Tryd.prog d T a b r1) (hr : EqFs Tryd.prog Θ d o' fs xs ys r2) :
    EqFs Tryd.prog Θ d o ((T, o) :: fs) (a :: xs) (b :: ys) (r1 && r2) := by
  subst ho
  exact .cons h he hr
theorem fit2 {T : TypeId} {a : D} (h : (Θ T).fits a = true) : ((Θ T).fits a && ((Θ T).fits a && (a.size == a.size))) = true := by rw [h]; simp
theorem gr_size {g : List Nat} (h : g.length = 32) : (gr g).size = 32 := by show 1 * (sets g).length = 32; rw [sets_len, h]
theorem ord_size {l : List Int} (h : l.length = 32) : (ord l).size = 32 := by show 1 * (ints l).length = 32; rw [ints_len, h]
theorem grT {d : Nat} {T e : TypeId} {a : List Nat} (ha : a.length = 32) (hT : (Θ T).td = .ar 32 e 1) (he : Tryd.prog.underlying e = some (.int .u64)) (hf : ∀ n : Nat, (Θ e).fits (S n) = true) : EqT Tryd.prog (d + 1 + 1) T (gr a) (gr a) true := by
  have h : EqT Tryd.prog (d + 1 + 1) T (.arr 1 (sets a)) (.arr 1 (sets a)) ((List.range 32).all fun _ => true) :=
    EqT.arr agree hT (by rw [sets_len, ha]) (by rw [sets_len, ha]) (fun i hi => by
      have e1 : (sets a).getD i un = S (a.getD i 0) := by simp [sets, ha, hi]
      rw [e1]
      exact ⟨hf _, hf _⟩) (fun i hi => by
      have e1 : (sets a).getD i un = S (a.getD i 0) := by simp [sets, ha, hi]
      rw [e1]
      have := EqT.int (P := Tryd.prog) (d := d) (T := e) (k := .u64) (k0 := .u64) (x := (a.getD i 0 : Nat)) (y := (a.getD i 0 : Nat)) he
      rwa [show (((a.getD i 0 : Nat) : Int) == ((a.getD i 0 : Nat) : Int)) = true by simp] at this)
  rwa [show (List.range 32).all (fun _ => true) = true by decide] at h
theorem ordT {d : Nat} {T : TypeId} {a : List Int} (ha : a.length = 32) (hT : (Θ T).td = .ar 32 3 1) : EqT Tryd.prog (d + 1 + 1) T (ord a) (ord a) true := by
  have h : EqT Tryd.prog (d + 1 + 1) T (.arr 1 (ints a)) (.arr 1 (ints a)) ((List.range 32).all fun _ => true) :=
    EqT.arr agree hT (by rw [ints_len, ha]) (by rw [ints_len, ha]) (fun i hi => by
      have e1 : (ints a).getD i un = .v (.int .i64 (a.getD i 0)) := by simp [ints, ha, hi]
      rw [e1]
      exact ⟨rfl, rfl⟩) (fun i hi => by
      have e1 : (ints a).getD i un = .v (.int .i64 (a.getD i 0)) := by simp [ints, ha, hi]
      rw [e1]
      have := EqT.int (P := Tryd.prog) (d := d) (T := 3) (k := .i64) (k0 := .i64) (x := a.getD i 0) (y := a.getD i 0) Tryd.underlying3
      simpa using this)
  rwa [show (List.range 32).all (fun _ => true) = true by decide] at h
theorem intT {d : Nat} {T : TypeId} {k : IntKind} {x : Int} (h : Tryd.prog.underlying T = some (.int k)) : EqT Tryd.prog (d + 1) T (.v (.int k x)) (.v (.int k x)) true := by
  have := EqT.int (P := Tryd.prog) (d := d) (T := T) (k := k) (k0 := k) (x := x) (y := x) h
  simpa using this

theorem poolT {q : PL} (h : PW q) : EqT Tryd.prog 10000 31 (pd q) (pd q) true :=
  EqT.st (d := 9999) agree (T := 31) rfl (by kernel_rfl) (by kernel_rfl)
    (eqCons (o' := 1) rfl rfl (intT Tryd.underlying3)
    (eqCons (o' := 33) (by rw [gr_size h.g.1]) (fit2 (gr_fits h.g.1 rfl)) (grT h.g.1 (e := 25) rfl Tryd.underlying25 (fun _ => rfl))
    (eqCons (o' := 65) (by rw [ord_size h.o]) (fit2 (ord_fits h.o rfl)) (ordT h.o rfl)
    (eqCons (o' := 66) rfl rfl (intT Tryd.underlying25)
    (eqCons (o' := 67) rfl rfl (intT Tryd.underlying25)
    (eqCons (o' := 99) (by rw [ord_size h.ids]) (fit2 (ord_fits h.ids rfl)) (ordT h.ids rfl)
    (eqCons (o' := 100) rfl rfl (intT Tryd.underlying3) EqFs.nil)))))))
theorem refT {q : PL} (h : PW q) : EqT Tryd.prog 10000 38 (pd q) (pd q) true :=
  EqT.st (d := 9999) agree (T := 38) rfl (by kernel_rfl) (by kernel_rfl)
    (eqCons (o' := 1) rfl rfl (intT Tryd.underlying3)
    (eqCons (o' := 33) (by rw [gr_size h.g.1]) (fit2 (gr_fits h.g.1 rfl)) (grT h.g.1 (e := 24) rfl Tryd.underlying24 (fun _ => rfl))
    (eqCons (o' := 65) (by rw [ord_size h.o]) (fit2 (ord_fits h.o rfl)) (ordT h.o rfl)
    (eqCons (o' := 66) rfl rfl (intT Tryd.underlying24)
    (eqCons (o' := 67) rfl rfl (intT Tryd.underlying24)
    (eqCons (o' := 99) (by rw [ord_size h.ids]) (fit2 (ord_fits h.ids rfl)) (ordT h.ids rfl)
    (eqCons (o' := 100) rfl rfl (intT Tryd.underlying3) EqFs.nil)))))))
theorem eqPool {x y : Operand} {q : PL} (h : PW q) : BinD Tryd.prog .eql 31 x y (pd q) (pd q) (.v (.bool true)) := BinD.eqSt (by kernel_rfl) (poolT h)
theorem neRef {x y : Operand} {q : PL} (h : PW q) : BinD Tryd.prog .neq 38 x y (pd q) (pd q) (.v (.bool false)) := BinD.neSt (by kernel_rfl) (refT h)
end Go.Proofs.YtaflihoopnjcgaaDoor

namespace Go.Proofs.YtaflihoopnjcgaaDoor
open Go Go.Dat

def tr (k : Int) (l : List (Int × Int × Int)) (a b : Int) : D := .st [.v (.int .u8 k), .lst .any 3 (ads l), .v (.int .i64 a), .v (.int .i64 b)]

set_option maxHeartbeats 8000000 in
theorem c_PoolEdges (k : Int) (l : List (Int × Int × Int)) (a b : Int) (hk : 0 ≤ k ∧ k ≤ 255) (hl : ∀ x ∈ l, 0 ≤ x.1 ∧ x.1 ≤ 255) :
    DFun Tryd.prog 7 [tr k l a b] (.v (.bool true)) := by
  refine DFun.ofRun agree mixed Tryd.func7 rfl rfl ?_
  have hz := pw0
  repeat (first | refine wa ?_ | refine wb ?_ | refine wc ?_ | ((refine wl rfl rfl ?_ ?_); try (first | exact trivial | ((repeat' apply And.intro) <;> first | exact trivial | exact rfl | omega | (simp; done) | (simp; omega)))))
  refine wn (wA rfl rfl rfl (by repeat' (first | exact trivial | exact rfl | assumption | apply And.intro)) (callable (by decide)) (c_alive5)) rfl ?_
  repeat (first | refine wa ?_ | refine wb ?_ | refine wf ?_ | ((first | refine wl rfl rfl ?_ ?_ | refine wu rfl ?_ ?_); try (first | ((repeat' apply And.intro) <;> first | exact trivial | exact rfl | omega | (simp; done) | (simp; omega)))))
  refine Run.ops1 (ld := []) rfl ?_
  repeat (first | refine wb ?_ | ((refine wl rfl rfl ?_ ?_); try (first | ((repeat' apply And.intro) <;> first | exact trivial | exact rfl | omega | (simp; done) | (simp; omega)))))
  first | refine OpsAt.say (d := 3) rfl (y := .v (.int .u8 k)) (rfl) ?_ | refine Run.say (d := 3) rfl (y := .v (.int .u8 k)) (rfl) ?_ | refine OpsR.say (q := 3) rfl (y := .v (.int .u8 k)) (rfl) ?_ | refine OpsB.say (d := 3) rfl (y := .v (.int .u8 k)) (rfl) ?_
  first | refine OpsAt.say (d := 4) rfl (y := .lst .any 3 (ads l)) (rfl) ?_ | refine Run.say (d := 4) rfl (y := .lst .any 3 (ads l)) (rfl) ?_ | refine OpsR.say (q := 4) rfl (y := .lst .any 3 (ads l)) (rfl) ?_ | refine OpsB.say (d := 4) rfl (y := .lst .any 3 (ads l)) (rfl) ?_
  first | refine OpsAt.say (d := 5) rfl (y := .v (.int .i64 a)) (rfl) ?_ | refine Run.say (d := 5) rfl (y := .v (.int .i64 a)) (rfl) ?_ | refine OpsR.say (q := 5) rfl (y := .v (.int .i64 a)) (rfl) ?_ | refine OpsB.say (d := 5) rfl (y := .v (.int .i64 a)) (rfl) ?_
  first | refine OpsAt.say (d := 6) rfl (y := .v (.int .i64 b)) (rfl) ?_ | refine Run.say (d := 6) rfl (y := .v (.int .i64 b)) (rfl) ?_ | refine OpsR.say (q := 6) rfl (y := .v (.int .i64 b)) (rfl) ?_ | refine OpsB.say (d := 6) rfl (y := .v (.int .i64 b)) (rfl) ?_
  refine Run.keep [2, 3, 4, 5, 6] rfl ?_
  repeat (first | refine wa ?_ | refine wb ?_ | refine wc ?_ | ((first | refine wl rfl rfl ?_ ?_ | refine wn (wp rfl rfl rfl rfl rfl ?_) rfl ?_ | refine wn (wq agree rfl rfl rfl ?_) rfl ?_); try (first | ((repeat' apply And.intro) <;> first | exact trivial | exact rfl | omega | (simp; done) | (simp; omega)))))
  refine Run.condB rfl rfl (fun h1 => ?_) (fun h1 => ?_)
  · repeat (first | refine wa ?_ | refine wb ?_ | refine wc ?_ | ((refine wl rfl rfl ?_ ?_); try (first | exact trivial)))
    exact wD (wE rfl rfl rfl)
  have hes : l.length ≤ 120 := by have := of_decide_eq_false h1; rw [ads_len] at this; omega
  repeat (first | refine wa ?_ | refine wc ?_ | refine wf ?_ | ((refine wl rfl rfl ?_ ?_); try (first | ((repeat' apply And.intro) <;> first | exact trivial | exact rfl | omega | (simp; done) | (simp; omega)))))
  refine wn (Ev.conv rfl rfl Tryd.underlying5 Tryd.underlying3 rfl) rfl ?_
  repeat (first | ((refine wn (wp rfl rfl rfl rfl rfl ?_) rfl ?_); try (first | ((repeat' apply And.intro) <;> first | exact trivial | exact rfl | omega | (simp; done) | (simp; omega)))))
  first | refine OpsAt.say (d := 33) rfl (y := .v (.int .i64 (nOf k))) (congrArg (fun z => D.v (.int .i64 z)) (nOf_is hk)) ?_ | refine Run.say (d := 33) rfl (y := .v (.int .i64 (nOf k))) (congrArg (fun z => D.v (.int .i64 z)) (nOf_is hk)) ?_ | refine OpsR.say (q := 33) rfl (y := .v (.int .i64 (nOf k))) (congrArg (fun z => D.v (.int .i64 z)) (nOf_is hk)) ?_ | refine OpsB.say (d := 33) rfl (y := .v (.int .i64 (nOf k))) (congrArg (fun z => D.v (.int .i64 z)) (nOf_is hk)) ?_
  refine wn (wA rfl rfl rfl (by repeat' (first | exact trivial | exact rfl | assumption | apply And.intro)) (callable (by decide)) (k_new)) rfl ?_
  repeat (first | ((refine wl rfl rfl ?_ ?_); try (first | ((repeat' apply And.intro) <;> first | exact trivial | exact rfl | omega | (simp; done) | (simp; omega)))))
  have w0 : PW (newP (nOf k)) := (newS (nOf1 k) (nOf2 k)).pw
  first | refine OpsAt.sayB (d := 7) rfl (y := pd zeroP) (rfl) ?_ | refine Run.sayB (d := 7) rfl (y := pd zeroP) (rfl) ?_
  refine wv rfl rfl (pd_pl _) (pd_sto w0 hz rfl) rfl ?_
  first | refine OpsAt.sayB (d := 7) rfl (y := pd (newP (nOf k))) (rfl) ?_ | refine Run.sayB (d := 7) rfl (y := pd (newP (nOf k))) (rfl) ?_
  repeat (first | refine wa ?_ | refine wb ?_ | refine wc ?_ | refine wd ?_ | refine wf ?_ | ((first | refine wl rfl rfl ?_ ?_ | refine wn (wq agree rfl rfl rfl ?_) rfl ?_ | refine wu rfl ?_ ?_); try (first | exact trivial | ((repeat' apply And.intro) <;> first | exact trivial | exact rfl | omega | (simp; done) | (simp; omega)))))
  have hlx : ((ads l).length : Int) = l.length := by rw [ads_len]
  refine Run.keep [2, 5, 6, 7, 39, 40, 41] rfl ?_
  refine Run.at (l' := [(2, .d (.v (.bool false))), (5, .d (.v (.int .i64 a))), (6, .d (.v (.int .i64 b))), (7, .box (pd (actsP (nOf k) []))), (39, .d (.lst .any 3 (ads l))), (40, .d (.v (.int .i64 l.length))), (41, .d (.v (.int .i64 (0 : Nat))))]) (by rw [← hlx]; rfl) ?_
  refine Run.loopL (α := List (Int × Int × Int) × List (Int × Int × Int)) (fun q => l = q.1 ++ q.2) (fun q => [(2, .d (.v (.bool false))), (5, .d (.v (.int .i64 a))), (6, .d (.v (.int .i64 b))), (7, .box (pd (actsP (nOf k) q.1))), (39, .d (.lst .any 3 (ads l))), (40, .d (.v (.int .i64 l.length))), (41, .d (.v (.int .i64 q.1.length)))]) (fun q => q.2.length) ([], l) rfl ?_
  rintro ⟨pre, post⟩ hpp ih
  simp only at hpp
  have hlen : l.length = pre.length + post.length := by rw [hpp]; simp
  have hap := acts_ok (nOf1 k) (nOf2 k) pre
  have hsn := acts_snoc (nOf k) pre
  obtain ⟨p, hp0⟩ : ∃ p, p = actsP (nOf k) pre := ⟨_, rfl⟩
  rw [← hp0] at hap hsn
  refine Run.at (l' := [(2, .d (.v (.bool false))), (5, .d (.v (.int .i64 a))), (6, .d (.v (.int .i64 b))), (7, .box (pd p)), (39, .d (.lst .any 3 (ads l))), (40, .d (.v (.int .i64 l.length))), (41, .d (.v (.int .i64 pre.length)))]) (by rw [hp0]) ?_
  have hct : p.ct ≤ 1000 := by have := hap.ct; omega
  have hw := hap.sp.pw
  have hpp1 : ((pd p).get []).pl = true := pd_pl p
  repeat (first | refine wa ?_ | refine wb ?_ | refine wc ?_ | ((refine wn (wp rfl rfl rfl rfl rfl ?_) rfl ?_); try (first | ((repeat' apply And.intro) <;> first | exact trivial | exact rfl | omega | (simp; done) | (simp; omega)))))
  refine Run.condB rfl rfl (fun hb => ?_) (fun hb => ?_)
  · cases post with
    | nil => simp at hlen hb; omega
    | cons x post =>
      have hgd : (ads l).getD ((pre.length : Int)).toNat un = ad x := by rw [hpp]; exact ads_pre pre post x
      have hkx := hl x (by rw [hpp]; simp)
      repeat (first | refine wa ?_ | refine wc ?_ | refine wd ?_ | refine wf ?_ | ((refine wl rfl rfl ?_ ?_)))
      · exact ⟨rfl, rfl, by omega, by rw [ads_len, hpp]; simp⟩
      first | refine OpsAt.say (d := 43) rfl (y := .pt (ad x)) (congrArg D.pt hgd) ?_ | refine Run.say (d := 43) rfl (y := .pt (ad x)) (congrArg D.pt hgd) ?_ | refine OpsR.say (q := 43) rfl (y := .pt (ad x)) (congrArg D.pt hgd) ?_ | refine OpsB.say (d := 43) rfl (y := .pt (ad x)) (congrArg D.pt hgd) ?_
      repeat (first | ((refine wl rfl rfl ?_ ?_); try (first | ((repeat' apply And.intro) <;> first | exact trivial | exact rfl | omega | (simp; done) | (simp; omega)))))
      refine wv rfl rfl rfl rfl rfl ?_
      first | refine OpsAt.sayB (d := 10) rfl (y := ad x) (rfl) ?_ | refine Run.sayB (d := 10) rfl (y := ad x) (rfl) ?_
      have hpa : ((ad x).get []).pl = true := rfl
      have hpz : (pd zeroP).pl = true := pd_pl _
      repeat (first | refine wb ?_ | refine wc ?_ | ((refine wl rfl rfl ?_ ?_); try (first | ((repeat' apply And.intro) <;> first | exact trivial | exact rfl | omega | (simp; done) | (simp; omega)) | exact ⟨pd_fits (by assumption) rfl, pd_pl _⟩)))
      first | refine OpsAt.say (d := 47) rfl (y := pd zeroP) (rfl) ?_ | refine Run.say (d := 47) rfl (y := pd zeroP) (rfl) ?_ | refine OpsR.say (q := 47) rfl (y := pd zeroP) (rfl) ?_ | refine OpsB.say (d := 47) rfl (y := pd zeroP) (rfl) ?_
      skip
      refine wn (wA rfl rfl rfl (by repeat' (first | exact trivial | exact rfl | assumption | apply And.intro)) (callable (by decide)) (k_does p x hap.sp hct hkx)) rfl ?_
      have hx := (hap.sp.does x).pw
      have hno := noOwns_ppb (doesP p x) zeroP (.bool (sameP p zeroP x))
      repeat (first | ((refine wl rfl rfl ?_ ?_); try (first | ((repeat' apply And.intro) <;> first | exact trivial | exact rfl | omega | (simp; done) | (simp; omega)) | exact pd_pl _)))
      refine wv rfl rfl (pd_pl _) (pd_sto hx hw rfl) rfl ?_
      first | refine OpsAt.sayB (d := 7) rfl (y := pd (actsP (nOf k) (pre ++ [x]))) (by rw [hsn x]; rfl) ?_ | refine Run.sayB (d := 7) rfl (y := pd (actsP (nOf k) (pre ++ [x]))) (by rw [hsn x]; rfl) ?_
      repeat (first | refine wb ?_ | refine wc ?_ | refine we ?_ | ((first | refine wl rfl rfl ?_ ?_ | refine wn (wp rfl rfl rfl rfl rfl ?_) rfl ?_); try (first | ((repeat' apply And.intro) <;> first | exact trivial | exact rfl | omega | (simp; done) | (simp; omega)))))
      first | refine OpsAt.say (d := 41) rfl (y := .v (.int .i64 ((pre ++ [x]).length : Nat))) (by rw [wrap64_in ((pre.length : Int) + 1) (by omega)]; simp) ?_ | refine Run.say (d := 41) rfl (y := .v (.int .i64 ((pre ++ [x]).length : Nat))) (by rw [wrap64_in ((pre.length : Int) + 1) (by omega)]; simp) ?_ | refine OpsR.say (q := 41) rfl (y := .v (.int .i64 ((pre ++ [x]).length : Nat))) (by rw [wrap64_in ((pre.length : Int) + 1) (by omega)]; simp) ?_ | refine OpsB.say (d := 41) rfl (y := .v (.int .i64 ((pre ++ [x]).length : Nat))) (by rw [wrap64_in ((pre.length : Int) + 1) (by omega)]; simp) ?_
      refine Run.keep [2, 5, 6, 7, 39, 40, 41] rfl ?_
      exact ih (pre ++ [x], post) (by simp [hpp]) (by simp)
  have hs := hap.sp
  refine Run.keep [2, 5, 6, 7] rfl ?_
  repeat (first | refine wj rfl ?_)
  have hr := (hs.edgeS a b).pw
  have htold := edge_told hs a b
  have hsame := edge_keeps p a b
  refine wa ?_
  refine wc ?_
  repeat (first | ((refine wl rfl rfl ?_ ?_); try (first | ((repeat' apply And.intro) <;> first | exact trivial | exact rfl | omega | (simp; done) | (simp; omega)) | exact ⟨pd_fits (by assumption) rfl, pd_pl _⟩)))
  refine wn (wA rfl rfl rfl (by repeat' (first | exact trivial | exact rfl | assumption | apply And.intro)) (callable (by decide)) (c_Edge p a b hw)) rfl ?_
  have he1 : a = b → edgeP p a b = (p, 2) := fun e => by unfold edgeP; rw [if_pos e]
  have he2 : a ≠ b → (hasN (takenP p) a && hasN (takenP p) b) = false → edgeP p a b = (p, 3) := fun e e' => by
    unfold edgeP
    rw [if_neg e, if_pos]
    cases h3 : hasN (takenP p) a with
    | false => rfl
    | true =>
      rw [h3] at e'
      rw [show hasN (takenP p) b = false from e']
      rfl
  obtain ⟨r, ec, hrec⟩ : ∃ r ec, edgeP p a b = (r, ec) := ⟨_, _, rfl⟩
  rw [hrec] at hr htold hsame he1 he2 ⊢
  have hr : PW r := hr
  repeat (first | ((refine wl rfl rfl ?_ ?_); try (first | ((repeat' apply And.intro) <;> first | exact trivial | exact rfl | omega | (simp; done) | (simp; omega)) | exact pd_pl _ | exact noOwns_pb _ _)))
  first | refine OpsAt.sayB (d := 11) rfl (y := pd zeroP) (rfl) ?_ | refine Run.sayB (d := 11) rfl (y := pd zeroP) (rfl) ?_
  refine wv rfl rfl (pd_pl _) (pd_sto hr hz rfl) rfl ?_
  first | refine OpsAt.sayB (d := 11) rfl (y := pd r) (rfl) ?_ | refine Run.sayB (d := 11) rfl (y := pd r) (rfl) ?_
  repeat (first | refine wb ?_ | ((refine wl rfl rfl ?_ ?_); try (first | ((repeat' apply And.intro) <;> first | exact trivial | exact rfl | omega | (simp; done) | (simp; omega)))))
  first | refine OpsAt.say (d := 12) rfl (y := .v (.int .i64 ec)) (rfl) ?_ | refine Run.say (d := 12) rfl (y := .v (.int .i64 ec)) (rfl) ?_ | refine OpsR.say (q := 12) rfl (y := .v (.int .i64 ec)) (rfl) ?_ | refine OpsB.say (d := 12) rfl (y := .v (.int .i64 ec)) (rfl) ?_
  refine Run.keep [2, 5, 6, 7, 11, 12] rfl ?_
  refine Run.at (l' := [(2, .d (.v (.bool false))), (5, .d (.v (.int .i64 a))), (6, .d (.v (.int .i64 b))), (7, .box (pd p)), (11, .box (pd r)), (12, .d (.v (.int .i64 ec)))]) rfl ?_
  refine wa ?_
  refine Run.joinK (α := Unit) (fun _ => True) (fun _ => [(2, .d (.v (.bool false))), (5, .d (.v (.int .i64 a))), (6, .d (.v (.int .i64 b))), (7, .box (pd p)), (11, .box (pd r)), (12, .d (.v (.int .i64 ec))), (13, .d (.v (.bool (hasN (takenP p) a && hasN (takenP p) b))))]) (fun _ _ => ?_) (fun k' hk' => ?_)
  rotate_left
  · refine wc ?_
    repeat (first | ((first | refine wl rfl rfl ?_ ?_ | refine wn (wp rfl rfl rfl rfl rfl ?_) rfl ?_); try (first | ((repeat' apply And.intro) <;> first | exact trivial | exact rfl | omega | (simp; done) | (simp; omega)) | exact pd_fa (by assumption) rfl (by decide))))
    first | refine OpsAt.say (d := 65) rfl (y := S (takenP p)) (congrArg (fun z => D.v (.int .u64 z)) (or64 hs.lm hs.dm)) ?_ | refine Run.say (d := 65) rfl (y := S (takenP p)) (congrArg (fun z => D.v (.int .u64 z)) (or64 hs.lm hs.dm)) ?_ | refine OpsR.say (q := 65) rfl (y := S (takenP p)) (congrArg (fun z => D.v (.int .u64 z)) (or64 hs.lm hs.dm)) ?_ | refine OpsB.say (d := 65) rfl (y := S (takenP p)) (congrArg (fun z => D.v (.int .u64 z)) (or64 hs.lm hs.dm)) ?_
    refine wn (wA rfl rfl rfl (by repeat' (first | exact trivial | exact rfl | assumption | apply And.intro)) (callable (by decide)) (c_Has (takenP p) a hs.tm)) rfl ?_
    cases ha : hasN (takenP p) a with
    | false =>
      rw [ha] at hk'
      repeat (first | refine wb ?_ | ((refine wl rfl rfl ?_ ?_); try (first | ((repeat' apply And.intro) <;> first | exact trivial | exact rfl | omega | (simp; done) | (simp; omega)))) | refine ws rfl rfl ?_)
      first | refine OpsAt.say (d := 13) rfl (y := .v (.bool (false && hasN (takenP p) b))) (rfl) ?_ | refine Run.say (d := 13) rfl (y := .v (.bool (false && hasN (takenP p) b))) (rfl) ?_ | refine OpsR.say (q := 13) rfl (y := .v (.bool (false && hasN (takenP p) b))) (rfl) ?_ | refine OpsB.say (d := 13) rfl (y := .v (.bool (false && hasN (takenP p) b))) (rfl) ?_
      refine Run.keep [2, 5, 6, 7, 11, 12, 13] rfl ?_
      exact hk' () trivial
    | true =>
      rw [ha] at hk'
      repeat (first | ((first | refine wl rfl rfl ?_ ?_ | refine wm rfl rfl rfl ?_ ?_ | refine wo rfl (wp rfl rfl rfl rfl rfl ?_) rfl ?_); try (first | ((repeat' apply And.intro) <;> first | exact trivial | exact rfl | omega | (simp; done) | (simp; omega)) | exact pd_fa (by assumption) rfl (by decide))))
      first | refine OpsAt.say (d := 73) rfl (y := S (takenP p)) (congrArg (fun z => D.v (.int .u64 z)) (or64 hs.lm hs.dm)) ?_ | refine Run.say (d := 73) rfl (y := S (takenP p)) (congrArg (fun z => D.v (.int .u64 z)) (or64 hs.lm hs.dm)) ?_ | refine OpsR.say (q := 73) rfl (y := S (takenP p)) (congrArg (fun z => D.v (.int .u64 z)) (or64 hs.lm hs.dm)) ?_ | refine OpsB.say (d := 73) rfl (y := S (takenP p)) (congrArg (fun z => D.v (.int .u64 z)) (or64 hs.lm hs.dm)) ?_
      skip
      refine wo rfl (wA rfl rfl rfl (by repeat' (first | exact trivial | exact rfl | assumption | apply And.intro)) (callable (by decide)) (c_Has (takenP p) b hs.tm)) rfl ?_
      repeat (first | refine wb ?_ | ((refine wl rfl rfl ?_ ?_); try (first | ((repeat' apply And.intro) <;> first | exact trivial | exact rfl | omega | (simp; done) | (simp; omega)))))
      first | refine OpsAt.say (d := 13) rfl (y := .v (.bool (true && hasN (takenP p) b))) (rfl) ?_ | refine Run.say (d := 13) rfl (y := .v (.bool (true && hasN (takenP p) b))) (rfl) ?_ | refine OpsR.say (q := 13) rfl (y := .v (.bool (true && hasN (takenP p) b))) (rfl) ?_ | refine OpsB.say (d := 13) rfl (y := .v (.bool (true && hasN (takenP p) b))) (rfl) ?_
      refine Run.keep [2, 5, 6, 7, 11, 12, 13] rfl ?_
      exact hk' () trivial
  obtain ⟨th, hth⟩ : ∃ th, th = (hasN (takenP p) a && hasN (takenP p) b) := ⟨_, rfl⟩
  rw [← hth] at he2 ⊢
  refine wa ?_
  refine wc ?_
  repeat (first | ((refine wl rfl rfl ?_ ?_); try (first | ((repeat' apply And.intro) <;> first | exact trivial | exact rfl | omega | (simp; done) | (simp; omega)) | exact pd_ld1 (by assumption) rfl)))
  first | refine OpsAt.say (d := 79) rfl (y := gr p.g) (rfl) ?_ | refine Run.say (d := 79) rfl (y := gr p.g) (rfl) ?_ | refine OpsR.say (q := 79) rfl (y := gr p.g) (rfl) ?_ | refine OpsB.say (d := 79) rfl (y := gr p.g) (rfl) ?_
  have hpg : (gr p.g).pl = true := gr_pl _
  refine wn (wA rfl rfl rfl (by repeat' (first | exact trivial | exact rfl | assumption | apply And.intro)) (callable (by decide)) (c_Put p.g a b hw.g)) rfl ?_
  have hpok := putG_ok hw.g a b
  obtain ⟨m, hm⟩ : ∃ m, m = (putG p.g a b).1 := ⟨_, rfl⟩
  rw [← hm] at hpok htold ⊢
  have hpm : (gr m).pl = true := gr_pl _
  have hno : noOwns [gr m, .v (.bool (putG p.g a b).2)] = true := by show ((gr m).pl && true) = true; rw [hpm]; rfl
  repeat (first | ((refine wl rfl rfl ?_ ?_); try (first | ((repeat' apply And.intro) <;> first | exact trivial | exact rfl | omega | (simp; done) | (simp; omega)))))
  first | refine OpsAt.sayB (d := 14) rfl (y := gr (List.replicate 32 0)) (rfl) ?_ | refine Run.sayB (d := 14) rfl (y := gr (List.replicate 32 0)) (rfl) ?_
  refine wv rfl rfl hpm (gr_stoAll (z := List.replicate 32 0) hpok.1 rfl rfl) rfl ?_
  first | refine OpsAt.sayB (d := 14) rfl (y := gr m) (rfl) ?_ | refine Run.sayB (d := 14) rfl (y := gr m) (rfl) ?_
  repeat (first | refine wb ?_ | ((refine wl rfl rfl ?_ ?_); try (first | ((repeat' apply And.intro) <;> first | exact trivial | exact rfl | omega | (simp; done) | (simp; omega)))))
  refine Run.keep [2, 5, 6, 7, 11, 12, 13, 14] rfl ?_
  refine Run.at (l' := [(2, .d (.v (.bool false))), (5, .d (.v (.int .i64 a))), (6, .d (.v (.int .i64 b))), (7, .box (pd p)), (11, .box (pd r)), (12, .d (.v (.int .i64 ec))), (13, .d (.v (.bool th))), (14, .box (gr m))]) rfl ?_
  repeat (first | refine wa ?_ | refine wb ?_ | refine wc ?_ | refine wd ?_ | ((first | refine wl rfl rfl ?_ ?_ | refine wn (wp rfl rfl rfl rfl rfl ?_) rfl ?_); try (first | ((repeat' apply And.intro) <;> first | exact trivial | exact rfl | omega | (simp; done) | (simp; omega)))))
  refine Run.condB rfl rfl (fun hab => ?_) (fun hab => ?_)
  · have hab' := of_decide_eq_true hab
    have hq := he1 hab'
    simp only [Prod.mk.injEq] at hq
    obtain ⟨rfl, rfl⟩ := hq
    repeat (first | refine wa ?_ | refine wc ?_ | ((first | refine wl rfl rfl ?_ ?_ | refine wn (wp rfl rfl rfl rfl rfl ?_) rfl ?_ | refine wm rfl rfl rfl ?_ ?_); try (first | ((repeat' apply And.intro) <;> first | exact trivial | exact rfl | omega | (simp; done) | (simp; omega)) | exact ⟨pd_fits (by assumption) rfl, pd_pl _⟩)))
    refine wo rfl (Ev.bins rfl rfl rfl (by repeat' (first | exact trivial | exact rfl | assumption | apply And.intro)) (eqPool hw)) rfl ?_
    repeat (first | refine wb ?_ | ((refine wl rfl rfl ?_ ?_); try (first | ((repeat' apply And.intro) <;> first | exact trivial | exact rfl | omega | (simp; done) | (simp; omega)))))
    exact wD (wE rfl rfl rfl)
  have hab' := of_decide_eq_false hab
  repeat (first | refine wa ?_ | refine wb ?_ | refine wc ?_ | ((refine wl rfl rfl ?_ ?_); try (first | ((repeat' apply And.intro) <;> first | exact trivial | exact rfl | omega | (simp; done) | (simp; omega)))))
  cases th with
  | false =>
    have hq := he2 hab' rfl
    simp only [Prod.mk.injEq] at hq
    obtain ⟨rfl, rfl⟩ := hq
    repeat (first | refine wa ?_ | refine wc ?_ | ((first | refine wl rfl rfl ?_ ?_ | refine wn (wp rfl rfl rfl rfl rfl ?_) rfl ?_ | refine wm rfl rfl rfl ?_ ?_ | refine wt rfl ?_ ?_); try (first | ((repeat' apply And.intro) <;> first | exact trivial | exact rfl | omega | (simp; done) | (simp; omega)) | exact ⟨pd_fits (by assumption) rfl, pd_pl _⟩)))
    refine wo rfl (Ev.bins rfl rfl rfl (by repeat' (first | exact trivial | exact rfl | assumption | apply And.intro)) (eqPool hw)) rfl ?_
    repeat (first | refine wb ?_ | ((refine wl rfl rfl ?_ ?_); try (first | ((repeat' apply And.intro) <;> first | exact trivial | exact rfl | omega | (simp; done) | (simp; omega)))))
    exact wD (wE rfl rfl rfl)
  | true =>
    have hth' := hth.symm
    rw [Bool.and_eq_true] at hth'
    obtain ⟨_, hfr1, hfr2⟩ := htold hab' hth'.1 hth'.2
    have hpm2 : ((gr m).get []).pl = true := hpm
    repeat (first | refine wa ?_ | refine wc ?_ | ((first | refine wl rfl rfl ?_ ?_ | refine wu rfl ?_ ?_); try (first | ((repeat' apply And.intro) <;> first | exact trivial | exact rfl | omega | (simp; done) | (simp; omega)))))
    · exact ⟨gr_fits hpok.1 rfl, gr_pl _⟩
    skip
    refine wn (wA rfl rfl rfl (by repeat' (first | exact trivial | exact rfl | assumption | apply And.intro)) (callable (by decide)) (c_Free m hpok)) rfl ?_
    cases hfr : freeN m with
    | false =>
      have hq := hfr2 hfr
      simp only [Prod.mk.injEq] at hq
      obtain ⟨rfl, rfl⟩ := hq
      repeat (first | refine wa ?_ | refine wb ?_ | refine wc ?_ | ((first | refine wl rfl rfl ?_ ?_ | refine wn (wp rfl rfl rfl rfl rfl ?_) rfl ?_ | refine wm rfl rfl rfl ?_ ?_ | refine wt rfl ?_ ?_); try (first | ((repeat' apply And.intro) <;> first | exact trivial | exact rfl | omega | (simp; done) | (simp; omega)) | exact ⟨pd_fits (by assumption) rfl, pd_pl _⟩)))
      refine wo rfl (Ev.bins rfl rfl rfl (by repeat' (first | exact trivial | exact rfl | assumption | apply And.intro)) (eqPool hw)) rfl ?_
      repeat (first | refine wb ?_ | ((refine wl rfl rfl ?_ ?_); try (first | ((repeat' apply And.intro) <;> first | exact trivial | exact rfl | omega | (simp; done) | (simp; omega)))))
      exact wD (wE rfl rfl rfl)
    | true =>
      obtain ⟨hq, hgm⟩ := hfr1 hfr
      simp only [Prod.mk.injEq] at hq
      obtain ⟨rfl, rfl⟩ := hq
      repeat (first | refine wa ?_ | refine wb ?_ | refine wc ?_ | refine we ?_ | refine wf ?_ | ((first | refine wl rfl rfl ?_ ?_ | refine wn (wp rfl rfl rfl rfl rfl ?_) rfl ?_ | refine wm rfl rfl rfl ?_ ?_ | refine wu rfl ?_ ?_); try (first | ((repeat' apply And.intro) <;> first | exact trivial | exact rfl | omega | (simp; done) | (simp; omega)) | exact pd_ld1 (by assumption) rfl)))
      · exact ⟨gr_fits hpok.1 rfl, gr_pl _⟩
      first | refine OpsAt.say (d := 121) rfl (y := gr m) (by show gr (aheadP p a b).g = gr m; rw [hgm]) ?_ | refine Run.say (d := 121) rfl (y := gr m) (by show gr (aheadP p a b).g = gr m; rw [hgm]) ?_ | refine OpsR.say (q := 121) rfl (y := gr m) (by show gr (aheadP p a b).g = gr m; rw [hgm]) ?_ | refine OpsB.say (d := 121) rfl (y := gr m) (by show gr (aheadP p a b).g = gr m; rw [hgm]) ?_
      first | refine OpsAt.say (d := 122) rfl (y := gr m) (rfl) ?_ | refine Run.say (d := 122) rfl (y := gr m) (rfl) ?_ | refine OpsR.say (q := 122) rfl (y := gr m) (rfl) ?_ | refine OpsB.say (d := 122) rfl (y := gr m) (rfl) ?_
      refine wo rfl (Ev.bins rfl rfl rfl (by repeat' (first | exact trivial | exact rfl | assumption | apply And.intro)) (BinD.eqAr (T := 27) (by kernel_rfl) (grT (d := 9998) hpok.1 (e := 25) rfl Tryd.underlying25 (fun _ => rfl)))) rfl ?_
      repeat (first | ((first | refine wl rfl rfl ?_ ?_ | refine wm rfl rfl rfl ?_ ?_ | refine wo rfl (wp rfl rfl rfl rfl rfl ?_) rfl ?_); try (first | ((repeat' apply And.intro) <;> first | exact trivial | exact rfl | omega | (simp; done) | (simp; omega)) | exact pd_fa (by assumption) rfl (by decide))))
      first | refine OpsAt.say (d := 132) rfl (y := .v (.bool true)) (by show D.v (.bool ((p.lv : Int) == (p.lv : Int))) = _; simp) ?_ | refine Run.say (d := 132) rfl (y := .v (.bool true)) (by show D.v (.bool ((p.lv : Int) == (p.lv : Int))) = _; simp) ?_ | refine OpsR.say (q := 132) rfl (y := .v (.bool true)) (by show D.v (.bool ((p.lv : Int) == (p.lv : Int))) = _; simp) ?_ | refine OpsB.say (d := 132) rfl (y := .v (.bool true)) (by show D.v (.bool ((p.lv : Int) == (p.lv : Int))) = _; simp) ?_
      repeat (first | refine wb ?_ | ((first | refine wl rfl rfl ?_ ?_ | refine wm rfl rfl rfl ?_ ?_ | refine wo rfl (wp rfl rfl rfl rfl rfl ?_) rfl ?_); try (first | ((repeat' apply And.intro) <;> first | exact trivial | exact rfl | omega | (simp; done) | (simp; omega)) | exact pd_fa (by assumption) rfl (by decide))))
      refine wD (wE rfl rfl ?_)
      show D.v (.bool ((p.dn : Int) == (p.dn : Int))) = _
      simp
end Go.Proofs.YtaflihoopnjcgaaDoor

namespace Go.Proofs.YtaflihoopnjcgaaDoor
open Go Go.Dat

theorem pI : Opens Tryd.prog 3 (fun n : Int => D.v (.int .i64 n)) := Opens.int Tryd.underlying3
theorem pU8 : Opens Tryd.prog 5 (fun n : {n : Int // IntKind.u8.min ≤ n ∧ n ≤ IntKind.u8.max} => D.v (.int .u8 n.1)) := Opens.intR Tryd.underlying5
theorem okU8 {n : Int} (h : IntKind.u8.min ≤ n ∧ n ≤ IntKind.u8.max) : 0 ≤ n ∧ n ≤ 255 := by
  have h1 : IntKind.u8.min = 0 := by decide
  have h2 : IntKind.u8.max = 255 := by decide
  rw [h1, h2] at h
  exact h
/-- An act that there may be. -/
def ActT : Type := {c : Int × Int × Int // 0 ≤ c.1 ∧ c.1 ≤ 255}
/-- Acts that there may be. -/
def ActsT : Type := {l : List (Int × Int × Int) // ∀ x ∈ l, 0 ≤ x.1 ∧ x.1 ≤ 255}
set_option maxRecDepth 100000 in
theorem pAct : Opens Tryd.prog 43 (fun c : ActT => ad c.1) := by
  refine Opens.as (Opens.struct (F := (Tryd.prog.fieldsOf 43).toList) (tot := 3) (by kernel_rfl) (by kernel_rfl) (OpFs.cons (c := 1) pU8 ⟨by kernel_rfl, by kernel_rfl⟩ (OpFs.cons (c := 1) pI ⟨by kernel_rfl, by kernel_rfl⟩ (OpFs.cons (c := 1) pI ⟨by kernel_rfl, by kernel_rfl⟩ OpFs.nil)))) fun x => ⟨⟨(x.1.1, x.2.1, x.2.2.1), okU8 x.1.2⟩, rfl⟩
theorem pActs : Opens Tryd.prog 22 (fun l : ActsT => D.lst .any 3 (ads l.1)) := by
  refine Opens.as (Opens.slice (es := 3) Tryd.underlying22 pAct (by kernel_rfl) (by decide)) fun l => ⟨⟨l.map (·.1), fun x hx => by
    obtain ⟨c, _, rfl⟩ := List.mem_map.1 hx
    exact c.2⟩, ?_⟩
  · show D.lst .any 3 _ = D.lst .any 3 (ads (l.map (·.1)))
    unfold ads
    rw [List.map_map]
    rfl
set_option maxRecDepth 100000 in
theorem pTry : Opens Tryd.prog 61 (fun t : {n : Int // IntKind.u8.min ≤ n ∧ n ≤ IntKind.u8.max} × ActsT × Int × Int => tr t.1.1 t.2.1.1 t.2.2.1 t.2.2.2) := by
  refine Opens.as (Opens.struct (F := (Tryd.prog.fieldsOf 61).toList) (tot := 4) (by kernel_rfl) (by kernel_rfl) (OpFs.cons (c := 1) pU8 ⟨by kernel_rfl, by kernel_rfl⟩ (OpFs.cons (c := 1) pActs ⟨by kernel_rfl, by kernel_rfl⟩ (OpFs.cons (c := 1) pI ⟨by kernel_rfl, by kernel_rfl⟩ (OpFs.cons (c := 1) pI ⟨by kernel_rfl, by kernel_rfl⟩ OpFs.nil))))) fun x => ⟨(x.1, x.2.1, x.2.2.1, x.2.2.2.1), rfl⟩
end Go.Proofs.YtaflihoopnjcgaaDoor
