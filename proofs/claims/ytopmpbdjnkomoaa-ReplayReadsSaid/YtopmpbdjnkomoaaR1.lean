/- The data of replay's laws, and what makes one slice of another. No conditions. -/
import Derived.Test.YtopmpbdjnkomoaaTypes
import Derived.Test.YtopmpbdjnkomoaaK31
namespace Go.Proofs.Ytopmpbdjnkomoaa
open Go Go.Dat

structure V where
  kind : Int
  n : Int
  deriving DecidableEq, Inhabited
def V.e (v : V) : D := .st [.v (.int .i64 v.kind), .v (.int .i64 v.n)]

structure St where
  x : Int
  v : V
  w : Bool
  deriving DecidableEq, Inhabited
def St.e (s : St) : D := .st [.v (.int .i64 s.x), s.v.e, .v (.bool s.w)]

/-- kr, kw: of what make the slices are. -/
structure En where
  id : Int
  com : Bool
  over : Bool
  reads : List St
  writes : List St
  kr : SK
  kw : SK
  deriving DecidableEq, Inhabited
def En.e (n : En) : D := .st [.v (.int .i64 n.id), .v (.bool n.com), .v (.bool n.over), .lst n.kr 4 (n.reads.map St.e), .lst n.kw 4 (n.writes.map St.e)]
def En.any (n : En) : En := { n with kr := .any, kw := .any }

theorem inc {α : Type} (pre : List α) (x : α) (h : pre.length < 9223372036854775807) : D.v (.int .i64 (IntKind.i64.wrap ((pre.length : Int) + 1))) = .v (.int .i64 ((pre ++ [x]).length : Nat)) := by
  rw [wrap64_in _ (by omega)]; simp

theorem okK_any (b : Bool) : okK b .any = true := by cases b <;> rfl

theorem c11 (k : SK) (l : List V) (hl : l.length ≤ 1000000) : DFun Try.prog 11 [.lst k 2 (l.map V.e)] (.lst .any 2 (l.map V.e)) := by
  refine DFun.ofRun agree mixed Try.func11 rfl rfl ?_
  repeat (first | refine wa ?_ | refine wb ?_ | refine wc ?_ | refine wd ?_ | refine we ?_ | refine wf ?_ | refine wg ?_ | refine wh ?_ | refine wi ?_ | ((first | refine wl rfl rfl ?_ ?_ | refine wn (wp rfl rfl rfl rfl rfl ?_) rfl ?_ | refine wn (wq agree rfl rfl rfl ?_) rfl ?_ | refine wm rfl rfl rfl ?_ ?_ | refine wo rfl (wp rfl rfl rfl rfl rfl ?_) rfl ?_ | refine wo rfl (wq agree rfl rfl rfl ?_) rfl ?_ | refine wt rfl ?_ ?_ | refine wu rfl ?_ ?_ | refine wv rfl rfl ?_ rfl rfl ?_ | refine xa agree rfl rfl ?_ ?_ | refine xb agree rfl rfl rfl ?_ ?_); try (first | exact trivial | (rw [hgd] <;> rfl) | (rw [hgd2] <;> rfl) | ((repeat' apply And.intro) <;> first | exact trivial | exact rfl | omega | (simp; done) | (simp; omega)))) | refine wn (wr rfl rfl rfl) rfl ?_ | refine wo rfl (wr rfl rfl rfl) rfl ?_ | refine ws rfl rfl ?_ | refine wj rfl ?_ | refine wk rfl ?_ | refine ww rfl rfl rfl ?_ | refine wz rfl (by decide) rfl rfl rfl ?_ | (refine wx rfl rfl (.vw (vwOf_sound rfl)) rfl rfl ?_ ?_ rfl ?_; (try (simp <;> omega)); (try (simp [maxLen] <;> omega))) | (refine wy rfl rfl rfl rfl rfl rfl ?_ ?_ ?_ ?_; (try (first | trivial | rfl)); (try (simp <;> omega)); (try (simp [maxLen] <;> omega))))
  refine Run.ownNil 3 56 2 rfl ?_
  refine Run.keep [0, 3, 6, 7, 8] rfl ?_
  refine Run.at (l' := [(0, .d (.lst k 2 (l.map V.e))), (3, .d (.own true 56 2 [])), (6, .d (.lst k 2 (l.map V.e))), (7, .d (.v (.int .i64 l.length))), (8, .d (.v (.int .i64 0)))]) (by simp [keepL, lk, initL]) ?_
  refine Run.loopL (α := List V × List V) (fun p => l = p.1 ++ p.2) (fun p => [(0, .d (.lst k 2 (l.map V.e))), (3, .d (.own p.1.isEmpty 56 2 (p.1.map V.e))), (6, .d (.lst k 2 (l.map V.e))), (7, .d (.v (.int .i64 l.length))), (8, .d (.v (.int .i64 p.1.length)))]) (fun p => p.2.length) ([], l) rfl ?_
  rintro ⟨pre, post⟩ hp ih
  simp only at hp
  have hlen : l.length = pre.length + post.length := by rw [hp]; simp
  repeat (first | refine wa ?_ | refine wb ?_ | refine wc ?_ | refine wd ?_ | refine we ?_ | refine wf ?_ | refine wg ?_ | refine wh ?_ | refine wi ?_ | ((first | refine wl rfl rfl ?_ ?_ | refine wn (wp rfl rfl rfl rfl rfl ?_) rfl ?_ | refine wn (wq agree rfl rfl rfl ?_) rfl ?_ | refine wm rfl rfl rfl ?_ ?_ | refine wo rfl (wp rfl rfl rfl rfl rfl ?_) rfl ?_ | refine wo rfl (wq agree rfl rfl rfl ?_) rfl ?_ | refine wt rfl ?_ ?_ | refine wu rfl ?_ ?_ | refine wv rfl rfl ?_ rfl rfl ?_ | refine xa agree rfl rfl ?_ ?_ | refine xb agree rfl rfl rfl ?_ ?_); try (first | exact trivial | (rw [hgd] <;> rfl) | (rw [hgd2] <;> rfl) | ((repeat' apply And.intro) <;> first | exact trivial | exact rfl | omega | (simp; done) | (simp; omega)))) | refine wn (wr rfl rfl rfl) rfl ?_ | refine wo rfl (wr rfl rfl rfl) rfl ?_ | refine ws rfl rfl ?_ | refine wj rfl ?_ | refine wk rfl ?_ | refine ww rfl rfl rfl ?_ | refine wz rfl (by decide) rfl rfl rfl ?_ | (refine wx rfl rfl (.vw (vwOf_sound rfl)) rfl rfl ?_ ?_ rfl ?_; (try (simp <;> omega)); (try (simp [maxLen] <;> omega))) | (refine wy rfl rfl rfl rfl rfl rfl ?_ ?_ ?_ ?_; (try (first | trivial | rfl)); (try (simp <;> omega)); (try (simp [maxLen] <;> omega))))
  refine Run.condB rfl rfl (fun hb => ?_) (fun hb => ?_)
  · cases post with
    | nil => simp [hp] at hb
    | cons x post =>
      simp only [List.length_cons] at hlen
      have hgd : (l.map V.e).getD ((pre.length : Int)).toNat un = x.e := by simp [hp]
      repeat (first | refine wa ?_ | refine wb ?_ | refine wc ?_ | refine wd ?_ | refine we ?_ | refine wf ?_ | refine wg ?_ | refine wh ?_ | refine wi ?_ | ((first | refine wl rfl rfl ?_ ?_ | refine wn (wp rfl rfl rfl rfl rfl ?_) rfl ?_ | refine wn (wq agree rfl rfl rfl ?_) rfl ?_ | refine wm rfl rfl rfl ?_ ?_ | refine wo rfl (wp rfl rfl rfl rfl rfl ?_) rfl ?_ | refine wo rfl (wq agree rfl rfl rfl ?_) rfl ?_ | refine wt rfl ?_ ?_ | refine wu rfl ?_ ?_ | refine wv rfl rfl ?_ rfl rfl ?_ | refine xa agree rfl rfl ?_ ?_ | refine xb agree rfl rfl rfl ?_ ?_); try (first | exact trivial | (rw [hgd] <;> rfl) | (rw [hgd2] <;> rfl) | ((repeat' apply And.intro) <;> first | exact trivial | exact rfl | omega | (simp; done) | (simp; omega)))) | refine wn (wr rfl rfl rfl) rfl ?_ | refine wo rfl (wr rfl rfl rfl) rfl ?_ | refine ws rfl rfl ?_ | refine wj rfl ?_ | refine wk rfl ?_ | refine ww rfl rfl rfl ?_ | refine wz rfl (by decide) rfl rfl rfl ?_ | (refine wx rfl rfl (.vw (vwOf_sound rfl)) rfl rfl ?_ ?_ rfl ?_; (try (simp <;> omega)); (try (simp [maxLen] <;> omega))) | (refine wy rfl rfl rfl rfl rfl rfl ?_ ?_ ?_ ?_; (try (first | trivial | rfl)); (try (simp <;> omega)); (try (simp [maxLen] <;> omega))))
      refine OpsAt.say (d := 11) rfl hgd ?_
      repeat (first | refine wa ?_ | refine wb ?_ | refine wc ?_ | refine wd ?_ | refine we ?_ | refine wf ?_ | refine wg ?_ | refine wh ?_ | refine wi ?_ | ((first | refine wl rfl rfl ?_ ?_ | refine wn (wp rfl rfl rfl rfl rfl ?_) rfl ?_ | refine wn (wq agree rfl rfl rfl ?_) rfl ?_ | refine wm rfl rfl rfl ?_ ?_ | refine wo rfl (wp rfl rfl rfl rfl rfl ?_) rfl ?_ | refine wo rfl (wq agree rfl rfl rfl ?_) rfl ?_ | refine wt rfl ?_ ?_ | refine wu rfl ?_ ?_ | refine wv rfl rfl ?_ rfl rfl ?_ | refine xa agree rfl rfl ?_ ?_ | refine xb agree rfl rfl rfl ?_ ?_); try (first | exact trivial | (rw [hgd] <;> rfl) | (rw [hgd2] <;> rfl) | ((repeat' apply And.intro) <;> first | exact trivial | exact rfl | omega | (simp; done) | (simp; omega)))) | refine wn (wr rfl rfl rfl) rfl ?_ | refine wo rfl (wr rfl rfl rfl) rfl ?_ | refine ws rfl rfl ?_ | refine wj rfl ?_ | refine wk rfl ?_ | refine ww rfl rfl rfl ?_ | refine wz rfl (by decide) rfl rfl rfl ?_ | (refine wx rfl rfl (.vw (vwOf_sound rfl)) rfl rfl ?_ ?_ rfl ?_; (try (simp <;> omega)); (try (simp [maxLen] <;> omega))) | (refine wy rfl rfl rfl rfl rfl rfl ?_ ?_ ?_ ?_; (try (first | trivial | rfl)); (try (simp <;> omega)); (try (simp [maxLen] <;> omega))))
      refine Run.say (d := 8) rfl (y := .v (.int .i64 ((pre ++ [x]).length : Nat))) (by rw [wrap64_in _ (by simp; omega)]; simp) ?_
      refine Run.say (d := 3) rfl (y := .own (pre ++ [x]).isEmpty 56 2 ((pre ++ [x]).map V.e)) (by simp [D.set, D.get]) ?_
      refine Run.keep [0, 3, 6, 7, 8] rfl ?_
      exact ih (pre ++ [x], post) (by simp [hp]) (by simp)
  · cases post with
    | cons x post => simp [hp] at hb; omega
    | nil =>
      repeat (first | refine wa ?_ | refine wb ?_ | refine wc ?_ | refine wd ?_ | refine we ?_ | refine wf ?_ | refine wg ?_ | refine wh ?_ | refine wi ?_ | ((first | refine wl rfl rfl ?_ ?_ | refine wn (wp rfl rfl rfl rfl rfl ?_) rfl ?_ | refine wn (wq agree rfl rfl rfl ?_) rfl ?_ | refine wm rfl rfl rfl ?_ ?_ | refine wo rfl (wp rfl rfl rfl rfl rfl ?_) rfl ?_ | refine wo rfl (wq agree rfl rfl rfl ?_) rfl ?_ | refine wt rfl ?_ ?_ | refine wu rfl ?_ ?_ | refine wv rfl rfl ?_ rfl rfl ?_ | refine xa agree rfl rfl ?_ ?_ | refine xb agree rfl rfl rfl ?_ ?_); try (first | exact trivial | (rw [hgd] <;> rfl) | (rw [hgd2] <;> rfl) | ((repeat' apply And.intro) <;> first | exact trivial | exact rfl | omega | (simp; done) | (simp; omega)))) | refine wn (wr rfl rfl rfl) rfl ?_ | refine wo rfl (wr rfl rfl rfl) rfl ?_ | refine ws rfl rfl ?_ | refine wj rfl ?_ | refine wk rfl ?_ | refine ww rfl rfl rfl ?_ | refine wz rfl (by decide) rfl rfl rfl ?_ | (refine wx rfl rfl (.vw (vwOf_sound rfl)) rfl rfl ?_ ?_ rfl ?_; (try (simp <;> omega)); (try (simp [maxLen] <;> omega))) | (refine wy rfl rfl rfl rfl rfl rfl ?_ ?_ ?_ ?_; (try (first | trivial | rfl)); (try (simp <;> omega)); (try (simp [maxLen] <;> omega))))
      refine Run.freeze 3 .any rfl (okK_any _) ?_
      refine Run.ret (Ends.tmpE rfl rfl ?_)
      simp [hp]

theorem c17 (k : SK) (l : List V) (hl : l.length ≤ 1000000) : DFun Try.prog 17 [.lst k 2 (l.map V.e)] (.lst .any 2 (l.map V.e)) := by
  refine DFun.ofRun agree mixed Try.func17 rfl rfl ?_
  repeat (first | refine wa ?_ | refine wb ?_ | refine wc ?_ | refine wd ?_ | refine we ?_ | refine wf ?_ | refine wg ?_ | refine wh ?_ | refine wi ?_ | ((first | refine wl rfl rfl ?_ ?_ | refine wn (wp rfl rfl rfl rfl rfl ?_) rfl ?_ | refine wn (wq agree rfl rfl rfl ?_) rfl ?_ | refine wm rfl rfl rfl ?_ ?_ | refine wo rfl (wp rfl rfl rfl rfl rfl ?_) rfl ?_ | refine wo rfl (wq agree rfl rfl rfl ?_) rfl ?_ | refine wt rfl ?_ ?_ | refine wu rfl ?_ ?_ | refine wv rfl rfl ?_ rfl rfl ?_ | refine xa agree rfl rfl ?_ ?_ | refine xb agree rfl rfl rfl ?_ ?_); try (first | exact trivial | (rw [hgd] <;> rfl) | (rw [hgd2] <;> rfl) | ((repeat' apply And.intro) <;> first | exact trivial | exact rfl | omega | (simp; done) | (simp; omega)))) | refine wn (wr rfl rfl rfl) rfl ?_ | refine wo rfl (wr rfl rfl rfl) rfl ?_ | refine ws rfl rfl ?_ | refine wj rfl ?_ | refine wk rfl ?_ | refine ww rfl rfl rfl ?_ | refine wz rfl (by decide) rfl rfl rfl ?_ | (refine wx rfl rfl (.vw (vwOf_sound rfl)) rfl rfl ?_ ?_ rfl ?_; (try (simp <;> omega)); (try (simp [maxLen] <;> omega))) | (refine wy rfl rfl rfl rfl rfl rfl ?_ ?_ ?_ ?_; (try (first | trivial | rfl)); (try (simp <;> omega)); (try (simp [maxLen] <;> omega))))
  refine Run.ownNil 3 60 2 rfl ?_
  refine Run.keep [0, 3, 6, 7, 8] rfl ?_
  refine Run.at (l' := [(0, .d (.lst k 2 (l.map V.e))), (3, .d (.own true 60 2 [])), (6, .d (.lst k 2 (l.map V.e))), (7, .d (.v (.int .i64 l.length))), (8, .d (.v (.int .i64 0)))]) (by simp [keepL, lk, initL]) ?_
  refine Run.loopL (α := List V × List V) (fun p => l = p.1 ++ p.2) (fun p => [(0, .d (.lst k 2 (l.map V.e))), (3, .d (.own p.1.isEmpty 60 2 (p.1.map V.e))), (6, .d (.lst k 2 (l.map V.e))), (7, .d (.v (.int .i64 l.length))), (8, .d (.v (.int .i64 p.1.length)))]) (fun p => p.2.length) ([], l) rfl ?_
  rintro ⟨pre, post⟩ hp ih
  simp only at hp
  have hlen : l.length = pre.length + post.length := by rw [hp]; simp
  repeat (first | refine wa ?_ | refine wb ?_ | refine wc ?_ | refine wd ?_ | refine we ?_ | refine wf ?_ | refine wg ?_ | refine wh ?_ | refine wi ?_ | ((first | refine wl rfl rfl ?_ ?_ | refine wn (wp rfl rfl rfl rfl rfl ?_) rfl ?_ | refine wn (wq agree rfl rfl rfl ?_) rfl ?_ | refine wm rfl rfl rfl ?_ ?_ | refine wo rfl (wp rfl rfl rfl rfl rfl ?_) rfl ?_ | refine wo rfl (wq agree rfl rfl rfl ?_) rfl ?_ | refine wt rfl ?_ ?_ | refine wu rfl ?_ ?_ | refine wv rfl rfl ?_ rfl rfl ?_ | refine xa agree rfl rfl ?_ ?_ | refine xb agree rfl rfl rfl ?_ ?_); try (first | exact trivial | (rw [hgd] <;> rfl) | (rw [hgd2] <;> rfl) | ((repeat' apply And.intro) <;> first | exact trivial | exact rfl | omega | (simp; done) | (simp; omega)))) | refine wn (wr rfl rfl rfl) rfl ?_ | refine wo rfl (wr rfl rfl rfl) rfl ?_ | refine ws rfl rfl ?_ | refine wj rfl ?_ | refine wk rfl ?_ | refine ww rfl rfl rfl ?_ | refine wz rfl (by decide) rfl rfl rfl ?_ | (refine wx rfl rfl (.vw (vwOf_sound rfl)) rfl rfl ?_ ?_ rfl ?_; (try (simp <;> omega)); (try (simp [maxLen] <;> omega))) | (refine wy rfl rfl rfl rfl rfl rfl ?_ ?_ ?_ ?_; (try (first | trivial | rfl)); (try (simp <;> omega)); (try (simp [maxLen] <;> omega))))
  refine Run.condB rfl rfl (fun hb => ?_) (fun hb => ?_)
  · cases post with
    | nil => simp [hp] at hb
    | cons x post =>
      simp only [List.length_cons] at hlen
      have hgd : (l.map V.e).getD ((pre.length : Int)).toNat un = x.e := by simp [hp]
      repeat (first | refine wa ?_ | refine wb ?_ | refine wc ?_ | refine wd ?_ | refine we ?_ | refine wf ?_ | refine wg ?_ | refine wh ?_ | refine wi ?_ | ((first | refine wl rfl rfl ?_ ?_ | refine wn (wp rfl rfl rfl rfl rfl ?_) rfl ?_ | refine wn (wq agree rfl rfl rfl ?_) rfl ?_ | refine wm rfl rfl rfl ?_ ?_ | refine wo rfl (wp rfl rfl rfl rfl rfl ?_) rfl ?_ | refine wo rfl (wq agree rfl rfl rfl ?_) rfl ?_ | refine wt rfl ?_ ?_ | refine wu rfl ?_ ?_ | refine wv rfl rfl ?_ rfl rfl ?_ | refine xa agree rfl rfl ?_ ?_ | refine xb agree rfl rfl rfl ?_ ?_); try (first | exact trivial | (rw [hgd] <;> rfl) | (rw [hgd2] <;> rfl) | ((repeat' apply And.intro) <;> first | exact trivial | exact rfl | omega | (simp; done) | (simp; omega)))) | refine wn (wr rfl rfl rfl) rfl ?_ | refine wo rfl (wr rfl rfl rfl) rfl ?_ | refine ws rfl rfl ?_ | refine wj rfl ?_ | refine wk rfl ?_ | refine ww rfl rfl rfl ?_ | refine wz rfl (by decide) rfl rfl rfl ?_ | (refine wx rfl rfl (.vw (vwOf_sound rfl)) rfl rfl ?_ ?_ rfl ?_; (try (simp <;> omega)); (try (simp [maxLen] <;> omega))) | (refine wy rfl rfl rfl rfl rfl rfl ?_ ?_ ?_ ?_; (try (first | trivial | rfl)); (try (simp <;> omega)); (try (simp [maxLen] <;> omega))))
      refine OpsAt.say (d := 11) rfl hgd ?_
      repeat (first | refine wa ?_ | refine wb ?_ | refine wc ?_ | refine wd ?_ | refine we ?_ | refine wf ?_ | refine wg ?_ | refine wh ?_ | refine wi ?_ | ((first | refine wl rfl rfl ?_ ?_ | refine wn (wp rfl rfl rfl rfl rfl ?_) rfl ?_ | refine wn (wq agree rfl rfl rfl ?_) rfl ?_ | refine wm rfl rfl rfl ?_ ?_ | refine wo rfl (wp rfl rfl rfl rfl rfl ?_) rfl ?_ | refine wo rfl (wq agree rfl rfl rfl ?_) rfl ?_ | refine wt rfl ?_ ?_ | refine wu rfl ?_ ?_ | refine wv rfl rfl ?_ rfl rfl ?_ | refine xa agree rfl rfl ?_ ?_ | refine xb agree rfl rfl rfl ?_ ?_); try (first | exact trivial | (rw [hgd] <;> rfl) | (rw [hgd2] <;> rfl) | ((repeat' apply And.intro) <;> first | exact trivial | exact rfl | omega | (simp; done) | (simp; omega)))) | refine wn (wr rfl rfl rfl) rfl ?_ | refine wo rfl (wr rfl rfl rfl) rfl ?_ | refine ws rfl rfl ?_ | refine wj rfl ?_ | refine wk rfl ?_ | refine ww rfl rfl rfl ?_ | refine wz rfl (by decide) rfl rfl rfl ?_ | (refine wx rfl rfl (.vw (vwOf_sound rfl)) rfl rfl ?_ ?_ rfl ?_; (try (simp <;> omega)); (try (simp [maxLen] <;> omega))) | (refine wy rfl rfl rfl rfl rfl rfl ?_ ?_ ?_ ?_; (try (first | trivial | rfl)); (try (simp <;> omega)); (try (simp [maxLen] <;> omega))))
      refine Run.say (d := 8) rfl (y := .v (.int .i64 ((pre ++ [x]).length : Nat))) (by rw [wrap64_in _ (by simp; omega)]; simp) ?_
      refine Run.say (d := 3) rfl (y := .own (pre ++ [x]).isEmpty 60 2 ((pre ++ [x]).map V.e)) (by simp [D.set, D.get, V.e]) ?_
      refine Run.keep [0, 3, 6, 7, 8] rfl ?_
      exact ih (pre ++ [x], post) (by simp [hp]) (by simp)
  · cases post with
    | cons x post => simp [hp] at hb; omega
    | nil =>
      repeat (first | refine wa ?_ | refine wb ?_ | refine wc ?_ | refine wd ?_ | refine we ?_ | refine wf ?_ | refine wg ?_ | refine wh ?_ | refine wi ?_ | ((first | refine wl rfl rfl ?_ ?_ | refine wn (wp rfl rfl rfl rfl rfl ?_) rfl ?_ | refine wn (wq agree rfl rfl rfl ?_) rfl ?_ | refine wm rfl rfl rfl ?_ ?_ | refine wo rfl (wp rfl rfl rfl rfl rfl ?_) rfl ?_ | refine wo rfl (wq agree rfl rfl rfl ?_) rfl ?_ | refine wt rfl ?_ ?_ | refine wu rfl ?_ ?_ | refine wv rfl rfl ?_ rfl rfl ?_ | refine xa agree rfl rfl ?_ ?_ | refine xb agree rfl rfl rfl ?_ ?_); try (first | exact trivial | (rw [hgd] <;> rfl) | (rw [hgd2] <;> rfl) | ((repeat' apply And.intro) <;> first | exact trivial | exact rfl | omega | (simp; done) | (simp; omega)))) | refine wn (wr rfl rfl rfl) rfl ?_ | refine wo rfl (wr rfl rfl rfl) rfl ?_ | refine ws rfl rfl ?_ | refine wj rfl ?_ | refine wk rfl ?_ | refine ww rfl rfl rfl ?_ | refine wz rfl (by decide) rfl rfl rfl ?_ | (refine wx rfl rfl (.vw (vwOf_sound rfl)) rfl rfl ?_ ?_ rfl ?_; (try (simp <;> omega)); (try (simp [maxLen] <;> omega))) | (refine wy rfl rfl rfl rfl rfl rfl ?_ ?_ ?_ ?_; (try (first | trivial | rfl)); (try (simp <;> omega)); (try (simp [maxLen] <;> omega))))
      refine Run.freeze 3 .any rfl (okK_any _) ?_
      refine Run.ret (Ends.tmpE rfl rfl ?_)
      simp [hp]
theorem c24 (k : SK) (l : List St) (hl : l.length ≤ 1000000) : DFun Try.prog 24 [.lst k 4 (l.map St.e)] (.lst .any 4 (l.map St.e)) := by
  refine DFun.ofRun agree mixed Try.func24 rfl rfl ?_
  repeat (first | refine wa ?_ | refine wb ?_ | refine wc ?_ | refine wd ?_ | refine we ?_ | refine wf ?_ | refine wg ?_ | refine wh ?_ | refine wi ?_ | ((first | refine wl rfl rfl ?_ ?_ | refine wn (wp rfl rfl rfl rfl rfl ?_) rfl ?_ | refine wn (wq agree rfl rfl rfl ?_) rfl ?_ | refine wm rfl rfl rfl ?_ ?_ | refine wo rfl (wp rfl rfl rfl rfl rfl ?_) rfl ?_ | refine wo rfl (wq agree rfl rfl rfl ?_) rfl ?_ | refine wt rfl ?_ ?_ | refine wu rfl ?_ ?_ | refine wv rfl rfl ?_ rfl rfl ?_ | refine xa agree rfl rfl ?_ ?_ | refine xb agree rfl rfl rfl ?_ ?_); try (first | exact trivial | (rw [hgd] <;> rfl) | (rw [hgd2] <;> rfl) | ((repeat' apply And.intro) <;> first | exact trivial | exact rfl | omega | (simp; done) | (simp; omega)))) | refine wn (wr rfl rfl rfl) rfl ?_ | refine wo rfl (wr rfl rfl rfl) rfl ?_ | refine ws rfl rfl ?_ | refine wj rfl ?_ | refine wk rfl ?_ | refine ww rfl rfl rfl ?_ | refine wz rfl (by decide) rfl rfl rfl ?_ | (refine wx rfl rfl (.vw (vwOf_sound rfl)) rfl rfl ?_ ?_ rfl ?_; (try (simp <;> omega)); (try (simp [maxLen] <;> omega))) | (refine wy rfl rfl rfl rfl rfl rfl ?_ ?_ ?_ ?_; (try (first | trivial | rfl)); (try (simp <;> omega)); (try (simp [maxLen] <;> omega))))
  refine Run.ownNil 3 58 4 rfl ?_
  refine Run.keep [0, 3, 6, 7, 8] rfl ?_
  refine Run.at (l' := [(0, .d (.lst k 4 (l.map St.e))), (3, .d (.own true 58 4 [])), (6, .d (.lst k 4 (l.map St.e))), (7, .d (.v (.int .i64 l.length))), (8, .d (.v (.int .i64 0)))]) (by simp [keepL, lk, initL]) ?_
  refine Run.loopL (α := List St × List St) (fun p => l = p.1 ++ p.2) (fun p => [(0, .d (.lst k 4 (l.map St.e))), (3, .d (.own p.1.isEmpty 58 4 (p.1.map St.e))), (6, .d (.lst k 4 (l.map St.e))), (7, .d (.v (.int .i64 l.length))), (8, .d (.v (.int .i64 p.1.length)))]) (fun p => p.2.length) ([], l) rfl ?_
  rintro ⟨pre, post⟩ hp ih
  simp only at hp
  have hlen : l.length = pre.length + post.length := by rw [hp]; simp
  repeat (first | refine wa ?_ | refine wb ?_ | refine wc ?_ | refine wd ?_ | refine we ?_ | refine wf ?_ | refine wg ?_ | refine wh ?_ | refine wi ?_ | ((first | refine wl rfl rfl ?_ ?_ | refine wn (wp rfl rfl rfl rfl rfl ?_) rfl ?_ | refine wn (wq agree rfl rfl rfl ?_) rfl ?_ | refine wm rfl rfl rfl ?_ ?_ | refine wo rfl (wp rfl rfl rfl rfl rfl ?_) rfl ?_ | refine wo rfl (wq agree rfl rfl rfl ?_) rfl ?_ | refine wt rfl ?_ ?_ | refine wu rfl ?_ ?_ | refine wv rfl rfl ?_ rfl rfl ?_ | refine xa agree rfl rfl ?_ ?_ | refine xb agree rfl rfl rfl ?_ ?_); try (first | exact trivial | (rw [hgd] <;> rfl) | (rw [hgd2] <;> rfl) | ((repeat' apply And.intro) <;> first | exact trivial | exact rfl | omega | (simp; done) | (simp; omega)))) | refine wn (wr rfl rfl rfl) rfl ?_ | refine wo rfl (wr rfl rfl rfl) rfl ?_ | refine ws rfl rfl ?_ | refine wj rfl ?_ | refine wk rfl ?_ | refine ww rfl rfl rfl ?_ | refine wz rfl (by decide) rfl rfl rfl ?_ | (refine wx rfl rfl (.vw (vwOf_sound rfl)) rfl rfl ?_ ?_ rfl ?_; (try (simp <;> omega)); (try (simp [maxLen] <;> omega))) | (refine wy rfl rfl rfl rfl rfl rfl ?_ ?_ ?_ ?_; (try (first | trivial | rfl)); (try (simp <;> omega)); (try (simp [maxLen] <;> omega))))
  refine Run.condB rfl rfl (fun hb => ?_) (fun hb => ?_)
  · cases post with
    | nil => simp [hp] at hb
    | cons x post =>
      simp only [List.length_cons] at hlen
      have hgd : (l.map St.e).getD ((pre.length : Int)).toNat un = x.e := by simp [hp]
      repeat (first | refine wa ?_ | refine wb ?_ | refine wc ?_ | refine wd ?_ | refine we ?_ | refine wf ?_ | refine wg ?_ | refine wh ?_ | refine wi ?_ | ((first | refine wl rfl rfl ?_ ?_ | refine wn (wp rfl rfl rfl rfl rfl ?_) rfl ?_ | refine wn (wq agree rfl rfl rfl ?_) rfl ?_ | refine wm rfl rfl rfl ?_ ?_ | refine wo rfl (wp rfl rfl rfl rfl rfl ?_) rfl ?_ | refine wo rfl (wq agree rfl rfl rfl ?_) rfl ?_ | refine wt rfl ?_ ?_ | refine wu rfl ?_ ?_ | refine wv rfl rfl ?_ rfl rfl ?_ | refine xa agree rfl rfl ?_ ?_ | refine xb agree rfl rfl rfl ?_ ?_); try (first | exact trivial | (rw [hgd] <;> rfl) | (rw [hgd2] <;> rfl) | ((repeat' apply And.intro) <;> first | exact trivial | exact rfl | omega | (simp; done) | (simp; omega)))) | refine wn (wr rfl rfl rfl) rfl ?_ | refine wo rfl (wr rfl rfl rfl) rfl ?_ | refine ws rfl rfl ?_ | refine wj rfl ?_ | refine wk rfl ?_ | refine ww rfl rfl rfl ?_ | refine wz rfl (by decide) rfl rfl rfl ?_ | (refine wx rfl rfl (.vw (vwOf_sound rfl)) rfl rfl ?_ ?_ rfl ?_; (try (simp <;> omega)); (try (simp [maxLen] <;> omega))) | (refine wy rfl rfl rfl rfl rfl rfl ?_ ?_ ?_ ?_; (try (first | trivial | rfl)); (try (simp <;> omega)); (try (simp [maxLen] <;> omega))))
      refine OpsAt.say (d := 11) rfl hgd ?_
      repeat (first | refine wa ?_ | refine wb ?_ | refine wc ?_ | refine wd ?_ | refine we ?_ | refine wf ?_ | refine wg ?_ | refine wh ?_ | refine wi ?_ | ((first | refine wl rfl rfl ?_ ?_ | refine wn (wp rfl rfl rfl rfl rfl ?_) rfl ?_ | refine wn (wq agree rfl rfl rfl ?_) rfl ?_ | refine wm rfl rfl rfl ?_ ?_ | refine wo rfl (wp rfl rfl rfl rfl rfl ?_) rfl ?_ | refine wo rfl (wq agree rfl rfl rfl ?_) rfl ?_ | refine wt rfl ?_ ?_ | refine wu rfl ?_ ?_ | refine wv rfl rfl ?_ rfl rfl ?_ | refine xa agree rfl rfl ?_ ?_ | refine xb agree rfl rfl rfl ?_ ?_); try (first | exact trivial | (rw [hgd] <;> rfl) | (rw [hgd2] <;> rfl) | ((repeat' apply And.intro) <;> first | exact trivial | exact rfl | omega | (simp; done) | (simp; omega)))) | refine wn (wr rfl rfl rfl) rfl ?_ | refine wo rfl (wr rfl rfl rfl) rfl ?_ | refine ws rfl rfl ?_ | refine wj rfl ?_ | refine wk rfl ?_ | refine ww rfl rfl rfl ?_ | refine wz rfl (by decide) rfl rfl rfl ?_ | (refine wx rfl rfl (.vw (vwOf_sound rfl)) rfl rfl ?_ ?_ rfl ?_; (try (simp <;> omega)); (try (simp [maxLen] <;> omega))) | (refine wy rfl rfl rfl rfl rfl rfl ?_ ?_ ?_ ?_; (try (first | trivial | rfl)); (try (simp <;> omega)); (try (simp [maxLen] <;> omega))))
      refine Run.say (d := 8) rfl (y := .v (.int .i64 ((pre ++ [x]).length : Nat))) (by rw [wrap64_in _ (by simp; omega)]; simp) ?_
      refine Run.say (d := 3) rfl (y := .own (pre ++ [x]).isEmpty 58 4 ((pre ++ [x]).map St.e)) (by simp [D.set, D.get, St.e, built]) ?_
      refine Run.keep [0, 3, 6, 7, 8] rfl ?_
      exact ih (pre ++ [x], post) (by simp [hp]) (by simp)
  · cases post with
    | cons x post => simp [hp] at hb; omega
    | nil =>
      repeat (first | refine wa ?_ | refine wb ?_ | refine wc ?_ | refine wd ?_ | refine we ?_ | refine wf ?_ | refine wg ?_ | refine wh ?_ | refine wi ?_ | ((first | refine wl rfl rfl ?_ ?_ | refine wn (wp rfl rfl rfl rfl rfl ?_) rfl ?_ | refine wn (wq agree rfl rfl rfl ?_) rfl ?_ | refine wm rfl rfl rfl ?_ ?_ | refine wo rfl (wp rfl rfl rfl rfl rfl ?_) rfl ?_ | refine wo rfl (wq agree rfl rfl rfl ?_) rfl ?_ | refine wt rfl ?_ ?_ | refine wu rfl ?_ ?_ | refine wv rfl rfl ?_ rfl rfl ?_ | refine xa agree rfl rfl ?_ ?_ | refine xb agree rfl rfl rfl ?_ ?_); try (first | exact trivial | (rw [hgd] <;> rfl) | (rw [hgd2] <;> rfl) | ((repeat' apply And.intro) <;> first | exact trivial | exact rfl | omega | (simp; done) | (simp; omega)))) | refine wn (wr rfl rfl rfl) rfl ?_ | refine wo rfl (wr rfl rfl rfl) rfl ?_ | refine ws rfl rfl ?_ | refine wj rfl ?_ | refine wk rfl ?_ | refine ww rfl rfl rfl ?_ | refine wz rfl (by decide) rfl rfl rfl ?_ | (refine wx rfl rfl (.vw (vwOf_sound rfl)) rfl rfl ?_ ?_ rfl ?_; (try (simp <;> omega)); (try (simp [maxLen] <;> omega))) | (refine wy rfl rfl rfl rfl rfl rfl ?_ ?_ ?_ ?_; (try (first | trivial | rfl)); (try (simp <;> omega)); (try (simp [maxLen] <;> omega))))
      refine Run.freeze 3 .any rfl (okK_any _) ?_
      refine Run.ret (Ends.tmpE rfl rfl ?_)
      simp [hp]
theorem c31 (k : SK) (l : List St) (hl : l.length ≤ 1000000) : DFun Try.prog 31 [.lst k 4 (l.map St.e)] (.lst .any 4 (l.map St.e)) := by
  refine DFun.ofRun agree mixed Try.func31 rfl rfl ?_
  repeat (first | refine wa ?_ | refine wb ?_ | refine wc ?_ | refine wd ?_ | refine we ?_ | refine wf ?_ | refine wg ?_ | refine wh ?_ | refine wi ?_ | ((first | refine wl rfl rfl ?_ ?_ | refine wn (wp rfl rfl rfl rfl rfl ?_) rfl ?_ | refine wn (wq agree rfl rfl rfl ?_) rfl ?_ | refine wm rfl rfl rfl ?_ ?_ | refine wo rfl (wp rfl rfl rfl rfl rfl ?_) rfl ?_ | refine wo rfl (wq agree rfl rfl rfl ?_) rfl ?_ | refine wt rfl ?_ ?_ | refine wu rfl ?_ ?_ | refine wv rfl rfl ?_ rfl rfl ?_ | refine xa agree rfl rfl ?_ ?_ | refine xb agree rfl rfl rfl ?_ ?_); try (first | exact trivial | (rw [hgd] <;> rfl) | (rw [hgd2] <;> rfl) | ((repeat' apply And.intro) <;> first | exact trivial | exact rfl | omega | (simp; done) | (simp; omega)))) | refine wn (wr rfl rfl rfl) rfl ?_ | refine wo rfl (wr rfl rfl rfl) rfl ?_ | refine ws rfl rfl ?_ | refine wj rfl ?_ | refine wk rfl ?_ | refine ww rfl rfl rfl ?_ | refine wz rfl (by decide) rfl rfl rfl ?_ | (refine wx rfl rfl (.vw (vwOf_sound rfl)) rfl rfl ?_ ?_ rfl ?_; (try (simp <;> omega)); (try (simp [maxLen] <;> omega))) | (refine wy rfl rfl rfl rfl rfl rfl ?_ ?_ ?_ ?_; (try (first | trivial | rfl)); (try (simp <;> omega)); (try (simp [maxLen] <;> omega))))
  refine Run.ownNil 3 68 4 rfl ?_
  refine Run.keep [0, 3, 6, 7, 8] rfl ?_
  refine Run.at (l' := [(0, .d (.lst k 4 (l.map St.e))), (3, .d (.own true 68 4 [])), (6, .d (.lst k 4 (l.map St.e))), (7, .d (.v (.int .i64 l.length))), (8, .d (.v (.int .i64 0)))]) (by simp [keepL, lk, initL]) ?_
  refine Run.loopL (α := List St × List St) (fun p => l = p.1 ++ p.2) (fun p => [(0, .d (.lst k 4 (l.map St.e))), (3, .d (.own p.1.isEmpty 68 4 (p.1.map St.e))), (6, .d (.lst k 4 (l.map St.e))), (7, .d (.v (.int .i64 l.length))), (8, .d (.v (.int .i64 p.1.length)))]) (fun p => p.2.length) ([], l) rfl ?_
  rintro ⟨pre, post⟩ hp ih
  simp only at hp
  have hlen : l.length = pre.length + post.length := by rw [hp]; simp
  repeat (first | refine wa ?_ | refine wb ?_ | refine wc ?_ | refine wd ?_ | refine we ?_ | refine wf ?_ | refine wg ?_ | refine wh ?_ | refine wi ?_ | ((first | refine wl rfl rfl ?_ ?_ | refine wn (wp rfl rfl rfl rfl rfl ?_) rfl ?_ | refine wn (wq agree rfl rfl rfl ?_) rfl ?_ | refine wm rfl rfl rfl ?_ ?_ | refine wo rfl (wp rfl rfl rfl rfl rfl ?_) rfl ?_ | refine wo rfl (wq agree rfl rfl rfl ?_) rfl ?_ | refine wt rfl ?_ ?_ | refine wu rfl ?_ ?_ | refine wv rfl rfl ?_ rfl rfl ?_ | refine xa agree rfl rfl ?_ ?_ | refine xb agree rfl rfl rfl ?_ ?_); try (first | exact trivial | (rw [hgd] <;> rfl) | (rw [hgd2] <;> rfl) | ((repeat' apply And.intro) <;> first | exact trivial | exact rfl | omega | (simp; done) | (simp; omega)))) | refine wn (wr rfl rfl rfl) rfl ?_ | refine wo rfl (wr rfl rfl rfl) rfl ?_ | refine ws rfl rfl ?_ | refine wj rfl ?_ | refine wk rfl ?_ | refine ww rfl rfl rfl ?_ | refine wz rfl (by decide) rfl rfl rfl ?_ | (refine wx rfl rfl (.vw (vwOf_sound rfl)) rfl rfl ?_ ?_ rfl ?_; (try (simp <;> omega)); (try (simp [maxLen] <;> omega))) | (refine wy rfl rfl rfl rfl rfl rfl ?_ ?_ ?_ ?_; (try (first | trivial | rfl)); (try (simp <;> omega)); (try (simp [maxLen] <;> omega))))
  refine Run.condB rfl rfl (fun hb => ?_) (fun hb => ?_)
  · cases post with
    | nil => simp [hp] at hb
    | cons x post =>
      simp only [List.length_cons] at hlen
      have hgd : (l.map St.e).getD ((pre.length : Int)).toNat un = x.e := by simp [hp]
      repeat (first | refine wa ?_ | refine wb ?_ | refine wc ?_ | refine wd ?_ | refine we ?_ | refine wf ?_ | refine wg ?_ | refine wh ?_ | refine wi ?_ | ((first | refine wl rfl rfl ?_ ?_ | refine wn (wp rfl rfl rfl rfl rfl ?_) rfl ?_ | refine wn (wq agree rfl rfl rfl ?_) rfl ?_ | refine wm rfl rfl rfl ?_ ?_ | refine wo rfl (wp rfl rfl rfl rfl rfl ?_) rfl ?_ | refine wo rfl (wq agree rfl rfl rfl ?_) rfl ?_ | refine wt rfl ?_ ?_ | refine wu rfl ?_ ?_ | refine wv rfl rfl ?_ rfl rfl ?_ | refine xa agree rfl rfl ?_ ?_ | refine xb agree rfl rfl rfl ?_ ?_); try (first | exact trivial | (rw [hgd] <;> rfl) | (rw [hgd2] <;> rfl) | ((repeat' apply And.intro) <;> first | exact trivial | exact rfl | omega | (simp; done) | (simp; omega)))) | refine wn (wr rfl rfl rfl) rfl ?_ | refine wo rfl (wr rfl rfl rfl) rfl ?_ | refine ws rfl rfl ?_ | refine wj rfl ?_ | refine wk rfl ?_ | refine ww rfl rfl rfl ?_ | refine wz rfl (by decide) rfl rfl rfl ?_ | (refine wx rfl rfl (.vw (vwOf_sound rfl)) rfl rfl ?_ ?_ rfl ?_; (try (simp <;> omega)); (try (simp [maxLen] <;> omega))) | (refine wy rfl rfl rfl rfl rfl rfl ?_ ?_ ?_ ?_; (try (first | trivial | rfl)); (try (simp <;> omega)); (try (simp [maxLen] <;> omega))))
      refine OpsAt.say (d := 11) rfl hgd ?_
      repeat (first | refine wa ?_ | refine wb ?_ | refine wc ?_ | refine wd ?_ | refine we ?_ | refine wf ?_ | refine wg ?_ | refine wh ?_ | refine wi ?_ | ((first | refine wl rfl rfl ?_ ?_ | refine wn (wp rfl rfl rfl rfl rfl ?_) rfl ?_ | refine wn (wq agree rfl rfl rfl ?_) rfl ?_ | refine wm rfl rfl rfl ?_ ?_ | refine wo rfl (wp rfl rfl rfl rfl rfl ?_) rfl ?_ | refine wo rfl (wq agree rfl rfl rfl ?_) rfl ?_ | refine wt rfl ?_ ?_ | refine wu rfl ?_ ?_ | refine wv rfl rfl ?_ rfl rfl ?_ | refine xa agree rfl rfl ?_ ?_ | refine xb agree rfl rfl rfl ?_ ?_); try (first | exact trivial | (rw [hgd] <;> rfl) | (rw [hgd2] <;> rfl) | ((repeat' apply And.intro) <;> first | exact trivial | exact rfl | omega | (simp; done) | (simp; omega)))) | refine wn (wr rfl rfl rfl) rfl ?_ | refine wo rfl (wr rfl rfl rfl) rfl ?_ | refine ws rfl rfl ?_ | refine wj rfl ?_ | refine wk rfl ?_ | refine ww rfl rfl rfl ?_ | refine wz rfl (by decide) rfl rfl rfl ?_ | (refine wx rfl rfl (.vw (vwOf_sound rfl)) rfl rfl ?_ ?_ rfl ?_; (try (simp <;> omega)); (try (simp [maxLen] <;> omega))) | (refine wy rfl rfl rfl rfl rfl rfl ?_ ?_ ?_ ?_; (try (first | trivial | rfl)); (try (simp <;> omega)); (try (simp [maxLen] <;> omega))))
      refine Run.say (d := 8) rfl (y := .v (.int .i64 ((pre ++ [x]).length : Nat))) (by rw [wrap64_in _ (by simp; omega)]; simp) ?_
      refine Run.say (d := 3) rfl (y := .own (pre ++ [x]).isEmpty 68 4 ((pre ++ [x]).map St.e)) (by simp [D.set, D.get, St.e, built]) ?_
      refine Run.keep [0, 3, 6, 7, 8] rfl ?_
      exact ih (pre ++ [x], post) (by simp [hp]) (by simp)
  · cases post with
    | cons x post => simp [hp] at hb; omega
    | nil =>
      repeat (first | refine wa ?_ | refine wb ?_ | refine wc ?_ | refine wd ?_ | refine we ?_ | refine wf ?_ | refine wg ?_ | refine wh ?_ | refine wi ?_ | ((first | refine wl rfl rfl ?_ ?_ | refine wn (wp rfl rfl rfl rfl rfl ?_) rfl ?_ | refine wn (wq agree rfl rfl rfl ?_) rfl ?_ | refine wm rfl rfl rfl ?_ ?_ | refine wo rfl (wp rfl rfl rfl rfl rfl ?_) rfl ?_ | refine wo rfl (wq agree rfl rfl rfl ?_) rfl ?_ | refine wt rfl ?_ ?_ | refine wu rfl ?_ ?_ | refine wv rfl rfl ?_ rfl rfl ?_ | refine xa agree rfl rfl ?_ ?_ | refine xb agree rfl rfl rfl ?_ ?_); try (first | exact trivial | (rw [hgd] <;> rfl) | (rw [hgd2] <;> rfl) | ((repeat' apply And.intro) <;> first | exact trivial | exact rfl | omega | (simp; done) | (simp; omega)))) | refine wn (wr rfl rfl rfl) rfl ?_ | refine wo rfl (wr rfl rfl rfl) rfl ?_ | refine ws rfl rfl ?_ | refine wj rfl ?_ | refine wk rfl ?_ | refine ww rfl rfl rfl ?_ | refine wz rfl (by decide) rfl rfl rfl ?_ | (refine wx rfl rfl (.vw (vwOf_sound rfl)) rfl rfl ?_ ?_ rfl ?_; (try (simp <;> omega)); (try (simp [maxLen] <;> omega))) | (refine wy rfl rfl rfl rfl rfl rfl ?_ ?_ ?_ ?_; (try (first | trivial | rfl)); (try (simp <;> omega)); (try (simp [maxLen] <;> omega))))
      refine Run.freeze 3 .any rfl (okK_any _) ?_
      refine Run.ret (Ends.tmpE rfl rfl ?_)
      simp [hp]
end Go.Proofs.Ytopmpbdjnkomoaa
