/- Branches, symbolic and not; ends told by an equation. No conditions. -/
import Derived.Test.YtopmpbdjnkomoaaK21
namespace Go.Dat

variable [Tables]

variable {P : Program} {Θ : TypeId → TI} {n : Nat} {E E' : Nat → Slot} {R : (Nat → Slot) → Prop} {ops : Array Oper} {ld : List Nat} {i : Nat} {os : List Oper} {k : List Item} {l : Env}

theorem Run.condT {c : Operand} {x y : Code} {s : Prop} (h : opOf (lk l) c = some (.v (.bool true), s)) (hs : s) (next : Run P Θ n R (.code x :: k) (lk l)) : Run P Θ n R (.code (.cond c x y) :: k) (lk l) :=
  .cond (b := true) (opOf_sound h hs) next
theorem Run.condF {c : Operand} {x y : Code} {s : Prop} (h : opOf (lk l) c = some (.v (.bool false), s)) (hs : s) (next : Run P Θ n R (.code y :: k) (lk l)) : Run P Θ n R (.code (.cond c x y) :: k) (lk l) :=
  .cond (b := false) (opOf_sound h hs) next
theorem Run.condB {c : Operand} {x y : Code} {s : Prop} {b : Bool} (h : opOf (lk l) c = some (.v (.bool b), s)) (hs : s) (h1 : b = true → Run P Θ n R (.code x :: k) (lk l)) (h2 : b = false → Run P Θ n R (.code y :: k) (lk l)) :
    Run P Θ n R (.code (.cond c x y) :: k) (lk l) := by
  cases b with
  | true => exact .condT h hs (h1 rfl)
  | false => exact .condF h hs (h2 rfl)

omit [Tables] in
theorem lk_same {d : Nat} {s : Slot} (h : lk l d = s) : lk ((d, s) :: l) = lk l := by
  funext u
  simp only [lk]
  by_cases hu : d = u
  · subst hu; simp [h]
  · simp [hu]

theorem OpsAt.br {o : Oper} {j d : Nat} {want b : Bool} (_hg : o.guard = some (j, want)) (_h : (ops[j]?).bind (·.dst) = some d) (hE : lk l d = .d (.v (.bool b)))
    (h1 : b = true → OpsAt P Θ n R ops ld i (o :: os) k (lk ((d, .d (.v (.bool true))) :: l))) (h2 : b = false → OpsAt P Θ n R ops ld i (o :: os) k (lk ((d, .d (.v (.bool false))) :: l))) :
    OpsAt P Θ n R ops ld i (o :: os) k (lk l) := by
  cases b with
  | true => have := h1 rfl; rwa [lk_same hE] at this
  | false => have := h2 rfl; rwa [lk_same hE] at this

/-- A test's slot, told as true or false. -/
theorem OpsAt.test {d : Nat} {b : Bool} (hE : lk l d = .d (.v (.bool b)))
    (h1 : b = true → OpsAt P Θ n R ops ld i os k (lk ((d, .d (.v (.bool true))) :: l))) (h2 : b = false → OpsAt P Θ n R ops ld i os k (lk ((d, .d (.v (.bool false))) :: l))) :
    OpsAt P Θ n R ops ld i os k (lk l) := by
  cases b with
  | true => have := h1 rfl; rwa [lk_same hE] at this
  | false => have := h2 rfl; rwa [lk_same hE] at this

/-- A slot's datum in other words. -/
theorem OpsAt.say {d : Nat} {x y : D} (hE : lk l d = .d x) (h : x = y) (next : OpsAt P Θ n R ops ld i os k (lk ((d, .d y) :: l))) : OpsAt P Θ n R ops ld i os k (lk l) := by
  subst h; rwa [lk_same hE] at next
theorem Run.say {d : Nat} {x y : D} (hE : lk l d = .d x) (h : x = y) (next : Run P Θ n R k (lk ((d, .d y) :: l))) : Run P Θ n R k (lk l) := by
  subst h; rwa [lk_same hE] at next
theorem Run.sayB {d : Nat} {x y : D} (hE : lk l d = .box x) (h : x = y) (next : Run P Θ n R k (lk ((d, .box y) :: l))) : Run P Θ n R k (lk l) := by
  subst h; rwa [lk_same hE] at next
theorem OpsAt.sayB {d : Nat} {x y : D} (hE : lk l d = .box x) (h : x = y) (next : OpsAt P Θ n R ops ld i os k (lk ((d, .box y) :: l))) : OpsAt P Θ n R ops ld i os k (lk l) := by
  subst h; rwa [lk_same hE] at next

theorem Ends.tmpE {fn : Func} {t : Nat} {x r : D} (h : fn.results = #[.tmp t]) (hE : E t = .d x) (hx : x = r) : Ends P fn r E := hx ▸ .tmp h hE
theorem Ends.viewE {fn : Func} {t s : Nat} {nl e es xs r} (h : fn.results = #[.tmp t]) (hE : E t = .view s []) (hs : E s = .d (.own nl e es xs)) (hx : .own nl e es xs = r) : Ends P fn r E := hx ▸ .view h hE hs
theorem Ends.tupE {fn : Func} {ds : List D} {c : Prop} {r : D} (hΘ : Agree P Θ) (h : resOf Θ E fn.results.toList = some (ds, c)) (hc : c) (h1 : (ds.length == 1) = false) (hx : .tup ds = r) : Ends P fn r E := hx ▸ .tup hΘ h hc h1
theorem Ends.cellE {fn : Func} {a : Nat} {T : TypeId} {s p x r} (hΘ : Agree P Θ) (h : fn.results = #[.cell a T]) (hE : adrOf E a = some (s, p, x)) (hf : ((Θ T).fits (x.get p) && (x.get p).pl) = true) (hx : x.get p = r) : Ends P fn r E := hx ▸ .cell hΘ h hE hf

end Go.Dat
