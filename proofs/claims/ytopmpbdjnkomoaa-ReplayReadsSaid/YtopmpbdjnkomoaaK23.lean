/- Loops; a nil slice as an own one; plain lemmas. No conditions. -/
import Derived.Test.YtopmpbdjnkomoaaK22
namespace Go.Dat

variable [Tables]

variable {P : Program} {Θ : TypeId → TI} {n : Nat} {E E' : Nat → Slot} {R : (Nat → Slot) → Prop} {ops : Array Oper} {ld : List Nat} {i : Nat} {os : List Oper} {k : List Item} {l l' : Env}

theorem Run.at {todo : List Item} (h : l = l') (next : Run P Θ n R todo (lk l')) : Run P Θ n R todo (lk l) := h ▸ next

/-- A loop: I says what holds of the ghost a at a round's head, f what the slots hold. -/
theorem Run.loopL {α : Type} {x : Code} (I : α → Prop) (f : α → Env) (μ : α → Nat) (a : α) (h0 : I a)
    (h : ∀ a, I a → (∀ a', I a' → μ a' < μ a → Run P Θ n R (.inLoop x :: k) (lk (f a'))) → Run P Θ n R (.code x :: .inLoop x :: k) (lk (f a))) : Run P Θ n R (.code (.loop x) :: k) (lk (f a)) := by
  have key : ∀ m a, μ a = m → I a → Run P Θ n R (.code x :: .inLoop x :: k) (lk (f a)) := by
    intro m
    induction m using Nat.strongRecOn with
    | _ m ih =>
      intro a hm hI
      exact h a hI fun a' hI' hlt => .inLoop (ih (μ a') (hm ▸ hlt) a' rfl hI')
  exact .loop (key _ a rfl h0)

/-- A nil slice is one of the frame's own. -/
theorem Run.ownNil {todo : List Item} (s e es : Nat) {es' : Nat} (hE : lk l s = .d (.lst .nl es' [])) (h : Run P Θ n R todo (lk ((s, .d (.own true e es [])) :: l))) : Run P Θ n R todo (lk l) := by
  refine .ghost (fun ρ w tmps hI => ?_) h
  refine ⟨ρ, Fr.refl _ _, hI.size, hI.lt, hI.tab, fun u => ?_⟩
  by_cases hu : s = u
  · subst hu
    simp only [lk, if_true]
    have h1 := hI.slot s
    rw [hE] at h1
    obtain ⟨cs, h2, h3⟩ := (RV.plain (x := .lst .nl es' []) rfl).1 h1
    simp only [Rp] at h2
    obtain ⟨a, l0, c, rfl, h4, _⟩ := h2
    simp only [Hdr] at h4
    obtain ⟨rfl, rfl, rfl, _⟩ := h4
    simp only [VC] at h3
    have hv : tmps.getD s undef = .slice none 0 0 := by simpa using h3.symm
    rw [hv]
    exact RV.ofOwn ⟨[], World.ownsRow_nil w 0 e es, by simp [Rpa], by simp, by simp [Value.ownBlock]⟩
  · simp only [lk, hu, if_false]
    refine (hI.slot u).keep hI (fun b hb => ⟨hb, rfl⟩) (fun b r hb => ⟨hb, rfl⟩) (fun b hb => ⟨hb, rfl⟩) (fun s' hs' => ?_) (.inr ⟨fun _ _ => rfl, Nat.le_refl _⟩)
    have how := hI.refOwner hs'
    have h1 : s ≠ s' := by rintro rfl; rw [hE] at how; simp [owner] at how
    exact ⟨by simp [h1], rfl, fun _ _ => rfl⟩

omit [Tables] in
theorem wrap64_in (x : Int) (h : -9223372036854775808 ≤ x ∧ x ≤ 9223372036854775807) : IntKind.i64.wrap x = x := by
  simp only [IntKind.wrap, IntKind.bits, IntKind.signed]
  simp
  omega

omit [Tables] in
theorem getD_pre {pre post : List D} {x d : D} : (pre ++ x :: post).getD pre.length d = x := by simp

end Go.Dat
