/- Numerals: what is printed is parsed; the text of a value, and the value of a text. No conditions. -/
import Derived.Lib.ParseIntB
import Derived.Lib.ItoaNum
import Derived.Lib.ItoaMem
import Derived.Lib.Strings
import Derived.Test.YtopmpbdjnkomoaaDoorK23
namespace Go.Proofs.YtopmpbdjnkomoaaDoor
open Go Go.Dat

def i64ok (n : Int) : Prop := -9223372036854775808 ≤ n ∧ n ≤ 9223372036854775807

theorem wrap_ok (n : Int) : i64ok (IntKind.i64.wrap n) := by
  simp only [i64ok, IntKind.wrap, IntKind.bits, IntKind.signed]
  simp
  omega

theorem wrap_mod (n : Int) : ∃ k : Int, IntKind.i64.wrap n = n + k * 18446744073709551616 := by
  simp only [IntKind.wrap, IntKind.bits, IntKind.signed]
  refine ⟨(IntKind.i64.wrap n - n) / 18446744073709551616, ?_⟩
  simp only [IntKind.wrap, IntKind.bits, IntKind.signed]
  simp
  omega

theorem wrap_eq {a b : Int} (h : (a - b) % 18446744073709551616 = 0) : IntKind.i64.wrap a = IntKind.i64.wrap b := by
  simp only [IntKind.wrap, IntKind.bits, IntKind.signed]
  simp
  omega

theorem dec_ne (u : Nat) : Lib.decDigits u ≠ [] := by
  rw [Lib.decDigits]
  split <;> simp

theorem byte48 {k : Nat} (h : k < 10) : (UInt8.ofNat (48 + k)).toNat = 48 + k := by
  rw [UInt8.toNat_ofNat']
  omega

theorem parse_dec (M : Nat) (hM : M ≤ 18446744073709551615) : ∀ (u acc : Nat) (r : List UInt8), acc * 10 ^ (Lib.decDigits u).length + u ≤ M → Lib.parseUintM M acc (Lib.decDigits u ++ r) = Lib.parseUintM M (acc * 10 ^ (Lib.decDigits u).length + u) r := by
  intro u
  induction u using Nat.strongRecOn with
  | _ u ih =>
    intro acc r h
    by_cases hu : u < 10
    · rw [Lib.decDigits_one hu] at h ⊢
      simp only [List.length_singleton, Nat.pow_one] at h ⊢
      simp only [List.singleton_append, Lib.parseUintM, byte48 hu]
      rw [if_pos (by omega), if_neg (by omega), if_neg (by omega)]
      congr 1
      omega
    · have e : Lib.decDigits u = Lib.decDigits (u / 10) ++ [UInt8.ofNat (48 + u % 10)] := by rw [Lib.decDigits, dif_neg hu]
      have hlen : (Lib.decDigits u).length = (Lib.decDigits (u / 10)).length + 1 := by rw [e]; simp
      have hp : acc * 10 ^ (Lib.decDigits u).length = acc * 10 ^ (Lib.decDigits (u / 10)).length * 10 := by rw [hlen, Nat.pow_succ, Nat.mul_assoc]
      rw [hp] at h
      have h2 : acc * 10 ^ (Lib.decDigits (u / 10)).length + u / 10 ≤ M := by omega
      conv => lhs; rw [e, List.append_assoc, ih (u / 10) (by omega) acc _ h2]
      rw [hp]
      have hk : u % 10 < 10 := Nat.mod_lt _ (by omega)
      simp only [List.singleton_append, Lib.parseUintM, byte48 hk]
      rw [if_pos (by omega), if_neg (by omega), if_neg (by omega)]
      congr 1
      omega

theorem dec_first : ∀ (u : Nat), ∃ (k : Nat) (r : List UInt8), k < 10 ∧ Lib.decDigits u = UInt8.ofNat (48 + k) :: r := by
  intro u
  induction u using Nat.strongRecOn with
  | _ u ih =>
    by_cases hu : u < 10
    · exact ⟨u, [], hu, Lib.decDigits_one hu⟩
    · obtain ⟨k, r, hk, hr⟩ := ih (u / 10) (by omega)
      exact ⟨k, r ++ [UInt8.ofNat (48 + u % 10)], hk, by rw [Lib.decDigits, dif_neg hu, hr]; rfl⟩

theorem parse_itoa {n : Int} (h : i64ok n) : Lib.parseIntB 64 (Lib.itoa n) = .ok n := by
  unfold i64ok at h
  by_cases hn : n < 0
  · have e : Lib.itoa n = 45 :: Lib.decDigits n.natAbs := by unfold Lib.itoa; rw [if_pos hn]
    have hp := parse_dec (2 ^ 64 - 1) (by decide) n.natAbs 0 [] (by omega)
    simp only [List.append_nil, Nat.zero_mul, Nat.zero_add, Lib.parseUintM] at hp
    rw [e]
    simp only [Lib.parseIntB, Lib.parseUintB, show (45 : UInt8).toNat = 45 from rfl, or_true, if_true, dec_ne, if_false, hp, not_true_eq_false, false_and, true_and]
    rw [if_neg (by omega)]
    congr 1
    omega
  · have e : Lib.itoa n = Lib.decDigits n.toNat := by unfold Lib.itoa; rw [if_neg hn]
    have hp := parse_dec (2 ^ 64 - 1) (by decide) n.toNat 0 [] (by omega)
    simp only [List.append_nil, Nat.zero_mul, Nat.zero_add, Lib.parseUintM] at hp
    obtain ⟨k, r, hk, hr⟩ := dec_first n.toNat
    rw [e, hr]
    rw [hr] at hp
    have h1 : (UInt8.ofNat (48 + k)).toNat ≠ 45 := by rw [byte48 hk]; omega
    have h2 : (UInt8.ofNat (48 + k)).toNat ≠ 43 := by rw [byte48 hk]; omega
    simp only [Lib.parseIntB, Lib.parseUintB, h1, h2, or_self, if_false, hp, not_false_eq_true, true_and, false_and, reduceCtorEq]
    rw [if_neg (by omega)]
    congr 1
    omega

theorem itoa_inj {a b : Int} (ha : i64ok a) (hb : i64ok b) (h : Lib.itoa a = Lib.itoa b) : a = b := by
  have h1 := parse_itoa ha
  rw [h, parse_itoa hb] at h1
  simpa using h1.symm

/-- The document's number of some digits. -/
def digs (l : List UInt8) : Int := l.foldl (fun n c => IntKind.i64.wrap (IntKind.i64.wrap (IntKind.i64.wrap (n * 10) + c.toNat) - 48)) 0

theorem digs_app (l : List UInt8) (c : UInt8) : digs (l ++ [c]) = IntKind.i64.wrap (IntKind.i64.wrap (IntKind.i64.wrap (digs l * 10) + c.toNat) - 48) := by
  unfold digs; rw [List.foldl_append]; rfl

theorem digs_dec : ∀ (u : Nat), digs (Lib.decDigits u) = IntKind.i64.wrap u := by
  have step : ∀ (m : Int) (u k : Nat), k < 10 → m = IntKind.i64.wrap u → IntKind.i64.wrap (IntKind.i64.wrap (IntKind.i64.wrap (m * 10) + (UInt8.ofNat (48 + k)).toNat) - 48) = IntKind.i64.wrap ((u : Int) * 10 + k) := by
    intro m u k hk hm
    rw [byte48 hk]
    obtain ⟨a, ha⟩ := wrap_mod u
    obtain ⟨b, hb⟩ := wrap_mod (m * 10)
    obtain ⟨c, hc⟩ := wrap_mod (IntKind.i64.wrap (m * 10) + ((48 + k : Nat) : Int))
    apply wrap_eq
    rw [hc, hb, hm, ha]
    omega
  intro u
  induction u using Nat.strongRecOn with
  | _ u ih =>
    by_cases hu : u < 10
    · rw [Lib.decDigits_one hu]
      have := step 0 0 u hu (by decide)
      simp only [digs, List.foldl_cons, List.foldl_nil]
      rw [this]
      simp
    · rw [Lib.decDigits, dif_neg hu, digs_app, step _ (u / 10) (u % 10) (Nat.mod_lt _ (by omega)) (ih _ (by omega))]
      congr 1
      omega

theorem digs_ok (l : List UInt8) : i64ok (digs l) := by
  rcases List.eq_nil_or_concat l with rfl | ⟨l', c, rfl⟩
  · simp [digs, i64ok]
  · rw [List.concat_eq_append, digs_app]; exact wrap_ok _

/-! ### Values -/

structure V where
  kind : Int
  n : Int
  deriving DecidableEq, Inhabited

def V.ok (v : V) : Prop := i64ok v.kind ∧ i64ok v.n

def right (v : V) : Bool := if v.kind = 0 then v.n == 0 else if v.kind = 1 then true else v.kind == 2 && (decide (0 ≤ v.n) && decide (v.n < 64))

def prt (v : V) : List UInt8 := if !right v then [] else if v.kind = 0 then [110, 105, 108] else if v.kind = 2 then 64 :: Lib.itoa v.n else Lib.itoa v.n

def vnil : V := ⟨0, 0⟩

theorem itoa_first (n : Int) : ∃ (c : UInt8) (r : List UInt8), Lib.itoa n = c :: r ∧ ((n < 0 ∧ c = 45) ∨ (0 ≤ n ∧ 48 ≤ c.toNat ∧ c.toNat ≤ 57)) := by
  by_cases hn : n < 0
  · exact ⟨45, Lib.decDigits n.natAbs, by unfold Lib.itoa; rw [if_pos hn], .inl ⟨hn, rfl⟩⟩
  · obtain ⟨k, r, hk, hr⟩ := dec_first n.toNat
    exact ⟨UInt8.ofNat (48 + k), r, by unfold Lib.itoa; rw [if_neg hn, hr], .inr ⟨by omega, by rw [byte48 hk]; omega, by rw [byte48 hk]; omega⟩⟩

theorem right_cases {v : V} (h : right v = true) : v = vnil ∨ (v.kind = 1) ∨ (v.kind = 2 ∧ 0 ≤ v.n ∧ v.n < 64) := by
  obtain ⟨k, n⟩ := v
  simp only [right] at h
  split at h
  · next h0 => left; simp only [beq_iff_eq] at h; subst h0 h; rfl
  · split at h
    · next h1 => exact .inr (.inl h1)
    · simp only [Bool.and_eq_true, beq_iff_eq, decide_eq_true_eq] at h
      exact .inr (.inr h)

theorem prt_nil : prt vnil = [110, 105, 108] := by decide
theorem prt_int {v : V} (h : v.kind = 1) : prt v = Lib.itoa v.n := by simp [prt, right, h]
theorem prt_ref {v : V} (h : v.kind = 2) (h0 : 0 ≤ v.n) (h1 : v.n < 64) : prt v = 64 :: Lib.itoa v.n := by simp [prt, right, h, h0, h1]
theorem prt_wrong {v : V} (h : right v = false) : prt v = [] := by simp [prt, h]
theorem prt_ne {v : V} (h : right v = true) : prt v ≠ [] := by
  rcases right_cases h with rfl | h1 | ⟨h1, h2, h3⟩
  · rw [prt_nil]; simp
  · rw [prt_int h1]; obtain ⟨c, r, e, _⟩ := itoa_first v.n; rw [e]; simp
  · rw [prt_ref h1 h2 h3]; simp

theorem right_of_prt {v : V} (h : prt v ≠ []) : right v = true := by
  cases hr : right v with
  | true => rfl
  | false => exact absurd (prt_wrong hr) h

/-- The program's value of a text, and its error. -/
def parseV (s : List UInt8) : V × Int :=
  if s = [110, 105, 108] then (vnil, 0)
  else match Lib.parseIntB 64 (Lib.trimPrefix s [64]) with
    | .ok n => if prt ⟨if Lib.hasPrefix s [64] then 2 else 1, n⟩ = s then (⟨if Lib.hasPrefix s [64] then 2 else 1, n⟩, 0) else (vnil, 8)
    | _ => (vnil, 8)

/-- The document's. -/
def refV (s : List UInt8) : V :=
  match s with
  | [] => vnil
  | c :: r => if c = 64 then ⟨2, digs r⟩ else if c = 45 then ⟨1, IntKind.i64.wrap (0 - digs r)⟩ else if s = [110, 105, 108] then vnil else ⟨1, digs s⟩
def refP (s : List UInt8) : V × Int := if s = [] then (vnil, 8) else if prt (refV s) = s then (refV s, 0) else (vnil, 8)

theorem nil_first {c : UInt8} {r : List UInt8} (h : c :: r = [110, 105, 108]) : c.toNat = 110 := by
  simp only [List.cons.injEq] at h
  rw [h.1]; rfl

theorem int_not_nil {n : Int} : Lib.itoa n ≠ [110, 105, 108] := by
  obtain ⟨c, r, e, h⟩ := itoa_first n
  rw [e]
  intro h2
  have := nil_first h2
  rcases h with ⟨_, rfl⟩ | ⟨_, _, _⟩
  · simp at this
  · omega

theorem pre_int {n : Int} : Lib.hasPrefix (Lib.itoa n) [64] = false := by
  obtain ⟨c, r, e, h⟩ := itoa_first n
  rw [e]
  simp only [Lib.hasPrefix, List.isPrefixOf, Bool.and_true, beq_eq_false_iff_ne]
  rintro rfl
  rcases h with ⟨_, h⟩ | ⟨_, _, h⟩ <;> simp at h

theorem parse_prt {v : V} (hv : i64ok v.n) (h : right v = true) : parseV (prt v) = (v, 0) := by
  rcases right_cases h with rfl | h1 | ⟨h1, h2, h3⟩
  · rw [prt_nil]; rfl
  · have e := prt_int h1
    have hv' : v = ⟨1, v.n⟩ := by obtain ⟨k, n⟩ := v; simp_all
    rw [e]
    simp only [parseV, int_not_nil, if_false, Lib.trimPrefix, pre_int, Bool.false_eq_true, parse_itoa hv]
    rw [← hv', if_pos e]
  · have e := prt_ref h1 h2 h3
    have hv' : v = ⟨2, v.n⟩ := by obtain ⟨k, n⟩ := v; simp_all
    rw [e]
    have h4 : ¬ (64 :: Lib.itoa v.n = [110, 105, 108]) := fun h => by have := nil_first h; simp at this
    have h5 : Lib.hasPrefix (64 :: Lib.itoa v.n) [64] = true := by simp [Lib.hasPrefix, List.isPrefixOf]
    simp only [parseV, h4, if_false, Lib.trimPrefix, h5, if_true, List.length_singleton, List.drop_succ_cons, List.drop_zero, parse_itoa hv]
    rw [← hv', if_pos e]

theorem ref_prt {v : V} (hv : i64ok v.n) (h : right v = true) : refP (prt v) = (v, 0) := by
  have key : refV (prt v) = v := by
    rcases right_cases h with rfl | h1 | ⟨h1, h2, h3⟩
    · rw [prt_nil]; decide
    · have hv' : v = ⟨1, v.n⟩ := by obtain ⟨k, n⟩ := v; simp_all
      rw [prt_int h1]
      by_cases hn : v.n < 0
      · have e : Lib.itoa v.n = 45 :: Lib.decDigits v.n.natAbs := by unfold Lib.itoa; rw [if_pos hn]
        rw [e]
        simp only [refV, show (45 : UInt8) ≠ 64 by decide, if_false, if_true, digs_dec]
        rw [hv']
        simp only [V.mk.injEq, true_and]
        obtain ⟨a, ha⟩ := wrap_mod (v.n.natAbs : Int)
        have : IntKind.i64.wrap (0 - IntKind.i64.wrap (v.n.natAbs : Int)) = IntKind.i64.wrap v.n := wrap_eq (by rw [ha]; omega)
        rw [this, wrap64_in _ hv]
      · have e : Lib.itoa v.n = Lib.decDigits v.n.toNat := by unfold Lib.itoa; rw [if_neg hn]
        obtain ⟨k, r, hk, hr⟩ := dec_first v.n.toNat
        have hb := byte48 hk
        have h6 : UInt8.ofNat (48 + k) ≠ 64 := fun h => by rw [h] at hb; simp at hb; omega
        have h7 : UInt8.ofNat (48 + k) ≠ 45 := fun h => by rw [h] at hb; simp at hb; omega
        have h8 : ¬ (UInt8.ofNat (48 + k) :: r = [110, 105, 108]) := fun h => by have := nil_first h; omega
        rw [e, hr]
        simp only [refV, h6, h7, h8, if_false]
        rw [← hr, digs_dec, hv']
        simp only [V.mk.injEq, true_and]
        rw [show ((v.n.toNat : Nat) : Int) = v.n by omega, wrap64_in _ hv]
    · have hv' : v = ⟨2, v.n⟩ := by obtain ⟨k, n⟩ := v; simp_all
      rw [prt_ref h1 h2 h3]
      have e : Lib.itoa v.n = Lib.decDigits v.n.toNat := by unfold Lib.itoa; rw [if_neg (by omega)]
      simp only [refV, if_true, e, digs_dec]
      rw [hv']
      simp only [V.mk.injEq, true_and]
      rw [show ((v.n.toNat : Nat) : Int) = v.n by omega, wrap64_in _ hv]
  unfold refP
  rw [if_neg (prt_ne h), key, if_pos rfl]

theorem refV_ok (s : List UInt8) : i64ok (refV s).n := by
  unfold refV
  split
  · simp [vnil, i64ok]
  · split
    · exact digs_ok _
    · split
      · exact wrap_ok _
      · split
        · simp [vnil, i64ok]
        · exact digs_ok _

theorem parseIntB_ok {l : List UInt8} {n : Int} (h : Lib.parseIntB 64 l = .ok n) : i64ok n := by
  unfold Lib.parseIntB at h
  split at h
  · cases h
  · simp only at h
    split at h <;> try (cases h; done)
    split at h
    · cases h
    · split at h
      · cases h
      · next h1 h2 =>
        simp only [Lib.NumEnd.ok.injEq] at h
        subst h
        unfold i64ok
        split <;> simp_all <;> omega

theorem parseV_cases (s : List UInt8) : (parseV s = (vnil, 8)) ∨ (i64ok (parseV s).1.n ∧ prt (parseV s).1 = s ∧ (parseV s).2 = 0) := by
  unfold parseV
  split
  · next h => right; rw [h]; exact ⟨by simp [vnil, i64ok], prt_nil, rfl⟩
  · split
    · next n hn =>
      by_cases h : prt ⟨if Lib.hasPrefix s [64] then 2 else 1, n⟩ = s
      · rw [if_pos h]; exact .inr ⟨parseIntB_ok hn, h, rfl⟩
      · rw [if_neg h]; exact .inl rfl
    · exact .inl rfl

theorem parseV_empty : parseV [] = (vnil, 8) := by decide

theorem refP_cases (s : List UInt8) : (refP s = (vnil, 8)) ∨ (i64ok (refP s).1.n ∧ prt (refP s).1 = s ∧ (refP s).2 = 0 ∧ s ≠ []) := by
  unfold refP
  split
  · exact .inl rfl
  · next h0 =>
    split
    · next h => exact .inr ⟨refV_ok s, h, rfl, h0⟩
    · exact .inl rfl

theorem parse_ref (s : List UInt8) : parseV s = refP s := by
  rcases parseV_cases s with h | ⟨h1, h2, h3⟩
  · rcases refP_cases s with k | ⟨k1, k2, k3, k4⟩
    · rw [h, k]
    · have := parse_prt k1 (right_of_prt (by rw [k2]; exact k4))
      rw [k2, h] at this
      simp at this
  · by_cases hs : s = []
    · subst hs; rw [parseV_empty]; rfl
    · have := ref_prt h1 (right_of_prt (by rw [h2]; exact hs))
      rw [h2] at this
      rw [this]
      exact Prod.ext rfl h3

theorem prt_inj {a b : V} (ha : i64ok a.n) (hb : i64ok b.n) (ra : right a = true) (rb : right b = true) (h : prt a = prt b) : a = b := by
  have h1 := parse_prt ha ra
  rw [h, parse_prt hb rb] at h1
  simpa using h1.symm
end Go.Proofs.YtopmpbdjnkomoaaDoor
